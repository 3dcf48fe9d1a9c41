/- Part 0 of what the proof stands on: Tab, A, B, C, D, E, F, G. -/
import Derived.WalkKit
import Derived.WalkSpells
import Derived.Lib.BytesEntry
set_option linter.unusedSimpArgs false
set_option linter.unnecessarySimpa false
set_option linter.unusedVariables false
set_option linter.unusedSectionVars false
namespace Go.Cab
def laidTabs : List (Nat × List Value) := [(0, [1, 10, 100, 1000, 10000, 100000, 1000000, 10000000, 100000000, 1000000000, 10000000000, 100000000000, 1000000000000, 10000000000000, 100000000000000, 1000000000000000, 10000000000000000, 100000000000000000, 1000000000000000000, 10000000000000000000].map fun n => .int .u64 n)]
end Go.Cab
namespace Go.Cab
inductive AV where
  | lit (v : Value)
  | ptr (b : Nat) (l : Nat × Nat) (off : Nat) (path : List Nat)
  | cptr (n : Nat) (v : AV)
  | sl (esz : Nat) (els : List AV)
  | own (b : Nat) (V : Value)
  | ifc (t : TypeId) (v : AV)
  | st (ns : List Nat) (fs : List AV)
  | arr (esz : Nat) (els : List AV)
  | tup (vs : List AV)
  | view (b : Nat) (l : Nat × Nat) (off : Nat) (path : List Nat) (esz lo len cap : Nat)
  | fnv (fn : Fn) (first caps : List AV)
  | any
  deriving Inhabited
abbrev AV.int (k : IntKind) (n : Int) : AV := .lit (.int k n)
abbrev AV.bool (b : Bool) : AV := .lit (.bool b)
def sc : Value → Bool
  | .agg _ | .tuple _ => false
  | _ => true
def asVal : AV → List Value → Value
  | .st _ _, cs | .arr _ _, cs => .agg cs.toArray
  | .tup _, cs => .tuple cs.toArray
  | _, cs => cs.headD undef
def At (Imm : Nat → Nat → Prop) (w : World) (b o : Nat) (cs : List Value) : Prop :=
  ∀ i v, cs[i]? = some v → w.cell? ⟨b, o + i, none⟩ = some v ∧ Imm b (o + i)
inductive R (Imm : Nat → Nat → Prop) (w : World) : AV → List Value → Prop
  | lit (v : Value) : sc v = true → R Imm w (.lit v) [v]
  | ptr (b : Nat) (l : Nat × Nat) (off : Nat) (p : List Nat) : R Imm w (.ptr b l off p) [.pointer (some ⟨l.1, l.2 + off, none⟩)]
  | cptr (n : Nat) (v : AV) (cs : List Value) (b o : Nat) : R Imm w v cs → cs.length = n → (∀ x ∈ cs, sc x = true) → At Imm w b o cs → R Imm w (.cptr n v) [.pointer (some ⟨b, o, none⟩)]
  | slnil (esz : Nat) (a : Option Addr := none) : R Imm w (.sl esz []) [.slice a 0 0]
  | sl (esz : Nat) (els : List AV) (cs : List Value) (b o cap : Nat) : R Imm w (.arr esz els) cs → At Imm w b o cs → els.length ≤ cap →
      R Imm w (.sl esz els) [.slice (some ⟨b, o, none⟩) els.length cap]
  | own (b : Nat) (V : Value) : sc V = true → R Imm w (.own b V) [V]
  | ifc (t : TypeId) (v : AV) (cs : List Value) : R Imm w v cs → R Imm w (.ifc t v) [.iface t (asVal v cs)]
  | st0 : R Imm w (.st [] []) []
  | st1 (n : Nat) (ns : List Nat) (f : AV) (fs : List AV) (c d : List Value) : R Imm w f c → c.length = n → (∀ x ∈ c, sc x = true) → R Imm w (.st ns fs) d → R Imm w (.st (n :: ns) (f :: fs)) (c ++ d)
  | arr0 (esz : Nat) : R Imm w (.arr esz []) []
  | arr1 (esz : Nat) (e : AV) (els : List AV) (c d : List Value) : R Imm w e c → c.length = esz → (∀ x ∈ c, sc x = true) → R Imm w (.arr esz els) d → R Imm w (.arr esz (e :: els)) (c ++ d)
  | view (b : Nat) (l : Nat × Nat) (off : Nat) (p : List Nat) (esz lo len cap : Nat) : R Imm w (.view b l off p esz lo len cap) [.slice (some ⟨l.1, l.2 + off, none⟩) len cap]
  | fnv (fn : Fn) (fs cs : List AV) (c d : List Value) : R Imm w (.tup fs) c → R Imm w (.tup cs) d → R Imm w (.fnv fn fs cs) [.func fn c.toArray d.toArray]
  | tup0 : R Imm w (.tup []) []
  | tup1 (v : AV) (vs : List AV) (c d : List Value) : R Imm w v c → R Imm w (.tup vs) d → R Imm w (.tup (v :: vs)) (asVal v c :: d)
def Rel (Imm : Nat → Nat → Prop) (w : World) (v : AV) (V : Value) : Prop := v = .any ∨ ∃ cs, R Imm w v cs ∧ V = asVal v cs
theorem At.mono {Imm Imm' : Nat → Nat → Prop} {w w' : World} {b o : Nat} {cs : List Value} (h : At Imm w b o cs) (hi : ∀ b o, Imm b o → Imm' b o)
    (hw : ∀ b o, Imm b o → w'.cell? ⟨b, o, none⟩ = w.cell? ⟨b, o, none⟩) : At Imm' w' b o cs := fun i v hv => by
  obtain ⟨h1, h2⟩ := h i v hv
  exact ⟨by rw [hw _ _ h2]; exact h1, hi _ _ h2⟩
theorem R.mono {Imm Imm' : Nat → Nat → Prop} {w w' : World} {v : AV} {cs : List Value} (h : R Imm w v cs) (hi : ∀ b o, Imm b o → Imm' b o)
    (hw : ∀ b o, Imm b o → w'.cell? ⟨b, o, none⟩ = w.cell? ⟨b, o, none⟩) : R Imm' w' v cs := by
  induction h with
  | lit v hv => exact .lit v hv
  | ptr b l off p => exact .ptr b l off p
  | cptr n v cs b o _ hn hs ha ih => exact .cptr n v cs b o ih hn hs (ha.mono hi hw)
  | slnil esz a => exact .slnil esz a
  | sl esz els cs b o cap _ ha hl ih => exact .sl esz els cs b o cap ih (ha.mono hi hw) hl
  | own b V hV => exact .own b V hV
  | ifc t v cs _ ih => exact .ifc t v cs ih
  | st0 => exact .st0
  | st1 n ns f fs c d _ hc hs _ ih1 ih2 => exact .st1 n ns f fs c d ih1 hc hs ih2
  | arr0 esz => exact .arr0 esz
  | arr1 esz e els c d _ hc hs _ ih1 ih2 => exact .arr1 esz e els c d ih1 hc hs ih2
  | view b l off p esz lo len cap => exact .view b l off p esz lo len cap
  | fnv fn fs cs c d _ _ ih1 ih2 => exact .fnv fn fs cs c d ih1 ih2
  | tup0 => exact .tup0
  | tup1 v vs c d _ _ ih1 ih2 => exact .tup1 v vs c d ih1 ih2
theorem Rel.mono {Imm Imm' : Nat → Nat → Prop} {w w' : World} {v : AV} {V : Value} (h : Rel Imm w v V) (hi : ∀ b o, Imm b o → Imm' b o)
    (hw : ∀ b o, Imm b o → w'.cell? ⟨b, o, none⟩ = w.cell? ⟨b, o, none⟩) : Rel Imm' w' v V := by
  rcases h with h | ⟨cs, h, e⟩
  · exact .inl h
  · exact .inr ⟨cs, h.mono hi hw, e⟩
theorem Rel.lit {Imm : Nat → Nat → Prop} {w : World} {v V : Value} (h : Rel Imm w (.lit v) V) : V = v ∧ sc v = true := by
  rcases h with h | ⟨cs, h, e⟩
  · cases h
  · cases h with
    | lit _ hs => exact ⟨e, hs⟩
theorem Rel.mkLit {Imm : Nat → Nat → Prop} {w : World} {v : Value} (h : sc v = true) : Rel Imm w (.lit v) v := .inr ⟨[v], .lit v h, rfl⟩
inductive Blk where
  | box (l : Nat × Nat) (n : Nat) (v : AV)
  | row (e : TypeId) (V : Value) (esz : Nat) (els : List AV) (seal_ : Nat)
  | map (r : Nat) (es : List (Value × Value × Nat)) (clock : Nat)
  deriving Inhabited
def Blk.foot : Blk → Nat → Nat → Prop
  | .box l n _, b, o => b = l.1 ∧ l.2 ≤ o ∧ o < l.2 + n
  | .row _ V _ _ _, b, _ => V.ownBlock = some b
  | .map r _ _, b, _ => b = r
def mapIs (w : World) (r : Nat) (es : List (Value × Value × Nat)) (clock : Nat) : Prop :=
  w.heap[r]? = some (.map (es.map fun e => ⟨e.1, e.2.1, e.2.2⟩).toArray clock) ∧ (∀ e ∈ es, e.2.2 < clock ∧ sc e.1 = true ∧ sc e.2.1 = true) ∧ es.Pairwise fun a b => a.2.2 ≠ b.2.2
def Blk.ok (Imm : Nat → Nat → Prop) (w : World) : Blk → Prop
  | .box l n v => (∃ cs, R Imm w v cs ∧ cs.length = n ∧ (∀ x ∈ cs, sc x = true) ∧ ∀ i x, cs[i]? = some x → w.cell? ⟨l.1, l.2 + i, none⟩ = some x) ∧
      ∀ i, i < n → w.frozen? ⟨l.1, l.2 + i, none⟩ = false ∧ ¬ Imm l.1 (l.2 + i)
  | .row e V esz els s => ∃ cs, R Imm w (.arr esz els) cs ∧ w.ownsRow 0 e esz V els.length cs ∧ sc V = true ∧ s ≤ els.length ∧ ∀ b o, V.ownBlock = some b → s * esz ≤ o → ¬ Imm b o
  | .map r es clock => mapIs w r es clock ∧ ∀ o, ¬ Imm r o
end Go.Cab
namespace Go.Cab
open Go.RowKit
def inReg (regs : List (Nat × Nat × Nat)) (b o : Nat) : Prop := ∃ r ∈ regs, b = r.1 ∧ r.2.1 ≤ o ∧ o < r.2.1 + r.2.2
structure Fr (regs : List (Nat × Nat × Nat)) (w0 w : World) : Prop where
  os : w.os = w0.os
  tape : w.tape = w0.tape
  output : w.output = w0.output
  size : w0.heap.size ≤ w.heap.size
  block : ∀ k, k < w0.heap.size → (∀ r ∈ regs, r.1 ≠ k) → w.heap[k]? = w0.heap[k]?
  cell : ∀ b o, b < w0.heap.size → ¬ inReg regs b o → w.cell? ⟨b, o, none⟩ = w0.cell? ⟨b, o, none⟩
  frozen : ∀ b o, b < w0.heap.size → w.frozen? ⟨b, o, none⟩ = w0.frozen? ⟨b, o, none⟩
def TabOk (regs : List (Nat × Nat × Nat)) (w : World) : Prop := ∀ x ∈ laidTabs, (∃ t fr, w.heap[x.1]? = some (.cells x.2.toArray t fr)) ∧ ∀ r ∈ regs, r.1 ≠ x.1
structure Live (regs : List (Nat × Nat × Nat)) (w0 : World) (St : Nat → Nat → Prop) (w : World) : Prop where
  there : ∀ b o, St b o → (w.cell? ⟨b, o, none⟩).isSome = true
  tab : TabOk regs w0
theorem TabOk.lt {regs : List (Nat × Nat × Nat)} {w : World} (h : TabOk regs w) {x : Nat × List Value} (hx : x ∈ laidTabs) : x.1 < w.heap.size := by
  obtain ⟨⟨t, fr, h⟩, _⟩ := h x hx
  exact (Array.getElem?_eq_some_iff.1 h).1
theorem TabOk.go {regs : List (Nat × Nat × Nat)} {w0 w : World} (h : TabOk regs w0) (k : Fr regs w0 w) : TabOk regs w := fun x hx => by
  obtain ⟨⟨t, fr, h1⟩, h2⟩ := h x hx
  exact ⟨⟨t, fr, by rw [k.block _ (h.lt hx) h2]; exact h1⟩, h2⟩
theorem TabOk.none {regs : List (Nat × Nat × Nat)} {w : World} (h : TabOk regs w) : TabOk [] w := fun x hx => ⟨(h x hx).1, fun r hr => by cases hr⟩
theorem TabOk.one {regs : List (Nat × Nat × Nat)} {w : World} (h : TabOk regs w) {w0 : World} (hs : w0.heap.size ≤ w.heap.size) (h0 : TabOk regs w0) {l : Nat × Nat × Nat} {o : Nat} (hl : w0.heap.size ≤ l.1 ∨ inReg regs l.1 o) : TabOk [l] w := fun x hx => ⟨(h x hx).1, fun r hr => by
  simp only [List.mem_singleton] at hr
  subst hr
  rcases hl with hl | ⟨r, hr, e, _⟩
  · have := h0.lt hx; omega
  · rw [e]; exact (h x hx).2 r hr⟩
theorem Fr.refl (regs : List (Nat × Nat × Nat)) (w : World) : Fr regs w w := ⟨rfl, rfl, rfl, Nat.le_refl _, fun _ _ _ => rfl, fun _ _ _ _ => rfl, fun _ _ _ => rfl⟩
theorem Fr.trans {regs : List (Nat × Nat × Nat)} {a b c : World} (h : Fr regs a b) (k : Fr regs b c) : Fr regs a c :=
  ⟨k.os.trans h.os, k.tape.trans h.tape, k.output.trans h.output, Nat.le_trans h.size k.size,
    fun i hi hr => (k.block i (Nat.lt_of_lt_of_le hi h.size) hr).trans (h.block i hi hr),
    fun x o hx hr => (k.cell x o (Nat.lt_of_lt_of_le hx h.size) hr).trans (h.cell x o hx hr),
    fun x o hx => (k.frozen x o (Nat.lt_of_lt_of_le hx h.size)).trans (h.frozen x o hx)⟩
theorem Fr.below {w0 w : World} (h : Fr [] w0 w) : Below w0.heap.size w0 w :=
  ⟨h.os, h.tape, h.output, h.size, fun k hk => h.block k hk (by simp)⟩
theorem Fr.of_below {w0 w : World} (h : Below w0.heap.size w0 w) (regs : List (Nat × Nat × Nat)) : Fr regs w0 w :=
  ⟨h.os, h.tape, h.output, h.size, fun k hk _ => h.block k hk, fun b _ hb _ => h.cell (p := ⟨b, _, none⟩) hb, fun b _ hb => h.frozen (p := ⟨b, _, none⟩) hb⟩
theorem Fr.alloc (regs : List (Nat × Nat × Nat)) (w : World) (o : Obj) : Fr regs w (w.alloc o) := .of_below ((Below.refl _ _).alloc (Nat.le_refl _) o) regs
theorem Fr.drew (regs : List (Nat × Nat × Nat)) (w : World) : Fr regs w w.drew := .of_below (Below.refl _ _).drew regs
structure AS where
  nr : Nat
  tm : List AV
  hp : List (Option Blk)
  deriving Inhabited
def AS.put (s : AS) (dst : Option Tmp) (v : AV) : AS := match dst with | some d => { s with tm := s.tm.set d v } | none => s
def AS.ev (s : AS) : Operand → AV
  | .tmp t => s.tm.getD t .any
  | .const v => .lit v
  | .global g => .lit (.pointer (some ⟨g, 0, none⟩))
  | .func f => .lit (.func (.func f) #[] #[])
def AS.blk (s : AS) (b : Nat) : Option Blk := (s.hp[b]?).join
def AS.setBlk (s : AS) (b : Nat) (x : Option Blk) : AS := { s with hp := s.hp.set b x }
structure ImmOk (w0 wk : World) (St Imm : Nat → Nat → Prop) (w : World) : Prop where
  sub : ∀ b o, St b o → Imm b o
  old : ∀ b o, Imm b o → b < w0.heap.size → St b o
  there : ∀ b o, Imm b o → (w.cell? ⟨b, o, none⟩).isSome = true
  val : ∀ b o, St b o → w.cell? ⟨b, o, none⟩ = wk.cell? ⟨b, o, none⟩
structure HeapOk (w0 : World) (regs : List (Nat × Nat × Nat)) (Imm : Nat → Nat → Prop) (hp : List (Option Blk)) (w : World) : Prop where
  ok : ∀ (k : Nat) (x : Blk), (hp[k]?).join = some x → x.ok Imm w ∧ ∀ b o, x.foot b o → b < w.heap.size ∧ (w0.heap.size ≤ b ∨ inReg regs b o)
  apart : ∀ (k k' : Nat) (x y : Blk), k ≠ k' → (hp[k]?).join = some x → (hp[k']?).join = some y → ∀ b o, x.foot b o → ¬ y.foot b o
def TmOk (Imm : Nat → Nat → Prop) (w : World) (tm : List AV) (tmps : Array Value) : Prop := ∀ (t : Nat) (v : AV), tm[t]? = some v → Rel Imm w v (tmps.getD t undef)
structure SRel (w0 wk : World) (regs : List (Nat × Nat × Nat)) (St : Nat → Nat → Prop) (s : AS) (a : Act) (w : World) : Prop where
  defers : a.defers = []
  tsize : a.tmps.size = s.tm.length
  tab : TabOk regs w0
  frame : Fr regs w0 w
  ex : ∃ Imm : Nat → Nat → Prop, ImmOk w0 wk St Imm w ∧ TmOk Imm w s.tm a.tmps ∧ HeapOk w0 regs Imm s.hp w
section
variable {w0 wk : World} {regs : List (Nat × Nat × Nat)} {St Imm Imm' : Nat → Nat → Prop} {s : AS} {a : Act} {w w' : World} {dst : Option Tmp} {v : AV} {V : Value} {hp' : List (Option Blk)}
theorem TmOk.eval (h : TmOk Imm w s.tm a.tmps) (x : Operand) (hx : ∀ v, x = .const v → sc v = true) : Rel Imm w (s.ev x) (a.eval x) := by
  cases x with
  | tmp t =>
    simp only [AS.ev, Act.eval]
    cases ht : s.tm[t]? with
    | none => left; simp [List.getD, ht]
    | some v => simpa [List.getD, ht] using h t v ht
  | const v => exact Rel.mkLit (hx v rfl)
  | global g => exact Rel.mkLit rfl
  | func f => exact Rel.mkLit rfl
theorem tmps_getD_put (a : Act) (d t : Nat) (V : Value) (hd : d < a.tmps.size) : (a.put (some d) V).tmps.getD t undef = if t = d then V else a.tmps.getD t undef := by
  simp only [Act.put, Array.getD_eq_getD_getElem?, Array.getElem?_setIfInBounds]
  by_cases h : d = t
  · subst h; simp [hd]
  · simp [h, Ne.symm h]
theorem TmOk.put (h3 : TmOk Imm w s.tm a.tmps) (hts : a.tmps.size = s.tm.length) (hI : ∀ b o, Imm b o → Imm' b o) (hIw : ∀ b o, Imm b o → w'.cell? ⟨b, o, none⟩ = w.cell? ⟨b, o, none⟩)
    (hv : dst = none ∨ Rel Imm' w' v V) : TmOk Imm' w' (s.put dst v).tm (a.put dst V).tmps := by
  intro t u hu
  cases dst with
  | none => exact (h3 t u (by simpa [AS.put] using hu)).mono hI hIw
  | some d =>
    simp only [AS.put, List.getElem?_set] at hu
    by_cases hdt : d = t
    · subst hdt
      simp only [if_true] at hu
      split at hu
      · rename_i hlt
        cases hu
        rw [tmps_getD_put _ _ _ _ (by omega), if_pos rfl]
        exact hv.resolve_left (by simp)
      · cases hu
    · rw [if_neg hdt] at hu
      by_cases hlt : d < a.tmps.size
      · rw [tmps_getD_put _ _ _ _ hlt, if_neg (Ne.symm hdt)]
        exact (h3 t u hu).mono hI hIw
      · have : (a.put (some d) V).tmps = a.tmps := by simp [Act.put, Array.setIfInBounds, hlt]
        rw [this]
        exact (h3 t u hu).mono hI hIw
theorem put_hp (s : AS) (dst : Option Tmp) (v : AV) : (s.put dst v).hp = s.hp := by cases dst <;> rfl
theorem put_nr (s : AS) (dst : Option Tmp) (v : AV) : (s.put dst v).nr = s.nr := by cases dst <;> rfl
theorem put_len (s : AS) (dst : Option Tmp) (v : AV) : (s.put dst v).tm.length = s.tm.length := by cases dst <;> simp [AS.put]
theorem aput_size (a : Act) (dst : Option Tmp) (V : Value) : (a.put dst V).tmps.size = a.tmps.size := by cases dst <;> simp [Act.put]
theorem aput_defers (a : Act) (dst : Option Tmp) (V : Value) : (a.put dst V).defers = a.defers := by cases dst <;> rfl
theorem setBlk_put (s : AS) (dst : Option Tmp) (v : AV) (b : Nat) (x : Option Blk) : (s.setBlk b x).put dst v = (s.put dst v).setBlk b x := by cases dst <;> rfl
theorem SRel.put (h : SRel w0 wk regs St s a w) (hfr : Fr regs w w') (h3 : TmOk Imm w s.tm a.tmps) (hI : ∀ b o, Imm b o → Imm' b o)
    (hIw : ∀ b o, Imm b o → w'.cell? ⟨b, o, none⟩ = w.cell? ⟨b, o, none⟩) (h2 : ImmOk w0 wk St Imm' w') (h4 : HeapOk w0 regs Imm' hp' w') (hv : dst = none ∨ Rel Imm' w' v V) :
    SRel w0 wk regs St { s.put dst v with hp := hp' } (a.put dst V) w' :=
  ⟨by rw [aput_defers]; exact h.defers, by rw [aput_size, put_len]; exact h.tsize, h.tab, h.frame.trans hfr, Imm', h2, h3.put h.tsize hI hIw hv, h4⟩
theorem SRel.put0 (h : SRel w0 wk regs St s a w) (h1 : ImmOk w0 wk St Imm w) (h3 : TmOk Imm w s.tm a.tmps) (h4 : HeapOk w0 regs Imm s.hp w) (hv : Rel Imm w v V) :
    SRel w0 wk regs St (s.put dst v) (a.put dst V) w := by
  have := SRel.put (dst := dst) (hp' := s.hp) h (Fr.refl _ _) h3 (fun _ _ h => h) (fun _ _ _ => rfl) h1 h4 (.inr hv)
  rw [← put_hp s dst v] at this
  exact this
theorem SRel.drew (h : SRel w0 wk regs St s a w) : SRel w0 wk regs St s a w.drew := by
  obtain ⟨Imm, h1, h2, h3⟩ := h.ex
  refine ⟨h.defers, h.tsize, h.tab, h.frame.trans (Fr.drew _ _), Imm, ⟨h1.sub, h1.old, h1.there, h1.val⟩, fun t v ht => (h2 t v ht).mono (fun _ _ h => h) (fun _ _ _ => rfl), fun k x hx => ?_, h3.apart⟩
  obtain ⟨ha, hb⟩ := h3.ok k x hx
  refine ⟨?_, hb⟩
  cases x with
  | box l n v =>
    obtain ⟨⟨cs, hc, h⟩, h'⟩ := ha
    exact ⟨⟨cs, hc.mono (fun _ _ h => h) (fun _ _ _ => rfl), h⟩, h'⟩
  | row e V esz els s =>
    obtain ⟨cs, hc, h⟩ := ha
    exact ⟨cs, hc.mono (fun _ _ h => h) (fun _ _ _ => rfl), h⟩
  | map r es clock => exact ha
def Blk.whole : Blk → Nat → Prop
  | .box _ _ _, _ => False
  | .row _ V _ _ _, b => V.ownBlock = some b
  | .map r _ _, b => b = r
theorem Blk.whole_foot {x : Blk} {b : Nat} (h : x.whole b) (o : Nat) : x.foot b o := by cases x <;> first | exact h.elim | exact h
theorem Blk.ok.keep {x : Blk} (h : x.ok Imm w) (hI : ∀ b o, Imm b o → Imm' b o) (hIw : ∀ b o, Imm b o → w'.cell? ⟨b, o, none⟩ = w.cell? ⟨b, o, none⟩)
    (hnew : ∀ b o, x.foot b o → Imm' b o → Imm b o) (hc : ∀ b o, x.foot b o → w'.cell? ⟨b, o, none⟩ = w.cell? ⟨b, o, none⟩)
    (hf : ∀ b o, x.foot b o → w'.frozen? ⟨b, o, none⟩ = w.frozen? ⟨b, o, none⟩)
    (hb : ∀ b, x.whole b → w'.heap[b]? = w.heap[b]?) : x.ok Imm' w' := by
  cases x with
  | box l n v =>
    obtain ⟨⟨cs, hcs, hl, hsc, hcell⟩, h'⟩ := h
    refine ⟨⟨cs, hcs.mono hI hIw, hl, hsc, fun i y hy => ?_⟩, fun i hi => ⟨?_, fun hm => (h' i hi).2 (hnew _ _ ⟨rfl, by omega, by omega⟩ hm)⟩⟩
    · have : i < cs.length := (List.getElem?_eq_some_iff.1 hy).1
      rw [hc _ _ ⟨rfl, by omega, by omega⟩]; exact hcell i y hy
    · rw [hf _ _ ⟨rfl, by omega, by omega⟩]; exact (h' i hi).1
  | row e V esz els s =>
    obtain ⟨cs, hcs, hown, hsV, hs, hm⟩ := h
    refine ⟨cs, hcs.mono hI hIw, ?_, hsV, hs, fun b o hb1 ho hm' => hm b o hb1 ho (hnew _ _ hb1 hm')⟩
    refine ⟨hown.1, ?_⟩
    rcases hown.2 with hn | ⟨g, cap, cur, rfl, h0, hg, hrest⟩
    · exact .inl hn
    · exact .inr ⟨g, cap, cur, rfl, h0, by rw [hb g rfl]; exact hg, hrest⟩
  | map r es clock =>
    obtain ⟨⟨hg, hrest⟩, hm⟩ := h
    exact ⟨⟨by rw [hb r rfl]; exact hg, hrest⟩, fun o hm' => hm o (hnew _ _ rfl hm')⟩
theorem HeapOk.grow {hp : List (Option Blk)} (h : HeapOk w0 regs Imm hp w) (hfr : Fr [] w w') (hI : ∀ b o, Imm b o → Imm' b o) (hnew : ∀ b o, Imm' b o → b < w.heap.size → Imm b o)
    (hth : ∀ b o, Imm b o → (w.cell? ⟨b, o, none⟩).isSome = true) : HeapOk w0 regs Imm' hp w' := by
  have hIw : ∀ b o, Imm b o → w'.cell? ⟨b, o, none⟩ = w.cell? ⟨b, o, none⟩ := fun b o hb => by
    obtain ⟨y, hy⟩ := Option.isSome_iff_exists.1 (hth b o hb)
    exact hfr.cell b o (World.block_lt_of_cell? w _ hy) (by simp [inReg])
  refine ⟨fun k x hx => ?_, h.apart⟩
  obtain ⟨ha, hb⟩ := h.ok k x hx
  refine ⟨ha.keep hI hIw (fun b o hf hi => hnew b o hi (hb b o hf).1) (fun b o hf => hfr.cell b o (hb b o hf).1 (by simp [inReg])) (fun b o hf => hfr.frozen b o (hb b o hf).1) ?_, fun b o hf => ⟨Nat.lt_of_lt_of_le (hb b o hf).1 hfr.size, (hb b o hf).2⟩⟩
  intro b hV
  exact hfr.block b (hb b 0 (Blk.whole_foot hV 0)).1 (by simp)
end
end Go.Cab
namespace Go.Cab
open Go.RowKit
open Classical
def AV.sz : AV → Nat
  | .st ns _ => ns.sum
  | .arr esz els => els.length * esz
  | _ => 1
def AV.isAgg : AV → Bool
  | .st _ _ | .arr _ _ => true
  | _ => false
def AV.isTup : AV → Bool
  | .tup _ | .any => true
  | _ => false
def AV.nav : AV → Nat → Nat → List Nat → Option (Nat × Nat × AV)
  | v, acc, n, [] => some (acc, n, v)
  | .st ns fs, acc, _, i :: p => match ns[i]?, fs[i]? with
    | some n, some f => f.nav (acc + (ns.take i).sum) n p
    | _, _ => none
  | .arr esz els, acc, _, i :: p => match els[i]? with
    | some e => e.nav (acc + i * esz) esz p
    | none => none
  | _, _, _, _ :: _ => none
termination_by _ _ _ p => p.length
def AV.upd : AV → List Nat → AV → AV
  | _, [], u => u
  | .st ns fs, i :: p, u => .st ns (fs.set i ((fs.getD i .any).upd p u))
  | .arr esz els, i :: p, u => .arr esz (els.set i ((els.getD i .any).upd p u))
  | v, _ :: _, _ => v
termination_by _ p _ => p.length
def binVal (op : BinOp) (x y : Value) : Option Value :=
  match x, y with
  | .int k a, .int k' b =>
    match op with
    | .shl => if b < 0 then none else some (.int k (k.wrap (a * 2 ^ (min b.toNat k.bits))))
    | .shr => if b < 0 then none else some (.int k (a.fdiv (2 ^ (min b.toNat k.bits))))
    | .quo => if k ≠ k' then none else if b = 0 then none else some (.int k (k.wrap (a.tdiv b)))
    | .rem => if k ≠ k' then none else if b = 0 then none else some (.int k (a.tmod b))
    | .add => if k ≠ k' then none else some (.int k (k.wrap (a + b)))
    | .sub => if k ≠ k' then none else some (.int k (k.wrap (a - b)))
    | .mul => if k ≠ k' then none else some (.int k (k.wrap (a * b)))
    | .and => if k ≠ k' then none else some (.int k (k.wrap (BitVec.ofInt k.bits a &&& BitVec.ofInt k.bits b).toNat))
    | .or => if k ≠ k' then none else some (.int k (k.wrap (BitVec.ofInt k.bits a ||| BitVec.ofInt k.bits b).toNat))
    | .xor => if k ≠ k' then none else some (.int k (k.wrap (BitVec.ofInt k.bits a ^^^ BitVec.ofInt k.bits b).toNat))
    | .andNot => if k ≠ k' then none else some (.int k (k.wrap (BitVec.ofInt k.bits a &&& ~~~ (BitVec.ofInt k.bits b)).toNat))
    | .eql => if k ≠ k' then none else some (.bool (a == b))
    | .neq => if k ≠ k' then none else some (.bool (a != b))
    | .lss => if k ≠ k' then none else some (.bool (a < b))
    | .leq => if k ≠ k' then none else some (.bool (a ≤ b))
    | .gtr => if k ≠ k' then none else some (.bool (a > b))
    | .geq => if k ≠ k' then none else some (.bool (a ≥ b))
  | .string a, .string b =>
    match op with
    | .add => if ((a.size + b.size : Nat) : Int) > IntKind.i64.max then none else some (.string (a ++ b))
    | .eql => some (.bool (a.toList == b.toList))
    | .neq => some (.bool !(a.toList == b.toList))
    | .lss => some (.bool (Op.bytesLess a.toList b.toList))
    | .leq => some (.bool (Op.bytesLess a.toList b.toList || (a.toList == b.toList)))
    | .gtr => some (.bool !(Op.bytesLess a.toList b.toList || (a.toList == b.toList)))
    | .geq => some (.bool !(Op.bytesLess a.toList b.toList))
    | _ => none
  | _, _ => none
def plainEq (P : Program) (t : TypeId) : Bool :=
  match P.underlying t with
  | some (.int _) | some .string => true
  | _ => false
theorem run_binVal {P : Program} {op : BinOp} {t : TypeId} {x y v : Value} {X Y : Operand} {w : World} (h : binVal op x y = some v) :
    (do eqGuard op t X Y x y; binOp op t x y : Sem Value).run P w = .ok v w := by
  cases x <;> cases y <;> try (simp [binVal] at h; done)
  case int.int k a k' b =>
    cases op <;> simp only [binVal] at h
    case shl => split at h <;> simp at h; subst h; simp [eqGuard, binOp, Op.shift, *]
    case shr => split at h <;> simp at h; subst h; simp [eqGuard, binOp, Op.shift, *]
    all_goals
      by_cases hk : k = k'
      case neg => simp [hk] at h
      subst hk
      simp at h
    all_goals first
      | (obtain ⟨h0, h⟩ := h; subst h; simp [eqGuard, binOp, Op.intArith, Op.intBits, Op.intDiv, Op.intCmp, h0])
      | (subst h; simp [eqGuard, binOp, Op.intArith, Op.intBits, Op.intDiv, Op.intCmp])
  case string.string a b =>
    cases op <;> simp only [binVal] at h <;> try (simp at h; done)
    case add =>
      split at h
      · simp at h
      · rename_i hgt
        simp only [Option.some.injEq] at h
        subst h
        have hgt' : ¬ (IntKind.i64.max < ((a.size + b.size : Nat) : Int)) := hgt
        simp only [eqGuard, binOp, Op.stringOp, GT.gt, if_neg hgt']
        simp
    all_goals (simp only [Option.some.injEq] at h; subst h; simp [eqGuard, binOp, Op.stringOp])
def unVal (op : UnOp) (x : Value) : Option Value :=
  match op, x with
  | .neg, .int k n => some (.int k (k.wrap (0 - n)))
  | .xor, .int k n => some (.int k (k.wrap (BitVec.ofInt k.bits (if k.signed then -1 else k.max) ^^^ BitVec.ofInt k.bits n).toNat))
  | .not, .bool b => some (.bool !b)
  | _, _ => none
theorem run_unVal {P : Program} {op : UnOp} {x v : Value} {w : World} (h : unVal op x = some v) : (Op.unary op x).run P w = .ok v w := by
  cases op <;> cases x <;> simp [unVal] at h <;> subst h <;> simp [Op.unary, Op.intArith, Op.intBits]
end Go.Cab
namespace Go.Cab
open Go.RowKit
open Classical
section
variable {Imm : Nat → Nat → Prop} {w : World}
theorem R.scs {v : AV} {cs : List Value} (h : R Imm w v cs) (ht : v.isTup = false) : ∀ x ∈ cs, sc x = true := by
  induction h with
  | lit v hv => simpa using hv
  | ptr b l off p => simp [sc]
  | cptr n v cs b o _ hn hs ha ih => simp [sc]
  | slnil esz a => simp [sc]
  | sl esz els cs b o cap _ ha hl ih => simp [sc]
  | own b V hV => simpa using hV
  | ifc t v cs _ ih => simp [sc]
  | st0 => simp
  | st1 n ns f fs c d _ hc hs _ ih1 ih2 =>
    intro x hx
    rcases List.mem_append.1 hx with hx | hx
    · exact hs x hx
    · exact ih2 rfl x hx
  | arr0 esz => simp
  | arr1 esz e els c d _ hc hs _ ih1 ih2 =>
    intro x hx
    rcases List.mem_append.1 hx with hx | hx
    · exact hs x hx
    · exact ih2 rfl x hx
  | view => simp [sc]
  | fnv => simp [sc]
  | tup0 => simp [AV.isTup] at ht
  | tup1 v vs c d _ _ ih1 ih2 => simp [AV.isTup] at ht
theorem R.len {v : AV} {cs : List Value} (h : R Imm w v cs) (ht : v.isTup = false) : cs.length = v.sz := by
  induction h with
  | st1 n ns f fs c d _ hc hs _ ih1 ih2 =>
    have := ih2 rfl
    simp only [AV.sz] at this
    simp [AV.sz, hc, this]
  | arr1 esz e els c d _ hc hs _ ih1 ih2 =>
    have := ih2 rfl
    simp only [AV.sz] at this
    simp [AV.sz, hc, this, Nat.add_mul, Nat.add_comm]
  | tup0 => simp [AV.isTup] at ht
  | tup1 v vs c d _ _ ih1 ih2 => simp [AV.isTup] at ht
  | _ => simp [AV.sz]
theorem R.cells {v : AV} {cs : List Value} (h : R Imm w v cs) (ht : v.isTup = false) : (asVal v cs).cells = cs.toArray := by
  cases v with
  | st ns fs => rfl
  | arr esz els => rfl
  | tup vs => simp [AV.isTup] at ht
  | any => simp [AV.isTup] at ht
  | _ =>
    have hl := h.len rfl
    have hs := h.scs rfl
    simp only [AV.sz] at hl
    match cs, hl with
    | [x], _ =>
      have hx := hs x (by simp)
      simp only [asVal, List.headD_cons]
      cases x <;> simp [sc] at hx <;> rfl
theorem R.notAny {cs : List Value} (h : R Imm w .any cs) : False := by cases h
theorem R.field {ns : List Nat} {fs : List AV} {cs : List Value} (h : R Imm w (.st ns fs) cs) : ∀ (i n : Nat) (f : AV), ns[i]? = some n → fs[i]? = some f →
    ∃ pre c post, cs = pre ++ c ++ post ∧ pre.length = (ns.take i).sum ∧ c.length = n ∧ R Imm w f c ∧ (∀ x ∈ c, sc x = true) ∧
      ∀ f' c', R Imm w f' c' → c'.length = n → (∀ x ∈ c', sc x = true) → R Imm w (.st ns (fs.set i f')) (pre ++ c' ++ post) := by
  generalize hv : AV.st ns fs = v at h
  induction h generalizing ns fs with
  | st0 => cases hv; intro i n f h; simp at h
  | st1 m ms g gs c d hg hc hs hr ih1 ih2 =>
    cases hv
    intro i n f hn hf
    cases i with
    | zero =>
      simp only [List.getElem?_cons_zero, Option.some.injEq] at hn hf
      subst hn; subst hf
      exact ⟨[], c, d, by simp, by simp, hc, hg, hs, fun f' c' h1 h2 h3 => by simpa using R.st1 _ _ _ _ _ _ h1 h2 h3 hr⟩
    | succ i =>
      simp only [List.getElem?_cons_succ] at hn hf
      obtain ⟨pre, c1, post, e, hp, hc1, hf1, hs1, hset⟩ := ih2 rfl i n f hn hf
      refine ⟨c ++ pre, c1, post, by rw [e]; simp, by simp [hc, hp], hc1, hf1, hs1, fun f' c' h1 h2 h3 => ?_⟩
      have := R.st1 m ms g _ c _ hg hc hs (hset f' c' h1 h2 h3)
      simpa using this
  | _ => cases hv
theorem R.elem {esz : Nat} {els : List AV} {cs : List Value} (h : R Imm w (.arr esz els) cs) : ∀ (i : Nat) (f : AV), els[i]? = some f →
    ∃ pre c post, cs = pre ++ c ++ post ∧ pre.length = i * esz ∧ c.length = esz ∧ R Imm w f c ∧ (∀ x ∈ c, sc x = true) ∧
      ∀ f' c', R Imm w f' c' → c'.length = esz → (∀ x ∈ c', sc x = true) → R Imm w (.arr esz (els.set i f')) (pre ++ c' ++ post) := by
  generalize hv : AV.arr esz els = v at h
  induction h generalizing esz els with
  | arr0 => cases hv; intro i f h; simp at h
  | arr1 esz' g gs c d hg hc hs hr ih1 ih2 =>
    cases hv
    intro i f hf
    cases i with
    | zero =>
      simp only [List.getElem?_cons_zero, Option.some.injEq] at hf
      subst hf
      exact ⟨[], c, d, by simp, by simp, hc, hg, hs, fun f' c' h1 h2 h3 => by simpa using R.arr1 _ _ _ _ _ h1 h2 h3 hr⟩
    | succ i =>
      simp only [List.getElem?_cons_succ] at hf
      obtain ⟨pre, c1, post, e, hp, hc1, hf1, hs1, hset⟩ := ih2 rfl i f hf
      refine ⟨c ++ pre, c1, post, by rw [e]; simp, by simp [hc, hp, Nat.add_mul, Nat.add_comm], hc1, hf1, hs1, fun f' c' h1 h2 h3 => ?_⟩
      have := R.arr1 _ g _ c _ hg hc hs (hset f' c' h1 h2 h3)
      simpa using this
  | _ => cases hv
theorem R.nav : ∀ (p : List Nat) (v : AV) (acc n o m : Nat) (u : AV) (cs : List Value), R Imm w v cs → (∀ x ∈ cs, sc x = true) → cs.length = n → v.nav acc n p = some (o, m, u) →
    ∃ pre c post, cs = pre ++ c ++ post ∧ o = acc + pre.length ∧ c.length = m ∧ R Imm w u c ∧ (∀ x ∈ c, sc x = true) ∧
      ∀ u' c', R Imm w u' c' → c'.length = m → (∀ x ∈ c', sc x = true) → R Imm w (v.upd p u') (pre ++ c' ++ post)
  | [], v, acc, n, o, m, u, cs, h, hs, hl, hn => by
    simp only [AV.nav, Option.some.injEq, Prod.mk.injEq] at hn
    obtain ⟨rfl, rfl, rfl⟩ := hn
    exact ⟨[], cs, [], by simp, by simp, hl, h, hs, fun u' c' h1 h2 h3 => by simpa [AV.upd] using h1⟩
  | i :: p, .st ns fs, acc, n, o, m, u, cs, h, hs, hl, hn => by
    simp only [AV.nav] at hn
    split at hn
    · rename_i k f hk hf
      obtain ⟨pre, c, post, e, hp, hc, hf1, hs1, hset⟩ := h.field i k f hk hf
      obtain ⟨pre', c', post', e', ho, hc', hu, hs', hset'⟩ := R.nav p f _ k o m u c hf1 hs1 hc hn
      refine ⟨pre ++ pre', c', post' ++ post, by rw [e, e']; simp, by simp [ho, hp]; omega, hc', hu, hs', fun u' c2 h1 h2 h3 => ?_⟩
      have hlen : (pre' ++ c2 ++ post').length = k := by rw [← hc, e']; simp [h2, hc']
      have h4 := hset _ _ (hset' u' c2 h1 h2 h3) hlen (by
        intro x hx
        rcases List.mem_append.1 hx with hx | hx
        · rcases List.mem_append.1 hx with hx | hx
          · exact hs1 x (by rw [e']; simp [hx])
          · exact h3 x hx
        · exact hs1 x (by rw [e']; simp [hx]))
      have hg : fs.getD i .any = f := by simp [List.getD, hf]
      rw [AV.upd, hg]
      simpa using h4
    · cases hn
  | i :: p, .arr esz els, acc, n, o, m, u, cs, h, hs, hl, hn => by
    simp only [AV.nav] at hn
    split at hn
    · rename_i f hf
      obtain ⟨pre, c, post, e, hp, hc, hf1, hs1, hset⟩ := h.elem i f hf
      obtain ⟨pre', c', post', e', ho, hc', hu, hs', hset'⟩ := R.nav p f _ esz o m u c hf1 hs1 hc hn
      refine ⟨pre ++ pre', c', post' ++ post, by rw [e, e']; simp, by simp [ho, hp]; omega, hc', hu, hs', fun u' c2 h1 h2 h3 => ?_⟩
      have hlen : (pre' ++ c2 ++ post').length = esz := by rw [← hc, e']; simp [h2, hc']
      have h4 := hset _ _ (hset' u' c2 h1 h2 h3) hlen (by
        intro x hx
        rcases List.mem_append.1 hx with hx | hx
        · rcases List.mem_append.1 hx with hx | hx
          · exact hs1 x (by rw [e']; simp [hx])
          · exact h3 x hx
        · exact hs1 x (by rw [e']; simp [hx]))
      have hg : els.getD i .any = f := by simp [List.getD, hf]
      rw [AV.upd, hg]
      simpa using h4
    · cases hn
  | i :: p, .lit _, _, _, _, _, _, _, _, _, _, hn => by simp [AV.nav] at hn
  | i :: p, .ptr _ _ _ _, _, _, _, _, _, _, _, _, _, hn => by simp [AV.nav] at hn
  | i :: p, .cptr _ _, _, _, _, _, _, _, _, _, _, hn => by simp [AV.nav] at hn
  | i :: p, .sl _ _, _, _, _, _, _, _, _, _, _, hn => by simp [AV.nav] at hn
  | i :: p, .own _ _, _, _, _, _, _, _, _, _, _, hn => by simp [AV.nav] at hn
  | i :: p, .ifc _ _, _, _, _, _, _, _, _, _, _, hn => by simp [AV.nav] at hn
  | i :: p, .tup _, _, _, _, _, _, _, _, _, _, hn => by simp [AV.nav] at hn
  | i :: p, .view .., _, _, _, _, _, _, _, _, _, hn => by simp [AV.nav] at hn
  | i :: p, .fnv .., _, _, _, _, _, _, _, _, _, hn => by simp [AV.nav] at hn
  | i :: p, .any, _, _, _, _, _, _, _, _, _, hn => by simp [AV.nav] at hn
end
end Go.Cab
namespace Go.Cab
open Go.RowKit
open Classical
def locOf (V : Value) : Nat × Nat := (V.ownBlock.getD 0, 0)
def Blk.loc : Blk → Nat × Nat
  | .box l _ _ => l
  | .row _ V _ _ _ => locOf V
  | .map r _ _ => (r, 0)
def Blk.cont : Blk → AV
  | .box _ _ v => v
  | .row _ _ esz els _ => .arr esz els
  | .map _ _ _ => .st [] []
def Blk.n : Blk → Nat
  | .box _ n _ => n
  | .row _ _ esz els _ => els.length * esz
  | .map _ _ _ => 0
def Blk.may (off : Nat) (p : List Nat) : Blk → Bool
  | .box _ _ _ => true
  | .row _ _ esz _ s => !p.isEmpty && s * esz ≤ off
  | .map _ _ _ => false
def Blk.upd (p : List Nat) (u : AV) : Blk → Blk
  | .box l n v => .box l n (v.upd p u)
  | .row e V esz els s => .row e V esz (match p with | [] => els | i :: p => els.set i ((els.getD i .any).upd p u)) s
  | .map r es c => .map r es c
inductive PrimOp where
  | sidx
  | ssub (lo hi : Bool)
  | imin
  | imax
  | ibyte
  deriving Inhabited
def bound (v : Value) (y : Nat) : Option Nat :=
  match v with
  | .int _ n => if 0 ≤ n ∧ n ≤ y then some n.toNat else none
  | _ => none
def primVal : PrimOp → List Value → Option Value
  | .sidx, [.string s, .int _ n] => match (if 0 ≤ n then s[n.toNat]? else none) with
    | some b => some (.int .u8 b.toNat)
    | none => none
  | .ssub false false, [.string s] => some (.string (s.extract 0 s.size))
  | .ssub true false, [.string s, l] => (bound l s.size).map fun l => .string (s.extract l s.size)
  | .ssub false true, [.string s, h] => (bound h s.size).map fun h => .string (s.extract 0 h)
  | .ssub true true, [.string s, l, h] => (bound h s.size).bind fun h => (bound l h).map fun l => .string (s.extract l h)
  | .imin, [.int k x, .int _ y] => some (.int k (if y < x then y else x))
  | .imax, [.int k x, .int _ y] => some (.int k (if y > x then y else x))
  | .ibyte, [.string s, .int .u8 c] => some (.int .i64 (match (List.range s.size).find? fun i => s[i]! == c.toNat.toUInt8 with | some i => (i : Int) | none => -1))
  | _, _ => none
inductive RdOp where
  | vslice (esz n : Nat) (lo hi : Bool)
  | sslice (esz : Nat) (lo hi : Bool)
  | cap3 (esz : Nat)
  | mkifc (t : TypeId)
  | mkfn (fn : Fn) (nf : Nat)
  | nilv
  | lookup (zero : Value)
  | b2sv
  | bcmp
  | pnil (neg : Bool)
  | aix (esz n : Nat) (agg : Bool)
  deriving Inhabited
inductive EfOp where
  | mkmap
  | mapEntry (zero : Value)
  | entryStore
  | copy (esz : Nat)
  | bown (e : TypeId) (esz : Nat) (z : AV) (n : Nat) (idx : List Nat)
  | app (e : TypeId) (esz bytes : Nat) (str : Bool)
  | isnil (neg : Bool)
  | aown (t : TypeId) (esz : Nat) (els : List AV)
  deriving Inhabited
inductive XT where
  | dir (f : FuncId)
  | inv (name : String)
  | val
  deriving Inhabited
inductive AI where
  | mov (x : Operand)
  | pick (c a b : Operand)
  | bin (op : BinOp) (x y : Operand)
  | beq (neg : Bool) (x y : Operand)
  | un (op : UnOp) (x : Operand)
  | cvt (k : IntKind) (x : Operand)
  | alloc (n : Nat) (z : AV)
  | box (n : Nat) (x : Operand)
  | build (z : AV) (parts : List (Nat × Operand))
  | bslice (esz : Nat) (z : AV) (n : Nat) (parts : List (Nat × Operand))
  | load (agg : Bool) (n : Nat) (x : Operand)
  | store (n : Nat) (x v : Operand)
  | faddr (off idx : Nat) (x : Operand)
  | iaddrA (len esz : Nat) (x i : Operand)
  | iaddrS (esz : Nat) (x i : Operand)
  | fieldv (off idx n : Nat) (agg : Bool) (x : Operand)
  | len (str : Bool) (x : Operand)
  | ext (x : Operand) (i : Nat)
  | nilc (x : Operand)
  | add64 (x y c : Operand)
  | append (e : TypeId) (esz bytes : Nat) (x y : Operand)
  | mkslice (e : TypeId) (esz bytes : Nat) (z : AV) (l c : Operand)
  | eqv (t : TypeId) (neg : Bool) (x y : Operand)
  | call (f : FuncId) (args : List Operand)
  | callv (f : FuncId) (args : List Operand)
  | lcall (f : FuncId) (args : List Operand)
  | icall (f : FuncId) (x : Operand) (args : List Operand)
  | prim (p : PrimOp) (xs : List Operand)
  | b2s (x : Operand)
  | rdp (g : RdOp) (xs : List Operand)
  | rd (g : RdOp) (xs : List Operand)
  | ef (g : EfOp) (xs : List Operand)
  | xc (g : XT) (xs : List Operand) (keep fresh : List Tmp)
  deriving Inhabited
def AS.lits (s : AS) : List Operand → Option (List Value)
  | [] => some []
  | x :: xs => match s.ev x, s.lits xs with
    | .lit v, some vs => some (v :: vs)
    | _, _ => none
theorem lits_congr {s s' : AS} : ∀ {xs : List Operand}, (∀ x ∈ xs, s'.ev x = s.ev x) → s'.lits xs = s.lits xs
  | [], _ => rfl
  | x :: xs, h => by
    unfold AS.lits
    rw [h x (by simp), lits_congr fun y hy => h y (by simp [hy])]
def AV.sub (v : AV) (i : Nat) : Option (Nat × AV) :=
  match v with
  | .st ns fs => match ns[i]?, fs[i]? with | some n, some f => some (n, f) | _, _ => none
  | .arr esz els => match els[i]? with | some e => some (esz, e) | none => none
  | _ => none
noncomputable def fillAV (s : AS) : AV → List (Nat × Operand) → Option AV
  | z, [] => some z
  | z, (i, x) :: rest => match z.sub i with
    | some (n, _) => if (s.ev x).isTup = false ∧ (s.ev x).sz = n then fillAV s (z.upd [i] (s.ev x)) rest else none
    | none => none
noncomputable def AS.peek (s : AS) (ro : Nat → Bool) : AV → Option (Nat × AV)
  | .ptr b l off p => if ro b then match s.blk b with
      | some x => if x.loc = l then match x.cont.nav 0 x.n p with
        | some (o, m, u) => if o = off then some (m, u) else none
        | none => none else none
      | none => none else none
  | .cptr m u => some (m, u)
  | _ => none
noncomputable def AS.poke (s : AS) (n : Nat) (v : AV) : AV → Option AS
  | .ptr b l off p => match s.blk b with
      | some x => if x.loc = l then match x.cont.nav 0 x.n p with
        | some (o, m, _) => if o = off ∧ m = n ∧ v.isTup = false ∧ v.sz = n ∧ x.may off p = true then some (s.setBlk b (some (x.upd p v))) else none
        | none => none else none
      | none => none
  | _ => none
noncomputable def AS.elemAddr (s : AS) (ro : Nat → Bool) (esz : Nat) (n : Int) : AV → Option AV
  | .sl esz' els => if esz' = esz ∧ 0 ≤ n ∧ n < (els.length : Int) then (els[n.toNat]?).map (AV.cptr esz) else none
  | .own b V => if ro b then match s.blk b with
      | some (.row _ V' esz' els _) => if V' = V ∧ esz' = esz ∧ 0 ≤ n ∧ n < (els.length : Int) then some (.ptr b (locOf V) (0 + n.toNat * esz) [n.toNat]) else none
      | _ => none else none
  | _ => none
noncomputable def AS.lenOf (s : AS) (ro : Nat → Bool) (str : Bool) : AV → Option Int
  | .sl _ els => if str then none else some (els.length : Int)
  | .own b V => if str then none else if ro b then match s.blk b with
      | some (.row _ V' _ els _) => if V' = V then some (els.length : Int) else none
      | _ => none else none
  | .lit (.slice none 0 0) => if str then none else some 0
  | .lit (.string b) => if str then some (b.size : Int) else none
  | .view _ _ _ _ _ _ n _ => if str then none else some (n : Int)
  | _ => none
noncomputable def AS.fieldAddr (off idx : Nat) : AV → Option AV
  | .ptr b l o p => some (.ptr b l (o + off) (p ++ [idx]))
  | .cptr _ (.st ns fs) => if (ns.take idx).sum = off then match ns[idx]?, fs[idx]? with | some k, some f => some (.cptr k f) | _, _ => none else none
  | _ => none
noncomputable def AS.idxAddr (len esz : Nat) (n : Int) : AV → Option AV
  | .ptr b l o p => if 0 ≤ n ∧ n < (len : Int) then some (.ptr b l (o + n.toNat * esz) (p ++ [n.toNat])) else none
  | .cptr _ (.arr esz' els) => if esz' = esz ∧ 0 ≤ n ∧ n < (len : Int) then (els[n.toNat]?).map (AV.cptr esz) else none
  | _ => none
noncomputable def AS.coe (s : AS) (ro : Nat → Bool) : AV → AV
  | .own b V => if ro b then match s.blk b with
      | some (.row _ V' esz els sl) => if V' = V ∧ sl = els.length then .sl esz els else .any
      | _ => .any else .any
  | v => v
noncomputable def AS.lendF (s : AS) (ro : Nat → Bool) : AV → AV
  | .own b V => if ro b then match s.blk b with
      | some (.row _ V' esz els _) => if V' = V then .sl esz els else .own b V
      | _ => .own b V else .own b V
  | v => v
noncomputable def AS.lend (s : AS) (ro : Nat → Bool) : AV → AV
  | .own b V => if ro b then match s.blk b with
      | some (.row _ V' esz els _) => if V' = V then .sl esz els else .any
      | _ => .any else .any
  | .st ns fs => .st ns (fs.map fun f => s.lendF ro f)
  | v => v
def bytesAV : List AV → Option (List Int)
  | [] => some []
  | .lit (.int .u8 n) :: els => (bytesAV els).map (n :: ·)
  | _ => none
def strOf (ns : List Int) : Value := .string (ns.foldl (fun r n => r.push (UInt8.ofNat n.toNat)) ByteArray.empty)
noncomputable def AS.textOf (s : AS) (ro : Nat → Bool) (v : AV) : Option Value :=
  match s.lend ro v with
  | .sl 1 els => (bytesAV els).map strOf
  | .lit (.slice none 0 0) => some (strOf [])
  | _ => none
def AV.isLit : AV → Bool
  | .lit _ => true
  | _ => false
def AV.flat : AV → Bool
  | .lit _ => true
  | .arr _ els => els.all AV.isLit
  | _ => false
def AV.plain : AV → Bool
  | .lit _ => true
  | .arr _ els => els.all AV.isLit
  | .st _ fs => fs.all AV.flat
  | _ => false
def litEq : Value → Value → Option Bool
  | .int k a, .int k' b => if k = k' then some (a == b) else none
  | .bool a, .bool b => some (a == b)
  | .string a, .string b => some (a.toList == b.toList)
  | _, _ => none
noncomputable def listB (blk : Nat → Option Blk) (esz : Nat) : AV → Option (List AV)
  | .lit (.slice none 0 0) => some []
  | .lit (.string b) => if esz = 1 then some (b.data.toList.map fun x => .lit (.int .u8 x.toNat)) else none
  | .sl k els => if k = esz then some els else none
  | .own b V => match blk b with
    | some (.row _ V' k els _) => if V' = V ∧ k = esz then some els else none
    | _ => none
  | .view b l off p k lo len _ => if k = esz then match blk b with
      | some x => if x.loc = l then match x.cont.nav 0 x.n p with
        | some (o, _, .arr k' els) => if k' = esz ∧ off = o + lo * esz ∧ lo + len ≤ els.length then some ((els.drop lo).take len) else none
        | _ => none else none
      | none => none else none
  | _ => none
def bnds (n : Nat) : Bool → Bool → List AV → Option (Nat × Nat)
  | false, false, [] => some (0, n)
  | true, false, [.lit l] => (bound l n).map fun l => (l, n)
  | false, true, [.lit h] => (bound h n).map fun h => (0, h)
  | true, true, [.lit l, .lit h] => (bound h n).bind fun h => (bound l h).map fun l => (l, h)
  | _, _, _ => none
def aggT (P : Program) (t : TypeId) : Bool :=
  match P.underlying t with
  | some (.struct _) | some (.array _ _) => true
  | _ => false
def followA (P : Program) : List FieldStep → TypeId → AV → Option (TypeId × AV)
  | [], t, v => some (t, v)
  | s :: rest, _, v => if s.deref then none else match P.underlying s.struct, v with
    | some (.struct fields), .st ns fs => match fields[s.index]?, ns[s.index]?, fs[s.index]? with
      | some f, some n, some u => if (ns.take s.index).sum = f.offset ∧ (P.underlying f.type).isSome = true ∧ (P.info? f.type).map (·.size) = some n ∧ u.isAgg = aggT P f.type ∧ (u.isAgg = true ∨ n = 1) ∧ u.isTup = false then followA P rest f.type u else none
      | _, _, _ => none
    | _, _ => none
def methA (P : Program) : Nat → TypeId → AV → String → Option (FuncId × AV)
  | 0, _, _, _ => none
  | fuel + 1, t, v, name => match (P.info? t).bind fun i => i.methods.find? (·.name == name) with
    | some m => match followA P m.path.toList t v with
      | some (xt, x) => match m.func with
        | some (f, ptr) => match P.underlying xt, ptr with
          | some (.pointer _), true => some (f, x)
          | some (.pointer _), false => none
          | some _, false => some (f, x)
          | _, _ => none
        | none => match x with
          | .ifc t' v' => methA P fuel t' v' name
          | _ => none
      | none => none
    | none => none
def lookS (s : ByteArray) : List (Value × Value × Nat) → Nat → Option (Option (Nat × Value × Nat))
  | [], _ => some none
  | (.string t, v, n) :: es, i => if s == t then some (some (i, v, n)) else lookS s es (i + 1)
  | _ :: _, _ => none
noncomputable def lookA (blk : Nat → Option Blk) (zero : Value) (m k : AV) : Option AV :=
  match k with
  | .lit (.string s) => match m with
    | .own b V => match blk b with
      | some (.map r es _) => if V = .map (some r) then match lookS s es 0 with
        | some (some (_, v, _)) => some (.tup [.lit v, .lit (.bool true)])
        | some none => some (.tup [.lit zero, .lit (.bool false)])
        | none => none else none
      | _ => none
    | _ => none
  | _ => none
noncomputable def entryA (hp : List (Option Blk)) (zero : Value) (m k : AV) : Option (AV × List (Option Blk)) :=
  match k with
  | .lit (.string s) => match m with
    | .own b W => match (hp[b]?).join with
      | some (.map r es clock) => if W = .map (some r) then match lookS s es 0 with
        | some (some (_, v, n)) => some (.tup [.lit v, .lit (.int .i64 n)], hp)
        | some none => some (.tup [.lit zero, .lit (.int .i64 clock)], hp.set b (some (.map r (es ++ [(.string s, zero, clock)]) (clock + 1))))
        | none => none else none
      | _ => none
    | _ => none
  | _ => none
noncomputable def stampA (hp : List (Option Blk)) (m st v : AV) : Option (AV × List (Option Blk)) :=
  match st with
  | .lit (.int _ n) => match v with
    | .lit v => match m with
      | .own b W => match (hp[b]?).join with
        | some (.map r es clock) => if W = .map (some r) ∧ sc v = true ∧ es.any (fun e => (e.2.2 : Int) == n) then some (.any, hp.set b (some (.map r (es.map fun e => if (e.2.2 : Int) = n then (e.1, v, e.2.2) else e) clock))) else none
        | _ => none
      | _ => none
    | _ => none
  | _ => none
noncomputable def copyA (hp : List (Option Blk)) (esz : Nat) (x y : AV) : Option (AV × List (Option Blk)) :=
  match x with
  | .view b l off p k lo len _ => match listB (fun b => (hp[b]?).join) esz y with
    | some src => match (hp[b]?).join with
      | some (.box l' n v) => if l' = l ∧ k = esz then match v.nav 0 n p with
        | some (o, _, .arr k' els) => if k' = esz ∧ off = o + lo * esz ∧ lo + len ≤ els.length then
            some (.lit (.int .i64 (min len src.length : Nat)), hp.set b (some (.box l' n (v.upd p (.arr esz (els.take lo ++ src.take len ++ els.drop (lo + min len src.length))))))) else none
        | _ => none else none
      | _ => none
    | none => none
  | _ => none
noncomputable def rdB (blk : Nat → Option Blk) : RdOp → List AV → Option AV
  | .vslice esz n lo hi, x :: rest => match bnds n lo hi rest, x with
    | some (l, h), .ptr b lc off p => some (.view b lc (if l = n then off else off + l * esz) p esz l (h - l) (n - l))
    | _, _ => none
  | .sslice esz lo hi, x :: rest => match x with
    | .sl k els => if k = esz then (bnds els.length lo hi rest).map fun (l, h) => .sl esz ((els.take h).drop l) else none
    | .lit (.slice none 0 0) => (bnds 0 lo hi rest).map fun _ => .lit (.slice none 0 0)
    | _ => none
  | .cap3 esz, [x, y, z] => match x, y, z with
    | .own _ (.slice (some ⟨g, o, none⟩) n c), .lit h, .lit m => if h = .int .i64 n ∧ m = .int .i64 n ∧ n ≤ c then some (.view 0 (g, o) 0 [] esz 0 n n) else none
    | .own _ (.slice none 0 0), .lit h, .lit m => if h = .int .i64 0 ∧ m = .int .i64 0 then some (.lit (.slice none 0 0)) else none
    | _, _, _ => none
  | .mkifc t, [x] => if x.isTup then none else some (.ifc t x)
  | .mkfn fn nf, xs => if xs.all (fun x => !x.isTup) then some (.fnv fn (xs.take nf) (xs.drop nf)) else none
  | .nilv, [x] => match x with
    | .ifc _ _ => some x
    | .fnv (.func _) _ _ => some x
    | _ => none
  | .lookup zero, [m, k] => lookA blk zero m k
  | .b2sv, [x] => if x.isLit then none else (listB blk 1 x).bind fun els => (bytesAV els).map fun ns => .lit (strOf ns)
  | .bcmp, [x, y] => match (listB blk 1 x).bind bytesAV, (listB blk 1 y).bind bytesAV with
    | some a, some b => if x.isLit || y.isLit then none else some (.lit (.int .i64 (Go.Lib.compareBytes (Go.Lib.bytesOf a) (Go.Lib.bytesOf b))))
    | _, _ => none
  | .pnil neg, [x] => match x with
    | .ptr .. => some (.lit (.bool neg))
    | .cptr .. => some (.lit (.bool neg))
    | .lit (.pointer none) => some (.lit (.bool !neg))
    | _ => none
  | .aix esz n agg, [x, i] => match x, i with
    | .arr k els, .lit (.int _ j) => if k = esz ∧ els.length = n ∧ 0 ≤ j then (els[j.toNat]?).bind fun v => if v.isAgg = agg ∧ v.isTup = false then some v else none else none
    | _, _ => none
  | _, _ => none
noncomputable def rdA (P : Program) (blk : Nat → Option Blk) (g : RdOp) (xs : List AV) : Option AV :=
  match g, xs with
  | .nilv, [.fnv (.method name) [.ifc t v] c] => if (methA P (P.types.size + Made.depth) t v name).isSome then some (.fnv (.method name) [.ifc t v] c) else none
  | g, xs => rdB blk g xs
theorem rdA_of {P : Program} {blk : Nat → Option Blk} {g : RdOp} {xs : List AV} {v : AV} (h : rdB blk g xs = some v) : rdA P blk g xs = some v := by
  unfold rdA
  split
  · simp [rdB] at h
  · exact h
def AV.isText : AV → Bool
  | .lit (.string _) => true
  | _ => false
def fillV : AV → List (Nat × AV) → Option AV
  | z, [] => some z
  | z, (i, x) :: rest => match z.sub i with
    | some (n, _) => if x.isTup = false ∧ x.sz = n then fillV (z.upd [i] x) rest else none
    | none => none
noncomputable def rowB (hp : List (Option Blk)) (e : TypeId) (esz : Nat) : AV → Option (Option Nat × List AV × Nat)
  | .lit (.slice none 0 0) => some (none, [], 0)
  | .own b V => match (hp[b]?).join with
    | some (.row e' V' esz' els sl) => if V' = V ∧ esz' = esz ∧ e' = e then some (some b, els, sl) else none
    | _ => none
  | _ => none
def hpDrop (hp : List (Option Blk)) : Option Nat → List (Option Blk)
  | some b => hp.set b none
  | none => hp
def mapRef : Value → Nat
  | .map (some r) => r
  | _ => 0
noncomputable def efF (hp : List (Option Blk)) : EfOp → List AV → Option (AV × List (Option Blk))
  | .mapEntry zero, [m, k] => entryA hp zero m k
  | .entryStore, [m, st, v] => stampA hp m st v
  | .copy esz, [x, y] => copyA hp esz x y
  | _, _ => none
def nilA (V : Value) : AV → Option Bool
  | .lit (.slice none 0 0) => some true
  | .sl _ [] => some (match V with | .bool b => b | _ => true)
  | .sl _ (_ :: _) => some false
  | _ => none
def allV (g n : Nat) : Value := .slice (some ⟨g, 0, none⟩) n n
noncomputable def efA (slot : Nat) (V : Value) (hp : List (Option Blk)) (g : EfOp) (xs : List AV) : Option (AV × List (Option Blk)) :=
  match g, xs with
  | .mkmap, [] => some (.own slot (.map (some (mapRef V))), hp.set slot (some (.map (mapRef V) [] 0)))
  | .bown e esz z n idx, xs => match fillV (.arr esz (List.replicate n z)) (idx.zip xs) with
    | some (.arr _ els) => some (.own slot V, hp.set slot (some (.row e V esz els 0)))
    | _ => none
  | .app e esz bytes str, [x, y] => match rowB hp e esz x, listB (fun b => (hp[b]?).join) esz y with
    | some (ob, els, sl), some ys => if y.isText = str ∧ els.length + ys.length ≤ maxLen ∧ (els.length + ys.length) * bytes ≤ 140737488355328 then
        some (.own slot V, (hpDrop hp ob).set slot (some (.row e V esz (els ++ ys) sl))) else none
    | _, _ => none
  | .aown t esz els, [] => some (.ptr slot ((V.ownBlock).getD 0, 0) 0 [], hp.set slot (some (.row t (allV ((V.ownBlock).getD 0) els.length) esz els 0)))
  | .isnil neg, [x] => (nilA V x).map fun b => (.lit (.bool (if neg then !b else b)), hp)
  | g, xs => efF hp g xs
theorem efA_of {hp : List (Option Blk)} {g : EfOp} {xs : List AV} {u : AV × List (Option Blk)} (h : efF hp g xs = some u) (slot : Nat) (V : Value) : efA slot V hp g xs = some u := by
  unfold efA
  split
  · simp [efF] at h
  · simp [efF] at h
  · simp [efF] at h
  · simp [efF] at h
  · simp [efF] at h
  · exact h
def callable (P : Program) (f : FuncId) : Bool :=
  match P.funcs[f]? with
  | some fn => fn.name != "runtime.NumGoroutine" && fn.body.isSome
  | none => false
def tgtB (P : Program) : XT → List AV → Option (FuncId × List AV)
  | .dir f, xs => some (f, xs)
  | .inv name, .ifc t v :: xs => (methA P (P.types.size + Made.depth) t v name).map fun (f, u) => (f, u :: xs)
  | .val, .fnv (.func f) first caps :: xs => some (f, first ++ xs ++ caps)
  | .val, .fnv (.method name) [.ifc t v] [] :: xs => (methA P (P.types.size + Made.depth) t v name).map fun (f, u) => (f, u :: xs)
  | _, _ => none
def tgtA (P : Program) (g : XT) (xs : List AV) : Option (FuncId × List AV) :=
  (tgtB P g xs).bind fun x => if callable P x.1 then some x else none
def AV.place : AV → Option Nat
  | .ptr b _ _ _ => some b
  | .own b _ => some b
  | _ => none
def keepOk (s : AS) (keep : List Tmp) (hp' : List (Option Blk)) : Prop :=
  ∀ t ∈ keep, ∀ b, (s.ev (.tmp t)).place = some b → (hp'[b]?).join = (s.hp[b]?).join
def setE (nr : Nat) : List (Option Blk) → List (Tmp × Blk) → List (Option Blk)
  | hp, [] => hp
  | hp, (t, x) :: E => setE nr (hp.set (nr + t) (some x)) E
def viaB (P : Program) (t : TypeId) (name : String) : Bool :=
  match (P.info? t).bind fun i => i.methods.find? (·.name == name) with
  | some m => m.func.isNone && (match m.path.toList with
    | [s] => s.deref && s.index == 0 && (match P.underlying s.struct with
      | some (.struct fields) => (match fields[s.index]? with
        | some f => f.offset == 0 && (P.underlying f.type).isSome && (P.info? f.type).map (·.size) == some 1 && !aggT P f.type
        | none => false)
      | _ => false)
    | _ => false)
  | none => false
noncomputable def tgtP (P : Program) (hp : List (Option Blk)) : XT → List AV → Option (FuncId × List AV)
  | .inv name, .ifc t (.ptr b l off p) :: xs => if viaB P t name then match AS.peek ⟨0, [], hp⟩ (fun _ => true) (.ptr b l off (p ++ [0])) with
      | some (_, .ifc t' v') => (methA P (P.types.size + Made.depth - 1) t' v' name).bind fun x => if callable P x.1 then some (x.1, x.2 :: xs) else none
      | _ => none else none
  | _, _ => none
noncomputable def tgtH (P : Program) (hp : List (Option Blk)) (g : XT) (xs : List AV) : Option (FuncId × List AV) :=
  match tgtA P g xs with
  | some x => some x
  | none => tgtP P hp g xs
theorem tgtH_of {P : Program} {hp : List (Option Blk)} {g : XT} {xs : List AV} {x : FuncId × List AV} (h : tgtA P g xs = some x) : tgtH P hp g xs = some x := by
  unfold tgtH
  rw [h]
end Go.Cab
namespace Go.Cab
open Go.RowKit
open Classical
def setCells (b : Nat) : Nat → List Value → World → World
  | _, [], w => w
  | o, v :: vs, w => setCells b (o + 1) vs (w.setCell ⟨b, o, none⟩ v)
theorem setCells_heap_other (b : Nat) : ∀ (vs : List Value) (o : Nat) (w : World) (k : Nat), k ≠ b → (setCells b o vs w).heap[k]? = w.heap[k]?
  | [], _, _, _, _ => rfl
  | v :: vs, o, w, k, h => by rw [setCells, setCells_heap_other b vs _ _ k h, heap_setCell_other _ _ _ _ h]
theorem setCells_heap_same (b : Nat) : ∀ (vs : List Value) (o : Nat) (w : World) (cur : Array Value) (e : TypeId) (fr : Nat × Nat), w.heap[b]? = some (.cells cur e fr) →
    ∃ cur', (setCells b o vs w).heap[b]? = some (.cells cur' e fr) ∧ cur'.size = cur.size
  | [], _, _, cur, e, fr, h => ⟨cur, h, rfl⟩
  | v :: vs, o, w, cur, e, fr, h => by
    have h1 : (w.setCell ⟨b, o, none⟩ v).heap[b]? = some (.cells (cur.setIfInBounds o v) e fr) := by
      simp [World.setCell, Array.getElem?_modify, h]
    obtain ⟨cur', h2, h3⟩ := setCells_heap_same b vs (o + 1) _ _ e fr h1
    exact ⟨cur', h2, by rw [h3]; simp⟩
theorem setCells_size (b : Nat) : ∀ (vs : List Value) (o : Nat) (w : World), (setCells b o vs w).heap.size = w.heap.size
  | [], _, _ => rfl
  | v :: vs, o, w => by rw [setCells, setCells_size b vs]; simp
theorem setCells_os (b : Nat) : ∀ (vs : List Value) (o : Nat) (w : World), (setCells b o vs w).os = w.os ∧ (setCells b o vs w).tape = w.tape ∧ (setCells b o vs w).output = w.output
  | [], _, _ => ⟨rfl, rfl, rfl⟩
  | v :: vs, o, w => by obtain ⟨h1, h2, h3⟩ := setCells_os b vs (o + 1) (w.setCell ⟨b, o, none⟩ v); exact ⟨h1, h2, h3⟩
theorem setCells_frozen (b : Nat) : ∀ (vs : List Value) (o : Nat) (w : World) (a : Addr), (setCells b o vs w).frozen? a = w.frozen? a
  | [], _, _, _ => rfl
  | v :: vs, o, w, a => by rw [setCells, setCells_frozen b vs]; simp
theorem setCells_out (b : Nat) : ∀ (vs : List Value) (o : Nat) (w : World) (k j : Nat), (k ≠ b ∨ j < o ∨ o + vs.length ≤ j) → (setCells b o vs w).cell? ⟨k, j, none⟩ = w.cell? ⟨k, j, none⟩
  | [], _, _, _, _, _ => rfl
  | v :: vs, o, w, k, j, h => by
    rw [setCells, setCells_out b vs (o + 1) _ k j (by simp only [List.length_cons] at h; omega)]
    exact World.cell?_setCell_other _ _ _ _ (by intro e; simp only [List.length_cons] at h; injection e with h1 h2 h3; omega)
theorem setCells_in (b : Nat) : ∀ (vs : List Value) (o : Nat) (w : World), (∀ i, i < vs.length → (w.cell? ⟨b, o + i, none⟩).isSome = true) →
    ∀ i v, vs[i]? = some v → (setCells b o vs w).cell? ⟨b, o + i, none⟩ = some v
  | [], _, _, _, _, _, h => by simp at h
  | u :: vs, o, w, hex, i, v, h => by
    rw [setCells]
    cases i with
    | zero =>
      simp only [List.getElem?_cons_zero, Option.some.injEq] at h
      subst h
      rw [setCells_out b vs (o + 1) _ b (o + 0) (by omega)]
      obtain ⟨x, hx⟩ := Option.isSome_iff_exists.1 (hex 0 (by simp))
      exact World.cell?_setCell_same _ _ _ hx
    | succ i =>
      simp only [List.getElem?_cons_succ] at h
      have := setCells_in b vs (o + 1) (w.setCell ⟨b, o, none⟩ u) (fun i hi => by
        have h0 := hex (i + 1) (by simpa using hi)
        rw [World.cell?_setCell_other _ _ _ _ (by intro e; injection e with h1 h2 h3; omega)]
        rw [show o + 1 + i = o + (i + 1) from by omega]
        exact h0) i v h
      rw [show o + (i + 1) = o + 1 + i from by omega]
      exact this
theorem add_none (b o i : Nat) : (⟨b, o, none⟩ : Addr).add i = ⟨b, o + i, none⟩ := by
  unfold Addr.add; split <;> simp_all
theorem oneCell_of_sc {v : Value} (h : sc v = true) : v.oneCell' = true := by cases v <;> simp_all [sc, Value.oneCell']
theorem run_storeCells {P : Program} (b o : Nat) : ∀ (vs : List Value) (i : Nat) (w : World), (∀ v ∈ vs, sc v = true) →
    (∀ j, j < vs.length → (w.cell? ⟨b, o + i + j, none⟩).isSome = true ∧ w.frozen? ⟨b, o + i + j, none⟩ = false) →
    (storeCells ⟨b, o, none⟩ vs i).run P w = .ok () (setCells b (o + i) vs w)
  | [], _, _, _, _ => by simp [storeCells, setCells]
  | v :: vs, i, w, hs, h => by
    obtain ⟨h1, h2⟩ := h 0 (by simp)
    obtain ⟨x, hx⟩ := Option.isSome_iff_exists.1 h1
    simp only [Nat.add_zero] at hx h2
    have hrun : (store (⟨b, o + i, none⟩ : Addr) v).run P w = .ok () (w.setCell ⟨b, o + i, none⟩ v) := by
      rw [run_store P w _ v _ (oneCell_of_sc (hs v (by simp)))]
      simp [hx, h2]
    have ih := run_storeCells (P := P) b o vs (i + 1) (w.setCell ⟨b, o + i, none⟩ v) (fun u hu => hs u (by simp [hu])) (fun j hj => by
      obtain ⟨h3, h4⟩ := h (j + 1) (by simpa using hj)
      rw [show o + (i + 1) + j = o + i + (j + 1) from by omega]
      refine ⟨?_, by simpa using h4⟩
      rw [World.cell?_setCell_other _ _ _ _ (by intro e; injection e with a1 a2 a3; omega)]
      exact h3)
    simp only [storeCells, add_none, Sem.run_bind, hrun, Result.andThen_ok]
    rw [ih, setCells, show o + i + 1 = o + (i + 1) from by omega]
section
variable {w0 wk : World} {regs : List (Nat × Nat × Nat)} {St Imm : Nat → Nat → Prop} {s : AS} {a : Act} {w : World}
theorem Blk.ok.cells {x : Blk} (h : x.ok Imm w) : ∃ cs, R Imm w x.cont cs ∧ cs.length = x.n ∧ (∀ y ∈ cs, sc y = true) ∧ ∀ i y, cs[i]? = some y → w.cell? ⟨x.loc.1, x.loc.2 + i, none⟩ = some y := by
  cases x with
  | box l n v =>
    obtain ⟨⟨cs, h1, h2, h3, h4⟩, _⟩ := h
    exact ⟨cs, h1, h2, h3, h4⟩
  | row e V esz els s =>
    obtain ⟨cs, h1, h2, h3, h4, h5⟩ := h
    refine ⟨cs, h1, by have := h1.len rfl; simpa [AV.sz, Blk.n] using this, h1.scs rfl, fun i y hy => ?_⟩
    rcases h2.2 with ⟨rfl, hn⟩ | ⟨g, cap, cur, rfl, _, hg, _, _, _, htake⟩
    · have := h1.len rfl
      simp only [AV.sz, hn] at this
      have : cs = [] := List.eq_nil_of_length_eq_zero (by simpa using this)
      subst this; simp at hy
    · simp only [Blk.loc, locOf, Value.ownBlock, Option.map_some, Option.getD_some, Nat.zero_add]
      rw [cell_of_row w g i cur e (0, 0) hg]
      rw [← htake, List.getElem?_take] at hy
      split at hy
      · simpa using hy
      · cases hy
  | map r es clock => exact ⟨[], .st0, rfl, by simp, by simp⟩
theorem peek_sound {ro : Nat → Bool} {X u : AV} {V : Value} {m : Nat} (hp : s.peek ro X = some (m, u)) (hX : Rel Imm w X V) (hh : HeapOk w0 regs Imm s.hp w) :
    ∃ b o cs, V = .pointer (some ⟨b, o, none⟩) ∧ R Imm w u cs ∧ cs.length = m ∧ (∀ y ∈ cs, sc y = true) ∧ ∀ i y, cs[i]? = some y → w.cell? ⟨b, o + i, none⟩ = some y := by
  cases X <;> simp only [AS.peek] at hp <;> try (cases hp; done)
  case ptr b l off p =>
    split at hp <;> try (cases hp; done)
    split at hp <;> try (cases hp; done)
    rename_i x hx
    split at hp <;> try (cases hp; done)
    rename_i hloc
    split at hp <;> try (cases hp; done)
    rename_i o m' u' hnav
    split at hp <;> try (cases hp; done)
    rename_i hoff
    simp only [Option.some.injEq, Prod.mk.injEq] at hp
    obtain ⟨rfl, rfl⟩ := hp
    obtain ⟨hok, _⟩ := hh.ok b x hx
    obtain ⟨cs, hc, hl, hs, hcell⟩ := hok.cells
    obtain ⟨pre, c, post, e, ho, hcl, hu, hcs, _⟩ := R.nav p _ 0 _ o m' u' cs hc hs hl hnav
    rcases hX with hX | ⟨cs', hX, e'⟩
    · cases hX
    cases hX
    refine ⟨l.1, l.2 + off, c, by rw [e']; rfl, hu, hcl, hcs, fun i y hy => ?_⟩
    have : cs[pre.length + i]? = some y := by
      rw [e, List.append_assoc, List.getElem?_append_right (by omega), Nat.add_sub_cancel_left, List.getElem?_append_left (List.getElem?_eq_some_iff.1 hy).1]
      exact hy
    have h2 := hcell _ _ this
    rw [hloc] at h2
    rw [show l.2 + off + i = l.2 + (pre.length + i) from by omega]
    exact h2
  case cptr n v =>
    simp only [Option.some.injEq, Prod.mk.injEq] at hp
    obtain ⟨rfl, rfl⟩ := hp
    rcases hX with hX | ⟨cs', hX, e'⟩
    · cases hX
    cases hX with
    | cptr _ _ cs b o h1 h2 h3 h4 =>
      exact ⟨b, o, cs, by rw [e']; rfl, h1, h2, h3, fun i y hy => (h4 i y hy).1⟩
theorem foot_cont {x : Blk} (h : x.ok Imm w) {i : Nat} (hi : i < x.n) : x.foot x.loc.1 (x.loc.2 + i) := by
  cases x with
  | box l n v => exact ⟨rfl, by simp [Blk.loc], by simpa [Blk.loc, Blk.n] using hi⟩
  | row e V esz els s =>
    obtain ⟨cs, h1, h2, h3, h4, h5⟩ := h
    rcases h2.2 with ⟨rfl, hn⟩ | ⟨g, cap, cur, rfl, _, hg, _, _, _, htake⟩
    · simp [Blk.n, hn] at hi
    · simp [Blk.foot, Blk.loc, locOf, Value.ownBlock]
  | map r es clock => simp [Blk.n] at hi
theorem poke_sound {X u : AV} {V U : Value} {n : Nat} {s' : AS} (hp : s.poke n u X = some s') (hX : Rel Imm w X V) (hU : Rel Imm w u U) (hh : HeapOk w0 regs Imm s.hp w) (hI : ImmOk w0 wk St Imm w) (h3 : TmOk Imm w s.tm a.tmps)
    (hfr : Fr regs w0 w) :
    ∃ b o cs, V = .pointer (some ⟨b, o, none⟩) ∧ U.cells = cs.toArray ∧ cs.length = n ∧ (∀ y ∈ cs, sc y = true) ∧
      (∀ i, i < n → (w.cell? ⟨b, o + i, none⟩).isSome = true ∧ w.frozen? ⟨b, o + i, none⟩ = false) ∧
      s'.tm = s.tm ∧ s'.nr = s.nr ∧ ImmOk w0 wk St Imm (setCells b o cs w) ∧ TmOk Imm (setCells b o cs w) s.tm a.tmps ∧ HeapOk w0 regs Imm s'.hp (setCells b o cs w) ∧ Fr regs w0 (setCells b o cs w) := by
  cases X <;> simp only [AS.poke] at hp <;> try (cases hp; done)
  case ptr b l off p =>
    split at hp <;> try (cases hp; done)
    rename_i x hx
    split at hp <;> try (cases hp; done)
    rename_i hloc
    split at hp <;> try (cases hp; done)
    rename_i o m' u' hnav
    split at hp <;> try (cases hp; done)
    rename_i hcond
    obtain ⟨rfl, rfl, htup, hsz, hmay⟩ := hcond
    simp only [Option.some.injEq] at hp
    subst hp
    obtain ⟨hok, hfoot⟩ := hh.ok b x hx
    obtain ⟨cs, hc, hl, hs, hcell⟩ := hok.cells
    obtain ⟨pre, c, post, e, ho, hcl, hu, hcs, hset⟩ := R.nav p _ 0 _ o m' u' cs hc hs hl hnav
    rcases hX with hX | ⟨cs', hX, e'⟩
    · cases hX
    cases hX
    rcases hU with hU | ⟨c', hU, eU⟩
    · subst hU; simp [AV.isTup] at htup
    have hc'l : c'.length = m' := by rw [hU.len htup, hsz]
    have hc's := hU.scs htup
    have hlen : pre.length + m' ≤ cs.length := by rw [e]; simp; omega
    have hin : ∀ i, i < m' → x.foot l.1 (l.2 + o + i) := fun i hi => by
      have := foot_cont hok (i := o + i) (by rw [← hl]; omega)
      rw [hloc] at this
      rwa [show l.2 + o + i = l.2 + (o + i) from by omega]
    have hcellE : ∀ i, i < cs.length → (w.cell? ⟨l.1, l.2 + i, none⟩).isSome = true := fun i hi => by
      have := hcell i _ (List.getElem?_eq_getElem hi)
      rw [hloc] at this
      simp [this]
    have hnotImm : ∀ i, i < m' → ¬ Imm l.1 (l.2 + o + i) ∧ w.frozen? ⟨l.1, l.2 + o + i, none⟩ = false := fun i hi => by
      cases x with
      | box l0 n0 v0 =>
        simp only [Blk.loc] at hloc
        subst hloc
        obtain ⟨_, h'⟩ := hok
        simp only [Blk.n] at hl
        obtain ⟨h1, h2⟩ := h' (o + i) (by omega)
        rw [show l0.2 + o + i = l0.2 + (o + i) from by omega]
        exact ⟨h2, h1⟩
      | row e0 V0 esz0 els0 s0 =>
        obtain ⟨cs0, h1, h2, h3, h4, h5⟩ := hok
        simp only [Blk.may, Bool.and_eq_true, decide_eq_true_eq] at hmay
        simp only [Blk.loc, locOf] at hloc
        rcases h2.2 with ⟨rfl, hn⟩ | ⟨g, cap, cur, rfl, _, hg, _, _, _, htake⟩
        · simp only [Blk.n, hn, Nat.zero_mul] at hl
          omega
        · simp only [Value.ownBlock, Option.map_some, Option.getD_some] at hloc
          subst hloc
          simp only [Nat.zero_add]
          exact ⟨h5 g _ rfl (by omega), frozen_of_row w g _ cur e0 hg⟩
      | map r es clock => simp [Blk.may] at hmay
    have hImmNot : ∀ b' o', Imm b' o' → (b' ≠ l.1 ∨ o' < l.2 + o ∨ l.2 + o + c'.length ≤ o') := fun b' o' hi => by
      rcases Nat.lt_or_ge o' (l.2 + o) with h | h
      · exact .inr (.inl h)
      · rcases Nat.lt_or_ge o' (l.2 + o + c'.length) with h' | h'
        · refine .inl fun he => ?_
          subst he
          have := (hnotImm (o' - (l.2 + o)) (by omega)).1
          rw [show l.2 + o + (o' - (l.2 + o)) = o' from by omega] at this
          exact this hi
        · exact .inr (.inr h')
    have hkeep : ∀ b' o', Imm b' o' → (setCells l.1 (l.2 + o) c' w).cell? ⟨b', o', none⟩ = w.cell? ⟨b', o', none⟩ := fun b' o' hi => setCells_out _ _ _ _ _ _ (hImmNot b' o' hi)
    have hex : ∀ i, i < m' → (w.cell? ⟨l.1, l.2 + o + i, none⟩).isSome = true := fun i hi => by
      have := hcellE (o + i) (by omega)
      rwa [show l.2 + o + i = l.2 + (o + i) from by omega]
    refine ⟨l.1, l.2 + o, c', by rw [e']; rfl, by rw [eU]; exact hU.cells htup, hc'l, hc's, fun i hi => ⟨hex i hi, (hnotImm i hi).2⟩, rfl, rfl, ?_, ?_, ?_, ?_⟩
    · exact ⟨hI.sub, hI.old, fun b' o' hi => by rw [hkeep _ _ hi]; exact hI.there b' o' hi, fun b' o' hi => by rw [hkeep _ _ (hI.sub _ _ hi)]; exact hI.val b' o' hi⟩
    · exact fun t v ht => (h3 t v ht).mono (fun _ _ h => h) hkeep
    · -- the blocks
      have hblock_lt : l.1 < w.heap.size ∨ m' = 0 := by
        rcases Nat.eq_zero_or_pos m' with h | h
        · exact .inr h
        · obtain ⟨y, hy⟩ := Option.isSome_iff_exists.1 (hex 0 h)
          exact .inl (World.block_lt_of_cell? w _ hy)
      have hfoot' : ∀ b' o', (x.upd p u).foot b' o' ↔ x.foot b' o' := fun b' o' => by cases x <;> simp [Blk.upd, Blk.foot]
      have hget : ∀ k y, ((s.setBlk b (some (x.upd p u))).hp[k]?).join = some y → (k = b ∧ y = x.upd p u) ∨ (k ≠ b ∧ (s.hp[k]?).join = some y) := fun k y hy => by
        simp only [AS.setBlk, List.getElem?_set] at hy
        by_cases hk : b = k
        · subst hk
          simp only [if_true] at hy
          split at hy
          · simp at hy; exact .inl ⟨rfl, hy.symm⟩
          · simp at hy
        · rw [if_neg hk] at hy; exact .inr ⟨Ne.symm hk, hy⟩
      refine ⟨fun k y hy => ?_, fun k k' y z hne hy hz b' o' hf => ?_⟩
      · rcases hget k y hy with ⟨rfl, rfl⟩ | ⟨hk, hy'⟩
        · refine ⟨?_, fun b' o' hf => by rw [setCells_size]; exact hfoot b' o' ((hfoot' b' o').1 hf)⟩
          have hcell' : ∀ i y, (pre ++ c' ++ post)[i]? = some y → (setCells l.1 (l.2 + o) c' w).cell? ⟨l.1, l.2 + i, none⟩ = some y := fun i y hy => by
            by_cases h1 : i < o
            · rw [setCells_out _ _ _ _ _ _ (by omega)]
              have h2 := hcell i y (by rw [e, List.append_assoc, List.getElem?_append_left (by omega)]; rw [List.append_assoc, List.getElem?_append_left (by omega)] at hy; exact hy)
              rwa [hloc] at h2
            · by_cases h2 : i < o + m'
              · have := setCells_in l.1 c' (l.2 + o) w (fun j hj => hex j (by omega)) (i - o) y (by
                  rw [List.append_assoc, List.getElem?_append_right (by omega), List.getElem?_append_left (by omega)] at hy
                  rwa [show i - o = i - pre.length from by omega])
                rwa [show l.2 + o + (i - o) = l.2 + i from by omega] at this
              · rw [setCells_out _ _ _ _ _ _ (by omega)]
                have h3 := hcell i y (by
                  rw [List.getElem?_append_right (by simp; omega)] at hy
                  rw [e, List.getElem?_append_right (by simp; omega)]
                  rw [← hy]; congr 1; simp; omega)
                rwa [hloc] at h3
          have hR := (hset u c' hU hc'l hc's).mono (fun _ _ h => h) hkeep
          have hsc' : ∀ y ∈ pre ++ c' ++ post, sc y = true := fun y hy => by
            rcases List.mem_append.1 hy with hy | hy
            · rcases List.mem_append.1 hy with hy | hy
              · exact hs y (by rw [e]; simp [hy])
              · exact hc's y hy
            · exact hs y (by rw [e]; simp [hy])
          cases x with
          | box l0 n0 v0 =>
            simp only [Blk.loc] at hloc
            subst hloc
            obtain ⟨_, h'⟩ := hok
            refine ⟨⟨_, hR, ?_, hsc', hcell'⟩, fun i hi => ⟨by rw [setCells_frozen]; exact (h' i hi).1, (h' i hi).2⟩⟩
            simp only [Blk.n] at hl
            rw [← hl, e]; simp; omega
          | row e0 V0 esz0 els0 s0 =>
            obtain ⟨cs0, h1, h2, h3, h4, h5⟩ := hok
            simp only [Blk.may, Bool.and_eq_true, decide_eq_true_eq] at hmay
            cases p with
            | nil => simp at hmay
            | cons i p =>
              simp only [Blk.cont, AV.upd] at hR
              have hlen2 : (els0.set i ((els0.getD i .any).upd p u)).length = els0.length := by simp
              refine ⟨_, hR, ?_, h3, by rw [hlen2]; exact h4, h5⟩
              simp only [Blk.n] at hl
              have hlen3 : (pre ++ c' ++ post).length = els0.length * esz0 := by rw [← hl, e]; simp; omega
              refine ⟨by rw [hlen2]; exact hlen3, ?_⟩
              rcases h2.2 with ⟨rfl, hn⟩ | ⟨g, cap, cur, rfl, hb0, hg, hnc, hcm, hcs0, htake⟩
              · refine .inl ⟨rfl, by rw [hlen2]; exact hn⟩
              · simp only [Blk.loc, locOf, Value.ownBlock, Option.map_some, Option.getD_some] at hloc
                subst hloc
                obtain ⟨cur', hg', hsz'⟩ := setCells_heap_same g c' (0 + o) w cur e0 (0, 0) hg
                refine .inr ⟨g, cap, cur', ?_, hb0, hg', by rw [hlen2]; exact hnc, hcm, by rw [hsz', hcs0], ?_⟩
                · rw [hlen2]
                · rw [hlen2, ← hlen3]
                  apply List.ext_getElem?
                  intro j
                  rw [List.getElem?_take]
                  split
                  · rename_i hj
                    have h6 := hcell' j _ (List.getElem?_eq_getElem hj)
                    simp only [Nat.zero_add] at h6 hg'
                    rw [cell_of_row _ g j cur' e0 (0, 0) hg'] at h6
                    rw [List.getElem?_eq_getElem hj]
                    simpa using h6
                  · rename_i hj
                    rw [List.getElem?_eq_none (by omega)]
          | map r es clock => simp [Blk.may] at hmay
        · obtain ⟨hy1, hy2⟩ := hh.ok k y hy'
          have hdis : ∀ b' o', y.foot b' o' → (b' ≠ l.1 ∨ o' < l.2 + o ∨ l.2 + o + c'.length ≤ o') := fun b' o' hf => by
            rcases Nat.lt_or_ge o' (l.2 + o) with h | h
            · exact .inr (.inl h)
            · rcases Nat.lt_or_ge o' (l.2 + o + c'.length) with h' | h'
              · refine .inl fun he => ?_
                subst he
                have h7 := hin (o' - (l.2 + o)) (by omega)
                rw [show l.2 + o + (o' - (l.2 + o)) = o' from by omega] at h7
                exact hh.apart k b y x hk hy' hx _ _ hf h7
              · exact .inr (.inr h')
          refine ⟨hy1.keep (fun _ _ h => h) hkeep (fun _ _ _ h => h) (fun b' o' hf => setCells_out _ _ _ _ _ _ (hdis b' o' hf)) (fun b' o' _ => setCells_frozen _ _ _ _ _) ?_, fun b' o' hf => by rw [setCells_size]; exact hy2 b' o' hf⟩
          intro b' hb'
          rcases Nat.eq_zero_or_pos m' with h0 | h0
          · have : c' = [] := List.eq_nil_of_length_eq_zero (by omega)
            subst this; rfl
          · have hne : b' ≠ l.1 := fun he => by
              subst he
              exact hh.apart k b _ x hk hy' hx _ _ (Blk.whole_foot hb' (l.2 + o + 0)) (hin 0 h0)
            exact setCells_heap_other _ _ _ _ _ hne
      · rcases hget k y hy with ⟨rfl, rfl⟩ | ⟨hk, hy'⟩
        · rcases hget k' z hz with ⟨rfl, rfl⟩ | ⟨hk', hz'⟩
          · exact absurd rfl hne
          · exact hh.apart k k' x z hne hx hz' b' o' ((hfoot' b' o').1 hf)
        · rcases hget k' z hz with ⟨rfl, rfl⟩ | ⟨hk', hz'⟩
          · exact fun hf' => hh.apart k k' y x hne hy' hx b' o' hf ((hfoot' b' o').1 hf')
          · exact hh.apart k k' y z hne hy' hz' b' o' hf
    · -- the frame
      obtain ⟨q1, q2, q3⟩ := setCells_os l.1 c' (l.2 + o) w
      rcases Nat.eq_zero_or_pos m' with h0 | h0
      · have : c' = [] := List.eq_nil_of_length_eq_zero (by omega)
        subst this; exact hfr
      have hwhere : w0.heap.size ≤ l.1 ∨ ∀ i, i < m' → inReg regs l.1 (l.2 + o + i) := by
        rcases Nat.lt_or_ge l.1 w0.heap.size with h | h
        · exact .inr fun i hi => ((hfoot _ _ (hin i hi)).2).resolve_left (by omega)
        · exact .inl h
      refine ⟨q1.trans hfr.os, q2.trans hfr.tape, q3.trans hfr.output, by rw [setCells_size]; exact hfr.size, fun k hk hr => ?_, fun b' o' hb' hr => ?_, fun b' o' hb' => by rw [setCells_frozen]; exact hfr.frozen b' o' hb'⟩
      · rw [setCells_heap_other _ _ _ _ _ (fun he => by
          subst he
          rcases hwhere with h | h
          · omega
          · obtain ⟨r, hr1, hr2, _⟩ := h 0 h0
            exact hr r hr1 hr2.symm)]
        exact hfr.block k hk hr
      · rw [setCells_out _ _ _ _ _ _ (by
          rcases hwhere with h | h
          · exact .inl (by omega)
          · rcases Nat.lt_or_ge o' (l.2 + o) with h1 | h1
            · exact .inr (.inl h1)
            · rcases Nat.lt_or_ge o' (l.2 + o + c'.length) with h2 | h2
              · refine .inl fun he => hr ?_
                subst he
                have := h (o' - (l.2 + o)) (by omega)
                rwa [show l.2 + o + (o' - (l.2 + o)) = o' from by omega] at this
              · exact .inr (.inr h2))]
        exact hfr.cell b' o' hb' hr
end
end Go.Cab
namespace Go.Cab
open Go.RowKit
open Classical
section
variable {w0 wk : World} {regs : List (Nat × Nat × Nat)} {St Imm : Nat → Nat → Prop} {s : AS} {a : Act} {w : World} {dst : Option Tmp}
theorem TmOk.grow (h3 : TmOk Imm w s.tm a.tmps) {w' : World} {Imm' : Nat → Nat → Prop} (hI : ∀ b o, Imm b o → Imm' b o) (hIw : ∀ b o, Imm b o → w'.cell? ⟨b, o, none⟩ = w.cell? ⟨b, o, none⟩) : TmOk Imm' w' s.tm a.tmps :=
  fun t v ht => (h3 t v ht).mono hI hIw
theorem Fr.keepImm {w' : World} (hfr : Fr [] w w') (hI : ImmOk w0 wk St Imm w) : ∀ b o, Imm b o → w'.cell? ⟨b, o, none⟩ = w.cell? ⟨b, o, none⟩ := fun b o hb => by
  obtain ⟨y, hy⟩ := Option.isSome_iff_exists.1 (hI.there b o hb)
  exact hfr.cell b o (World.block_lt_of_cell? w _ hy) (by simp [inReg])
theorem Fr.any {w' : World} (hfr : Fr [] w w') (regs : List (Nat × Nat × Nat)) : Fr regs w w' := .of_below hfr.below regs
theorem ImmOk.grow {w' : World} (hI : ImmOk w0 wk St Imm w) (hfr : Fr [] w w') : ImmOk w0 wk St Imm w' :=
  ⟨hI.sub, hI.old, fun b o hb => by rw [hfr.keepImm hI b o hb]; exact hI.there b o hb, fun b o hb => by rw [hfr.keepImm hI b o (hI.sub b o hb)]; exact hI.val b o hb⟩
theorem hp_set {hp : List (Option Blk)} {b k : Nat} {x y : Blk} (h : ((hp.set b (some x))[k]?).join = some y) : (k = b ∧ y = x) ∨ (k ≠ b ∧ (hp[k]?).join = some y) := by
  simp only [List.getElem?_set] at h
  by_cases hk : b = k
  · subst hk
    simp only [if_true] at h
    split at h
    · simp at h; exact .inl ⟨rfl, h.symm⟩
    · simp at h
  · rw [if_neg hk] at h; exact .inr ⟨Ne.symm hk, h⟩
theorem hp_set_none {hp : List (Option Blk)} {b k : Nat} {y : Blk} (h : ((hp.set b none)[k]?).join = some y) : k ≠ b ∧ (hp[k]?).join = some y := by
  simp only [List.getElem?_set] at h
  by_cases hk : b = k
  · subst hk
    simp only [if_true] at h
    split at h <;> simp at h
  · rw [if_neg hk] at h; exact ⟨Ne.symm hk, h⟩
theorem HeapOk.lay {hp : List (Option Blk)} (h : HeapOk w0 regs Imm hp w) {b : Nat} {x : Blk} (hx : x.ok Imm w) (hf : ∀ b o, x.foot b o → b < w.heap.size ∧ w0.heap.size ≤ b)
    (hd : ∀ (k : Nat) (y : Blk), k ≠ b → (hp[k]?).join = some y → ∀ b o, x.foot b o → ¬ y.foot b o) : HeapOk w0 regs Imm (hp.set b (some x)) w := by
  refine ⟨fun k y hy => ?_, fun k k' y z hne hy hz b' o' hfy => ?_⟩
  · rcases hp_set hy with ⟨rfl, rfl⟩ | ⟨hk, hy'⟩
    · exact ⟨hx, fun b o h => ⟨(hf b o h).1, .inl (hf b o h).2⟩⟩
    · exact h.ok k y hy'
  · rcases hp_set hy with ⟨rfl, rfl⟩ | ⟨hk, hy'⟩
    · rcases hp_set hz with ⟨rfl, rfl⟩ | ⟨hk', hz'⟩
      · exact absurd rfl hne
      · exact hd k' z hk' hz' b' o' hfy
    · rcases hp_set hz with ⟨rfl, rfl⟩ | ⟨hk', hz'⟩
      · exact fun hfx => hd k y hk hy' b' o' hfx hfy
      · exact h.apart k k' y z hne hy' hz' b' o' hfy
theorem HeapOk.drop {hp : List (Option Blk)} (h : HeapOk w0 regs Imm hp w) (b : Nat) : HeapOk w0 regs Imm (hp.set b none) w :=
  ⟨fun k y hy => h.ok k y (hp_set_none hy).2, fun k k' y z hne hy hz => h.apart k k' y z hne (hp_set_none hy).2 (hp_set_none hz).2⟩
theorem SRel.newBox (h : SRel w0 wk regs St s a w) (hI : ImmOk w0 wk St Imm w) (h3 : TmOk Imm w s.tm a.tmps) (hh : HeapOk w0 regs Imm s.hp w)
    {v : AV} {cs : List Value} (hv : R Imm w v cs) (ht : v.isTup = false) (e : TypeId) (b : Nat) :
    SRel w0 wk regs St { s.put dst (.ptr b (w.heap.size, 0) 0 []) with hp := s.hp.set b (some (.box (w.heap.size, 0) cs.length v)) }
      (a.put dst (.pointer (some ⟨w.heap.size, 0, none⟩))) (w.alloc (.cells cs.toArray e)) := by
  have hfr : Fr [] w (w.alloc (.cells cs.toArray e)) := Fr.alloc [] w _
  have hk := hfr.keepImm hI
  have hI' := hI.grow hfr
  refine h.put (Imm' := Imm) (hfr.any _) h3 (fun _ _ h => h) hk hI' ?_ (.inr (.inr ⟨_, .ptr _ _ _ _, rfl⟩))
  have hlt : ∀ b' o', Imm b' o' → b' < w.heap.size := fun b' o' hi => by
    obtain ⟨y, hy⟩ := Option.isSome_iff_exists.1 (hI.there b' o' hi)
    exact World.block_lt_of_cell? w _ hy
  refine HeapOk.lay (hh.grow hfr (fun _ _ h => h) (fun _ _ h _ => h) hI.there) ?_ ?_ ?_
  · refine ⟨⟨cs, hv.mono (fun _ _ h => h) hk, rfl, hv.scs ht, fun i y hy => ?_⟩, fun i _ => ⟨?_, fun hi => by have := hlt _ _ hi; simp at this⟩⟩
    · rw [Nat.zero_add, World.cell?_alloc_new]; simpa using hy
    · rw [Nat.zero_add, World.frozen?_alloc_new]
  · rintro b' o' ⟨rfl, _, _⟩
    exact ⟨by simp, h.frame.size⟩
  · rintro k y hk' hy b' o' ⟨rfl, _, _⟩ hfy
    have := ((hh.ok k y hy).2 _ _ hfy).1
    simp at this
theorem SRel.newList (h : SRel w0 wk regs St s a w) (hI : ImmOk w0 wk St Imm w) (h3 : TmOk Imm w s.tm a.tmps) (hh : HeapOk w0 regs Imm s.hp w)
    {esz : Nat} {els : List AV} {cs rest : List Value} (hv : R Imm w (.arr esz els) cs) (e : TypeId) (cap : Nat) (hcap : els.length ≤ cap) {fr : Nat × Nat} :
    SRel w0 wk regs St (s.put dst (.sl esz els)) (a.put dst (.slice (some ⟨w.heap.size, 0, none⟩) els.length cap)) (w.alloc (.cells (cs ++ rest).toArray e fr)) := by
  have hfr : Fr [] w (w.alloc (.cells (cs ++ rest).toArray e fr)) := Fr.alloc [] w _
  have hk := hfr.keepImm hI
  have hcell : ∀ i, (w.alloc (.cells (cs ++ rest).toArray e fr)).cell? ⟨w.heap.size, i, none⟩ = (cs ++ rest)[i]? := fun i => by
    rw [cell_of_row _ w.heap.size i (cs ++ rest).toArray e fr (heap_alloc_new w _)]; simp
  have hlt : ∀ b' o', Imm b' o' → b' < w.heap.size := fun b' o' hi => by
    obtain ⟨y, hy⟩ := Option.isSome_iff_exists.1 (hI.there b' o' hi)
    exact World.block_lt_of_cell? w _ hy
  have := h.put (dst := dst) (v := .sl esz els) (V := .slice (some ⟨w.heap.size, 0, none⟩) els.length cap) (hp' := s.hp)
    (Imm' := fun b o => Imm b o ∨ (b = w.heap.size ∧ o < cs.length)) (hfr.any _) h3 (fun _ _ h => .inl h) hk ?_ ?_ (.inr (.inr ⟨[.slice (some ⟨w.heap.size, 0, none⟩) els.length cap], ?_, rfl⟩))
  · rw [← put_hp s dst] at this; exact this
  · refine ⟨fun b o hb => .inl (hI.sub b o hb), fun b o hb hlt' => ?_, fun b o hb => ?_, fun b o hb => by rw [hk b o (hI.sub b o hb)]; exact hI.val b o hb⟩
    · rcases hb with hb | ⟨rfl, _⟩
      · exact hI.old b o hb hlt'
      · have := h.frame.size; omega
    · rcases hb with hb | ⟨rfl, ho⟩
      · rw [hk b o hb]; exact hI.there b o hb
      · rw [hcell, List.getElem?_append_left ho]; simp [ho]
  · exact hh.grow hfr (fun _ _ h => .inl h) (fun b o hb hlt' => hb.resolve_right (fun h => by omega)) hI.there
  · refine .sl esz els cs w.heap.size 0 cap (hv.mono (fun _ _ h => .inl h) hk) (fun i y hy => ?_) hcap
    have hi := (List.getElem?_eq_some_iff.1 hy).1
    refine ⟨?_, .inr ⟨rfl, by omega⟩⟩
    rw [Nat.zero_add, hcell, List.getElem?_append_left hi]; exact hy
end
def beqSc : Value → Value → Bool
  | .bool a, .bool b => a == b
  | .int k a, .int k' b => k == k' && a == b
  | .string a, .string b => decide (a = b)
  | .pointer none, .pointer none => true
  | .slice none 0 0, .slice none 0 0 => true
  | .map none, .map none => true
  | .nilFunc, .nilFunc => true
  | .nilIface, .nilIface => true
  | _, _ => false
theorem beqSc_eq {a b : Value} (h : beqSc a b = true) : a = b ∧ sc a = true := by
  unfold beqSc at h
  split at h <;> simp_all [sc]
def beqL : List Value → List Value → Bool
  | [], [] => true
  | a :: x, b :: y => beqSc a b && beqL x y
  | _, _ => false
theorem beqL_eq : ∀ {x y : List Value}, beqL x y = true → x = y
  | [], [], _ => rfl
  | a :: x, b :: y, h => by
    simp only [beqL, Bool.and_eq_true] at h
    rw [(beqSc_eq h.1).1, beqL_eq h.2]
  | [], _ :: _, h => by simp [beqL] at h
  | _ :: _, [], h => by simp [beqL] at h
def szOf (P : Program) (t : TypeId) : Option Nat := (P.info? t).map (·.size)
def zeroFs (P : Program) (z : TypeId → Option (AV × List Value)) : List Field → Option (List Nat × List AV × List Value)
  | [] => some ([], [], [])
  | f :: fs => match szOf P f.type, z f.type, zeroFs P z fs with
    | some n, some (v, c), some (ns, vs, d) => if c.length = n ∧ v.isTup = false then some (n :: ns, v :: vs, c ++ d) else none
    | _, _, _ => none
def reps (c : List Value) : Nat → List Value
  | 0 => []
  | n + 1 => c ++ reps c n
def zeroAV (P : Program) : Nat → TypeId → Option (AV × List Value)
  | 0, _ => none
  | d + 1, t => match P.underlying t with
    | some (.struct fields) => match zeroFs P (zeroAV P d) fields.toList with
      | some (ns, vs, c) => some (.st ns vs, c)
      | none => none
    | some (.array n e) => match szOf P e, zeroAV P d e with
      | some k, some (v, c) => if c.length = k ∧ v.isTup = false then some (.arr k (List.replicate n v), reps c n) else none
      | _, _ => none
    | some _ => match (P.info? t).bind (·.zero) with
      | some v => if beqSc v v then some (.lit v, [v]) else none
      | none => none
    | none => none
theorem zeroFs_R {P : Program} {z : TypeId → Option (AV × List Value)} (hz : ∀ t v c, z t = some (v, c) → ∀ Imm w, R Imm w v c) : ∀ (fs : List Field) (ns : List Nat) (vs : List AV) (c : List Value),
    zeroFs P z fs = some (ns, vs, c) → ∀ Imm w, R Imm w (.st ns vs) c
  | [], ns, vs, c, h, Imm, w => by
    simp only [zeroFs, Option.some.injEq, Prod.mk.injEq] at h
    obtain ⟨rfl, rfl, rfl⟩ := h
    exact .st0
  | f :: fs, ns, vs, c, h, Imm, w => by
    simp only [zeroFs] at h
    split at h
    · rename_i n v c' ns' vs' d h1 h2 h3
      split at h
      · rename_i hc
        simp only [Option.some.injEq, Prod.mk.injEq] at h
        obtain ⟨rfl, rfl, rfl⟩ := h
        have hv := hz _ _ _ h2 Imm w
        exact .st1 n ns' v vs' c' d hv hc.1 (hv.scs hc.2) (zeroFs_R hz fs ns' vs' d h3 Imm w)
      · cases h
    · cases h
theorem reps_R {Imm : Nat → Nat → Prop} {w : World} {v : AV} {c : List Value} {k : Nat} (h : R Imm w v c) (hl : c.length = k) (hs : ∀ x ∈ c, sc x = true) : ∀ n, R Imm w (.arr k (List.replicate n v)) (reps c n)
  | 0 => .arr0 k
  | n + 1 => .arr1 k v _ c _ h hl hs (reps_R h hl hs n)
theorem zeroAV_R {P : Program} : ∀ (d : Nat) (t : TypeId) (v : AV) (c : List Value), zeroAV P d t = some (v, c) → ∀ Imm w, R Imm w v c
  | 0, _, _, _, h => by simp [zeroAV] at h
  | d + 1, t, v, c, h => by
    intro Imm w
    simp only [zeroAV] at h
    split at h
    · split at h
      · rename_i ns vs c' h1
        simp only [Option.some.injEq, Prod.mk.injEq] at h
        obtain ⟨rfl, rfl⟩ := h
        exact zeroFs_R (fun t v c h => zeroAV_R d t v c h) _ _ _ _ h1 Imm w
      · cases h
    · split at h
      · rename_i k v' c' h1 h2
        split at h
        · rename_i hc
          simp only [Option.some.injEq, Prod.mk.injEq] at h
          obtain ⟨rfl, rfl⟩ := h
          have hv := zeroAV_R d _ _ _ h2 Imm w
          exact reps_R hv hc.1 (hv.scs hc.2) _
        · cases h
      · cases h
    · split at h
      · split at h
        · rename_i hb
          simp only [Option.some.injEq, Prod.mk.injEq] at h
          obtain ⟨rfl, rfl⟩ := h
          exact .lit _ (beqSc_eq hb).2
        · cases h
      · cases h
    · cases h
def zeroOf (P : Program) (t : TypeId) : Option (Nat × AV) :=
  match zeroAV P 12 t, (P.info? t).bind (·.zero), szOf P t with
  | some (v, c), some z, some n => if beqL c z.cells.toList ∧ v.isTup = false ∧ c.length = n then some (n, v) else none
  | _, _, _ => none
theorem zeroOf_spec {P : Program} {t : TypeId} {n : Nat} {v : AV} (h : zeroOf P t = some (n, v)) :
    ∃ i z, P.info? t = some i ∧ i.zero = some z ∧ i.size = n ∧ v.isTup = false ∧ z.cells.toList.length = n ∧ ∀ Imm w, R Imm w v z.cells.toList := by
  unfold zeroOf at h
  split at h
  · rename_i v' c z n' h1 h2 h3
    split at h
    · rename_i hc
      simp only [Option.some.injEq, Prod.mk.injEq] at h
      obtain ⟨rfl, rfl⟩ := h
      cases hi : P.info? t with
      | none => simp [hi] at h2
      | some i =>
        simp only [hi, Option.bind_some] at h2
        simp only [szOf, hi, Option.map_some, Option.some.injEq] at h3
        have e := beqL_eq hc.1
        exact ⟨i, z, rfl, h2, h3, hc.2.1, by rw [← e]; exact hc.2.2, fun Imm w => by rw [← e]; exact zeroAV_R 12 t _ _ h1 Imm w⟩
    · cases h
  · cases h
end Go.Cab
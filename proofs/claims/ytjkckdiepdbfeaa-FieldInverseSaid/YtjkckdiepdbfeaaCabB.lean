/- Part two: abstract states, the relation of a state to a frame and a world, and what keeps it. -/
import Derived.Test.YtjkckdiepdbfeaaCabA
set_option linter.unusedSimpArgs false
set_option linter.unusedVariables false
set_option linter.unusedSectionVars false
namespace Go.Cab
open Go.RowKit

/-- Is this cell in one of the regions (block, from, how many)? -/
def inReg (regs : List (Nat × Nat × Nat)) (b o : Nat) : Prop := ∃ r ∈ regs, b = r.1 ∧ r.2.1 ≤ o ∧ o < r.2.1 + r.2.2

/-- What a call may have done: new blocks, and the regions' cells. -/
structure Fr (regs : List (Nat × Nat × Nat)) (w0 w : World) : Prop where
  os : w.os = w0.os
  tape : w.tape = w0.tape
  output : w.output = w0.output
  size : w0.heap.size ≤ w.heap.size
  block : ∀ k, k < w0.heap.size → (∀ r ∈ regs, r.1 ≠ k) → w.heap[k]? = w0.heap[k]?
  cell : ∀ b o, b < w0.heap.size → ¬ inReg regs b o → w.cell? ⟨b, o, none⟩ = w0.cell? ⟨b, o, none⟩
  frozen : ∀ b o, b < w0.heap.size → w.frozen? ⟨b, o, none⟩ = w0.frozen? ⟨b, o, none⟩

theorem Fr.refl (regs : List (Nat × Nat × Nat)) (w : World) : Fr regs w w := ⟨rfl, rfl, rfl, Nat.le_refl _, fun _ _ _ => rfl, fun _ _ _ _ => rfl, fun _ _ _ => rfl⟩

theorem Fr.trans {regs : List (Nat × Nat × Nat)} {a b c : World} (h : Fr regs a b) (k : Fr regs b c) : Fr regs a c :=
  ⟨k.os.trans h.os, k.tape.trans h.tape, k.output.trans h.output, Nat.le_trans h.size k.size,
    fun i hi hr => (k.block i (Nat.lt_of_lt_of_le hi h.size) hr).trans (h.block i hi hr),
    fun x o hx hr => (k.cell x o (Nat.lt_of_lt_of_le hx h.size) hr).trans (h.cell x o hx hr),
    fun x o hx => (k.frozen x o (Nat.lt_of_lt_of_le hx h.size)).trans (h.frozen x o hx)⟩

theorem Fr.below {w0 w : World} (h : Fr [] w0 w) : Below w0.heap.size w0 w :=
  ⟨h.os, h.tape, h.output, h.size, fun k hk => h.block k hk (by simp)⟩

theorem Fr.of_below {w0 w : World} (h : Below w0.heap.size w0 w) (regs : List (Nat × Nat × Nat)) : Fr regs w0 w :=
  ⟨h.os, h.tape, h.output, h.size, fun k hk _ => h.block k hk, fun b _ hb _ => h.cell (p := ⟨b, _, none⟩) hb, fun b _ hb => h.frozen (p := ⟨b, _, none⟩) hb⟩

theorem Fr.alloc (regs : List (Nat × Nat × Nat)) (w : World) (o : Obj) : Fr regs w (w.alloc o) := .of_below ((Below.refl _ _).alloc (Nat.le_refl _) o) regs
theorem Fr.drew (regs : List (Nat × Nat × Nat)) (w : World) : Fr regs w w.drew := .of_below (Below.refl _ _).drew regs

/-- Abstract states: how many regions came in, the temporaries, the blocks (the regions first, then one place for each temporary). -/
structure AS where
  nr : Nat
  tm : List AV
  hp : List (Option Blk)
  deriving Inhabited

def AS.put (s : AS) (dst : Option Tmp) (v : AV) : AS := match dst with | some d => { s with tm := s.tm.set d v } | none => s
def AS.ev (s : AS) : Operand → AV
  | .tmp t => s.tm.getD t .any
  | .const v => .lit v
  | .global g => .lit (.pointer (some ⟨g, 0, none⟩))
  | .func f => .lit (.func (.func f) #[] #[])
def AS.blk (s : AS) (b : Nat) : Option Blk := (s.hp[b]?).join
def AS.setBlk (s : AS) (b : Nat) (x : Option Blk) : AS := { s with hp := s.hp.set b x }

/-- The cells that stay: those that were given, and others in new blocks. -/
structure ImmOk (w0 : World) (St Imm : Nat → Nat → Prop) (w : World) : Prop where
  sub : ∀ b o, St b o → Imm b o
  old : ∀ b o, Imm b o → b < w0.heap.size → St b o
  there : ∀ b o, Imm b o → (w.cell? ⟨b, o, none⟩).isSome = true

structure HeapOk (w0 : World) (regs : List (Nat × Nat × Nat)) (Imm : Nat → Nat → Prop) (hp : List (Option Blk)) (w : World) : Prop where
  ok : ∀ (k : Nat) (x : Blk), (hp[k]?).join = some x → x.ok Imm w ∧ ∀ b o, x.foot b o → b < w.heap.size ∧ (w0.heap.size ≤ b ∨ inReg regs b o)
  apart : ∀ (k k' : Nat) (x y : Blk), k ≠ k' → (hp[k]?).join = some x → (hp[k']?).join = some y → ∀ b o, x.foot b o → ¬ y.foot b o

def TmOk (Imm : Nat → Nat → Prop) (w : World) (tm : List AV) (tmps : Array Value) : Prop := ∀ (t : Nat) (v : AV), tm[t]? = some v → Rel Imm w v (tmps.getD t undef)

/-- The frame and the world are as the state says. 'w0': the world in which the call began; 'regs': the regions that came in; 'St': the cells that nobody else writes. -/
structure SRel (w0 : World) (regs : List (Nat × Nat × Nat)) (St : Nat → Nat → Prop) (s : AS) (a : Act) (w : World) : Prop where
  defers : a.defers = []
  tsize : a.tmps.size = s.tm.length
  frame : Fr regs w0 w
  ex : ∃ Imm : Nat → Nat → Prop, ImmOk w0 St Imm w ∧ TmOk Imm w s.tm a.tmps ∧ HeapOk w0 regs Imm s.hp w

section
variable {w0 : World} {regs : List (Nat × Nat × Nat)} {St Imm Imm' : Nat → Nat → Prop} {s : AS} {a : Act} {w w' : World} {dst : Option Tmp} {v : AV} {V : Value} {hp' : List (Option Blk)}

/-- The operand's value. -/
theorem TmOk.eval (h : TmOk Imm w s.tm a.tmps) (x : Operand) (hx : ∀ v, x = .const v → sc v = true) : Rel Imm w (s.ev x) (a.eval x) := by
  cases x with
  | tmp t =>
    simp only [AS.ev, Act.eval]
    cases ht : s.tm[t]? with
    | none => left; simp [List.getD, ht]
    | some v => simpa [List.getD, ht] using h t v ht
  | const v => exact Rel.mkLit (hx v rfl)
  | global g => exact Rel.mkLit rfl
  | func f => exact Rel.mkLit rfl

theorem tmps_getD_put (a : Act) (d t : Nat) (V : Value) (hd : d < a.tmps.size) : (a.put (some d) V).tmps.getD t undef = if t = d then V else a.tmps.getD t undef := by
  simp only [Act.put, Array.getD_eq_getD_getElem?, Array.getElem?_setIfInBounds]
  by_cases h : d = t
  · subst h; simp [hd]
  · simp [h, Ne.symm h]

theorem TmOk.put (h3 : TmOk Imm w s.tm a.tmps) (hts : a.tmps.size = s.tm.length) (hI : ∀ b o, Imm b o → Imm' b o) (hIw : ∀ b o, Imm b o → w'.cell? ⟨b, o, none⟩ = w.cell? ⟨b, o, none⟩)
    (hv : dst = none ∨ Rel Imm' w' v V) : TmOk Imm' w' (s.put dst v).tm (a.put dst V).tmps := by
  intro t u hu
  cases dst with
  | none => exact (h3 t u (by simpa [AS.put] using hu)).mono hI hIw
  | some d =>
    simp only [AS.put, List.getElem?_set] at hu
    by_cases hdt : d = t
    · subst hdt
      simp only [if_true] at hu
      split at hu
      · rename_i hlt
        cases hu
        rw [tmps_getD_put _ _ _ _ (by omega), if_pos rfl]
        exact hv.resolve_left (by simp)
      · cases hu
    · rw [if_neg hdt] at hu
      by_cases hlt : d < a.tmps.size
      · rw [tmps_getD_put _ _ _ _ hlt, if_neg (Ne.symm hdt)]
        exact (h3 t u hu).mono hI hIw
      · have : (a.put (some d) V).tmps = a.tmps := by simp [Act.put, Array.setIfInBounds, hlt]
        rw [this]
        exact (h3 t u hu).mono hI hIw

theorem put_hp (s : AS) (dst : Option Tmp) (v : AV) : (s.put dst v).hp = s.hp := by cases dst <;> rfl
theorem put_nr (s : AS) (dst : Option Tmp) (v : AV) : (s.put dst v).nr = s.nr := by cases dst <;> rfl
theorem put_len (s : AS) (dst : Option Tmp) (v : AV) : (s.put dst v).tm.length = s.tm.length := by cases dst <;> simp [AS.put]
theorem aput_size (a : Act) (dst : Option Tmp) (V : Value) : (a.put dst V).tmps.size = a.tmps.size := by cases dst <;> simp [Act.put]
theorem aput_defers (a : Act) (dst : Option Tmp) (V : Value) : (a.put dst V).defers = a.defers := by cases dst <;> rfl
theorem setBlk_put (s : AS) (dst : Option Tmp) (v : AV) (b : Nat) (x : Option Blk) : (s.setBlk b x).put dst v = (s.put dst v).setBlk b x := by cases dst <;> rfl

/-- The general step: a value is put, the world has grown, the blocks are what they are. -/
theorem SRel.put (h : SRel w0 regs St s a w) (hfr : Fr regs w w') (h3 : TmOk Imm w s.tm a.tmps) (hI : ∀ b o, Imm b o → Imm' b o)
    (hIw : ∀ b o, Imm b o → w'.cell? ⟨b, o, none⟩ = w.cell? ⟨b, o, none⟩) (h2 : ImmOk w0 St Imm' w') (h4 : HeapOk w0 regs Imm' hp' w') (hv : dst = none ∨ Rel Imm' w' v V) :
    SRel w0 regs St { s.put dst v with hp := hp' } (a.put dst V) w' :=
  ⟨by rw [aput_defers]; exact h.defers, by rw [aput_size, put_len]; exact h.tsize, h.frame.trans hfr, Imm', h2, h3.put h.tsize hI hIw hv, h4⟩

/-- The simplest step: nothing but a temporary. -/
theorem SRel.put0 (h : SRel w0 regs St s a w) (h1 : ImmOk w0 St Imm w) (h3 : TmOk Imm w s.tm a.tmps) (h4 : HeapOk w0 regs Imm s.hp w) (hv : Rel Imm w v V) :
    SRel w0 regs St (s.put dst v) (a.put dst V) w := by
  have := SRel.put (dst := dst) (hp' := s.hp) h (Fr.refl _ _) h3 (fun _ _ h => h) (fun _ _ _ => rfl) h1 h4 (.inr hv)
  rw [← put_hp s dst v] at this
  exact this

theorem SRel.drew (h : SRel w0 regs St s a w) : SRel w0 regs St s a w.drew := by
  obtain ⟨Imm, h1, h2, h3⟩ := h.ex
  refine ⟨h.defers, h.tsize, h.frame.trans (Fr.drew _ _), Imm, ⟨h1.sub, h1.old, h1.there⟩, fun t v ht => (h2 t v ht).mono (fun _ _ h => h) (fun _ _ _ => rfl), fun k x hx => ?_, h3.apart⟩
  obtain ⟨ha, hb⟩ := h3.ok k x hx
  refine ⟨?_, hb⟩
  cases x with
  | box l n v =>
    obtain ⟨⟨cs, hc, h⟩, h'⟩ := ha
    exact ⟨⟨cs, hc.mono (fun _ _ h => h) (fun _ _ _ => rfl), h⟩, h'⟩
  | row e V esz els s =>
    obtain ⟨cs, hc, h⟩ := ha
    exact ⟨cs, hc.mono (fun _ _ h => h) (fun _ _ _ => rfl), h⟩

/-- A block's part stays as it is where nothing of it, and nothing that stays, was written. -/
theorem Blk.ok.keep {x : Blk} (h : x.ok Imm w) (hI : ∀ b o, Imm b o → Imm' b o) (hIw : ∀ b o, Imm b o → w'.cell? ⟨b, o, none⟩ = w.cell? ⟨b, o, none⟩)
    (hnew : ∀ b o, x.foot b o → Imm' b o → Imm b o) (hc : ∀ b o, x.foot b o → w'.cell? ⟨b, o, none⟩ = w.cell? ⟨b, o, none⟩)
    (hf : ∀ b o, x.foot b o → w'.frozen? ⟨b, o, none⟩ = w.frozen? ⟨b, o, none⟩)
    (hb : ∀ e V esz els s, x = .row e V esz els s → ∀ b, V.ownBlock = some b → w'.heap[b]? = w.heap[b]?) : x.ok Imm' w' := by
  cases x with
  | box l n v =>
    obtain ⟨⟨cs, hcs, hl, hsc, hcell⟩, h'⟩ := h
    refine ⟨⟨cs, hcs.mono hI hIw, hl, hsc, fun i y hy => ?_⟩, fun i hi => ⟨?_, fun hm => (h' i hi).2 (hnew _ _ ⟨rfl, by omega, by omega⟩ hm)⟩⟩
    · have : i < cs.length := (List.getElem?_eq_some_iff.1 hy).1
      rw [hc _ _ ⟨rfl, by omega, by omega⟩]; exact hcell i y hy
    · rw [hf _ _ ⟨rfl, by omega, by omega⟩]; exact (h' i hi).1
  | row e V esz els s =>
    obtain ⟨cs, hcs, hown, hsV, hs, hm⟩ := h
    refine ⟨cs, hcs.mono hI hIw, ?_, hsV, hs, fun b o hb1 ho hm' => hm b o hb1 ho (hnew _ _ hb1 hm')⟩
    refine ⟨hown.1, ?_⟩
    rcases hown.2 with hn | ⟨g, cap, cur, rfl, h0, hg, hrest⟩
    · exact .inl hn
    · exact .inr ⟨g, cap, cur, rfl, h0, by rw [hb _ _ _ _ _ rfl g rfl]; exact hg, hrest⟩

/-- The blocks stay as they are where new blocks were made, and nothing else. -/
theorem HeapOk.grow {hp : List (Option Blk)} (h : HeapOk w0 regs Imm hp w) (hfr : Fr [] w w') (hI : ∀ b o, Imm b o → Imm' b o) (hnew : ∀ b o, Imm' b o → b < w.heap.size → Imm b o)
    (hth : ∀ b o, Imm b o → (w.cell? ⟨b, o, none⟩).isSome = true) : HeapOk w0 regs Imm' hp w' := by
  have hIw : ∀ b o, Imm b o → w'.cell? ⟨b, o, none⟩ = w.cell? ⟨b, o, none⟩ := fun b o hb => by
    obtain ⟨y, hy⟩ := Option.isSome_iff_exists.1 (hth b o hb)
    exact hfr.cell b o (World.block_lt_of_cell? w _ hy) (by simp [inReg])
  refine ⟨fun k x hx => ?_, h.apart⟩
  obtain ⟨ha, hb⟩ := h.ok k x hx
  refine ⟨ha.keep hI hIw (fun b o hf hi => hnew b o hi (hb b o hf).1) (fun b o hf => hfr.cell b o (hb b o hf).1 (by simp [inReg])) (fun b o hf => hfr.frozen b o (hb b o hf).1) ?_, fun b o hf => ⟨Nat.lt_of_lt_of_le (hb b o hf).1 hfr.size, (hb b o hf).2⟩⟩
  intro e V esz els s he b hV
  subst he
  exact hfr.block b (hb b 0 hV).1 (by simp)

end
end Go.Cab

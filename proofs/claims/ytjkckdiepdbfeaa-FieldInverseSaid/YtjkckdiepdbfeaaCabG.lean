/- Part seven: new blocks, lists that nobody writes, zero values. -/
import Derived.Test.YtjkckdiepdbfeaaCabF
set_option linter.unusedSimpArgs false
set_option linter.unusedVariables false
set_option linter.unusedSectionVars false
namespace Go.Cab
open Go.RowKit
open Classical

section
variable {w0 : World} {regs : List (Nat × Nat × Nat)} {St Imm : Nat → Nat → Prop} {s : AS} {a : Act} {w : World} {dst : Option Tmp}

/-- Where only new blocks were made all that is known stays. 'Imm'': what stays now. -/
theorem TmOk.grow (h3 : TmOk Imm w s.tm a.tmps) {w' : World} {Imm' : Nat → Nat → Prop} (hI : ∀ b o, Imm b o → Imm' b o) (hIw : ∀ b o, Imm b o → w'.cell? ⟨b, o, none⟩ = w.cell? ⟨b, o, none⟩) : TmOk Imm' w' s.tm a.tmps :=
  fun t v ht => (h3 t v ht).mono hI hIw

theorem Fr.keepImm {w' : World} (hfr : Fr [] w w') (hI : ImmOk w0 St Imm w) : ∀ b o, Imm b o → w'.cell? ⟨b, o, none⟩ = w.cell? ⟨b, o, none⟩ := fun b o hb => by
  obtain ⟨y, hy⟩ := Option.isSome_iff_exists.1 (hI.there b o hb)
  exact hfr.cell b o (World.block_lt_of_cell? w _ hy) (by simp [inReg])

theorem Fr.any {w' : World} (hfr : Fr [] w w') (regs : List (Nat × Nat × Nat)) : Fr regs w w' := .of_below hfr.below regs

theorem ImmOk.grow {w' : World} (hI : ImmOk w0 St Imm w) (hfr : Fr [] w w') : ImmOk w0 St Imm w' :=
  ⟨hI.sub, hI.old, fun b o hb => by rw [hfr.keepImm hI b o hb]; exact hI.there b o hb⟩

theorem hp_set {hp : List (Option Blk)} {b k : Nat} {x y : Blk} (h : ((hp.set b (some x))[k]?).join = some y) : (k = b ∧ y = x) ∨ (k ≠ b ∧ (hp[k]?).join = some y) := by
  simp only [List.getElem?_set] at h
  by_cases hk : b = k
  · subst hk
    simp only [if_true] at h
    split at h
    · simp at h; exact .inl ⟨rfl, h.symm⟩
    · simp at h
  · rw [if_neg hk] at h; exact .inr ⟨Ne.symm hk, h⟩

theorem hp_set_none {hp : List (Option Blk)} {b k : Nat} {y : Blk} (h : ((hp.set b none)[k]?).join = some y) : k ≠ b ∧ (hp[k]?).join = some y := by
  simp only [List.getElem?_set] at h
  by_cases hk : b = k
  · subst hk
    simp only [if_true] at h
    split at h <;> simp at h
  · rw [if_neg hk] at h; exact ⟨Ne.symm hk, h⟩

/-- A new block is laid into a place. -/
theorem HeapOk.lay {hp : List (Option Blk)} (h : HeapOk w0 regs Imm hp w) {b : Nat} {x : Blk} (hx : x.ok Imm w) (hf : ∀ b o, x.foot b o → b < w.heap.size ∧ w0.heap.size ≤ b)
    (hd : ∀ (k : Nat) (y : Blk), k ≠ b → (hp[k]?).join = some y → ∀ b o, x.foot b o → ¬ y.foot b o) : HeapOk w0 regs Imm (hp.set b (some x)) w := by
  refine ⟨fun k y hy => ?_, fun k k' y z hne hy hz b' o' hfy => ?_⟩
  · rcases hp_set hy with ⟨rfl, rfl⟩ | ⟨hk, hy'⟩
    · exact ⟨hx, fun b o h => ⟨(hf b o h).1, .inl (hf b o h).2⟩⟩
    · exact h.ok k y hy'
  · rcases hp_set hy with ⟨rfl, rfl⟩ | ⟨hk, hy'⟩
    · rcases hp_set hz with ⟨rfl, rfl⟩ | ⟨hk', hz'⟩
      · exact absurd rfl hne
      · exact hd k' z hk' hz' b' o' hfy
    · rcases hp_set hz with ⟨rfl, rfl⟩ | ⟨hk', hz'⟩
      · exact fun hfx => hd k y hk hy' b' o' hfx hfy
      · exact h.apart k k' y z hne hy' hz' b' o' hfy

theorem HeapOk.drop {hp : List (Option Blk)} (h : HeapOk w0 regs Imm hp w) (b : Nat) : HeapOk w0 regs Imm (hp.set b none) w :=
  ⟨fun k y hy => h.ok k y (hp_set_none hy).2, fun k k' y z hne hy hz => h.apart k k' y z hne (hp_set_none hy).2 (hp_set_none hz).2⟩

/-- A new variable. -/
theorem SRel.newBox (h : SRel w0 regs St s a w) (hI : ImmOk w0 St Imm w) (h3 : TmOk Imm w s.tm a.tmps) (hh : HeapOk w0 regs Imm s.hp w)
    {v : AV} {cs : List Value} (hv : R Imm w v cs) (ht : v.isTup = false) (e : TypeId) (b : Nat) :
    SRel w0 regs St { s.put dst (.ptr b (w.heap.size, 0) 0 []) with hp := s.hp.set b (some (.box (w.heap.size, 0) cs.length v)) }
      (a.put dst (.pointer (some ⟨w.heap.size, 0, none⟩))) (w.alloc (.cells cs.toArray e)) := by
  have hfr : Fr [] w (w.alloc (.cells cs.toArray e)) := Fr.alloc [] w _
  have hk := hfr.keepImm hI
  have hI' := hI.grow hfr
  refine h.put (Imm' := Imm) (hfr.any _) h3 (fun _ _ h => h) hk hI' ?_ (.inr (.inr ⟨_, .ptr _ _ _ _, rfl⟩))
  have hlt : ∀ b' o', Imm b' o' → b' < w.heap.size := fun b' o' hi => by
    obtain ⟨y, hy⟩ := Option.isSome_iff_exists.1 (hI.there b' o' hi)
    exact World.block_lt_of_cell? w _ hy
  refine HeapOk.lay (hh.grow hfr (fun _ _ h => h) (fun _ _ h _ => h) hI.there) ?_ ?_ ?_
  · refine ⟨⟨cs, hv.mono (fun _ _ h => h) hk, rfl, hv.scs ht, fun i y hy => ?_⟩, fun i _ => ⟨?_, fun hi => by have := hlt _ _ hi; simp at this⟩⟩
    · rw [Nat.zero_add, World.cell?_alloc_new]; simpa using hy
    · rw [Nat.zero_add, World.frozen?_alloc_new]
  · rintro b' o' ⟨rfl, _, _⟩
    exact ⟨by simp, h.frame.size⟩
  · rintro k y hk' hy b' o' ⟨rfl, _, _⟩ hfy
    have := ((hh.ok k y hy).2 _ _ hfy).1
    simp at this

/-- A new list that nobody writes. -/
theorem SRel.newList (h : SRel w0 regs St s a w) (hI : ImmOk w0 St Imm w) (h3 : TmOk Imm w s.tm a.tmps) (hh : HeapOk w0 regs Imm s.hp w)
    {esz : Nat} {els : List AV} {cs rest : List Value} (hv : R Imm w (.arr esz els) cs) (e : TypeId) (cap : Nat) (hcap : els.length ≤ cap) {fr : Nat × Nat} :
    SRel w0 regs St (s.put dst (.sl esz els)) (a.put dst (.slice (some ⟨w.heap.size, 0, none⟩) els.length cap)) (w.alloc (.cells (cs ++ rest).toArray e fr)) := by
  have hfr : Fr [] w (w.alloc (.cells (cs ++ rest).toArray e fr)) := Fr.alloc [] w _
  have hk := hfr.keepImm hI
  have hcell : ∀ i, (w.alloc (.cells (cs ++ rest).toArray e fr)).cell? ⟨w.heap.size, i, none⟩ = (cs ++ rest)[i]? := fun i => by
    rw [cell_of_row _ w.heap.size i (cs ++ rest).toArray e fr (heap_alloc_new w _)]; simp
  have hlt : ∀ b' o', Imm b' o' → b' < w.heap.size := fun b' o' hi => by
    obtain ⟨y, hy⟩ := Option.isSome_iff_exists.1 (hI.there b' o' hi)
    exact World.block_lt_of_cell? w _ hy
  have := h.put (dst := dst) (v := .sl esz els) (V := .slice (some ⟨w.heap.size, 0, none⟩) els.length cap) (hp' := s.hp)
    (Imm' := fun b o => Imm b o ∨ (b = w.heap.size ∧ o < cs.length)) (hfr.any _) h3 (fun _ _ h => .inl h) hk ?_ ?_ (.inr (.inr ⟨[.slice (some ⟨w.heap.size, 0, none⟩) els.length cap], ?_, rfl⟩))
  · rw [← put_hp s dst] at this; exact this
  · refine ⟨fun b o hb => .inl (hI.sub b o hb), fun b o hb hlt' => ?_, fun b o hb => ?_⟩
    · rcases hb with hb | ⟨rfl, _⟩
      · exact hI.old b o hb hlt'
      · have := h.frame.size; omega
    · rcases hb with hb | ⟨rfl, ho⟩
      · rw [hk b o hb]; exact hI.there b o hb
      · rw [hcell, List.getElem?_append_left ho]; simp [ho]
  · exact hh.grow hfr (fun _ _ h => .inl h) (fun b o hb hlt' => hb.resolve_right (fun h => by omega)) hI.there
  · refine .sl esz els cs w.heap.size 0 cap (hv.mono (fun _ _ h => .inl h) hk) (fun i y hy => ?_) hcap
    have hi := (List.getElem?_eq_some_iff.1 hy).1
    refine ⟨?_, .inr ⟨rfl, by omega⟩⟩
    rw [Nat.zero_add, hcell, List.getElem?_append_left hi]; exact hy

end

/-! ### Zero values -/

def beqSc : Value → Value → Bool
  | .bool a, .bool b => a == b
  | .int k a, .int k' b => k == k' && a == b
  | .string a, .string b => decide (a = b)
  | .pointer none, .pointer none => true
  | .slice none 0 0, .slice none 0 0 => true
  | .map none, .map none => true
  | .nilFunc, .nilFunc => true
  | .nilIface, .nilIface => true
  | _, _ => false

theorem beqSc_eq {a b : Value} (h : beqSc a b = true) : a = b ∧ sc a = true := by
  unfold beqSc at h
  split at h <;> simp_all [sc]

def beqL : List Value → List Value → Bool
  | [], [] => true
  | a :: x, b :: y => beqSc a b && beqL x y
  | _, _ => false

theorem beqL_eq : ∀ {x y : List Value}, beqL x y = true → x = y
  | [], [], _ => rfl
  | a :: x, b :: y, h => by
    simp only [beqL, Bool.and_eq_true] at h
    rw [(beqSc_eq h.1).1, beqL_eq h.2]
  | [], _ :: _, h => by simp [beqL] at h
  | _ :: _, [], h => by simp [beqL] at h

def szOf (P : Program) (t : TypeId) : Option Nat := (P.info? t).map (·.size)

/-- The parts of a struct, one behind the other. -/
def zeroFs (P : Program) (z : TypeId → Option (AV × List Value)) : List Field → Option (List Nat × List AV × List Value)
  | [] => some ([], [], [])
  | f :: fs => match szOf P f.type, z f.type, zeroFs P z fs with
    | some n, some (v, c), some (ns, vs, d) => if c.length = n ∧ v.isTup = false then some (n :: ns, v :: vs, c ++ d) else none
    | _, _, _ => none

def reps (c : List Value) : Nat → List Value
  | 0 => []
  | n + 1 => c ++ reps c n

def zeroAV (P : Program) : Nat → TypeId → Option (AV × List Value)
  | 0, _ => none
  | d + 1, t => match P.underlying t with
    | some (.struct fields) => match zeroFs P (zeroAV P d) fields.toList with
      | some (ns, vs, c) => some (.st ns vs, c)
      | none => none
    | some (.array n e) => match szOf P e, zeroAV P d e with
      | some k, some (v, c) => if c.length = k ∧ v.isTup = false then some (.arr k (List.replicate n v), reps c n) else none
      | _, _ => none
    | some _ => match (P.info? t).bind (·.zero) with
      | some v => if beqSc v v then some (.lit v, [v]) else none
      | none => none
    | none => none

theorem zeroFs_R {P : Program} {z : TypeId → Option (AV × List Value)} (hz : ∀ t v c, z t = some (v, c) → ∀ Imm w, R Imm w v c) : ∀ (fs : List Field) (ns : List Nat) (vs : List AV) (c : List Value),
    zeroFs P z fs = some (ns, vs, c) → ∀ Imm w, R Imm w (.st ns vs) c
  | [], ns, vs, c, h, Imm, w => by
    simp only [zeroFs, Option.some.injEq, Prod.mk.injEq] at h
    obtain ⟨rfl, rfl, rfl⟩ := h
    exact .st0
  | f :: fs, ns, vs, c, h, Imm, w => by
    simp only [zeroFs] at h
    split at h
    · rename_i n v c' ns' vs' d h1 h2 h3
      split at h
      · rename_i hc
        simp only [Option.some.injEq, Prod.mk.injEq] at h
        obtain ⟨rfl, rfl, rfl⟩ := h
        have hv := hz _ _ _ h2 Imm w
        exact .st1 n ns' v vs' c' d hv hc.1 (hv.scs hc.2) (zeroFs_R hz fs ns' vs' d h3 Imm w)
      · cases h
    · cases h

theorem reps_R {Imm : Nat → Nat → Prop} {w : World} {v : AV} {c : List Value} {k : Nat} (h : R Imm w v c) (hl : c.length = k) (hs : ∀ x ∈ c, sc x = true) : ∀ n, R Imm w (.arr k (List.replicate n v)) (reps c n)
  | 0 => .arr0 k
  | n + 1 => .arr1 k v _ c _ h hl hs (reps_R h hl hs n)

theorem zeroAV_R {P : Program} : ∀ (d : Nat) (t : TypeId) (v : AV) (c : List Value), zeroAV P d t = some (v, c) → ∀ Imm w, R Imm w v c
  | 0, _, _, _, h => by simp [zeroAV] at h
  | d + 1, t, v, c, h => by
    intro Imm w
    simp only [zeroAV] at h
    split at h
    · split at h
      · rename_i ns vs c' h1
        simp only [Option.some.injEq, Prod.mk.injEq] at h
        obtain ⟨rfl, rfl⟩ := h
        exact zeroFs_R (fun t v c h => zeroAV_R d t v c h) _ _ _ _ h1 Imm w
      · cases h
    · split at h
      · rename_i k v' c' h1 h2
        split at h
        · rename_i hc
          simp only [Option.some.injEq, Prod.mk.injEq] at h
          obtain ⟨rfl, rfl⟩ := h
          have hv := zeroAV_R d _ _ _ h2 Imm w
          exact reps_R hv hc.1 (hv.scs hc.2) _
        · cases h
      · cases h
    · split at h
      · split at h
        · rename_i hb
          simp only [Option.some.injEq, Prod.mk.injEq] at h
          obtain ⟨rfl, rfl⟩ := h
          exact .lit _ (beqSc_eq hb).2
        · cases h
      · cases h
    · cases h

/-- The zero value of a type, checked against the program's own. -/
def zeroOf (P : Program) (t : TypeId) : Option (Nat × AV) :=
  match zeroAV P 12 t, (P.info? t).bind (·.zero), szOf P t with
  | some (v, c), some z, some n => if beqL c z.cells.toList ∧ v.isTup = false ∧ c.length = n then some (n, v) else none
  | _, _, _ => none

theorem zeroOf_spec {P : Program} {t : TypeId} {n : Nat} {v : AV} (h : zeroOf P t = some (n, v)) :
    ∃ i z, P.info? t = some i ∧ i.zero = some z ∧ i.size = n ∧ v.isTup = false ∧ z.cells.toList.length = n ∧ ∀ Imm w, R Imm w v z.cells.toList := by
  unfold zeroOf at h
  split at h
  · rename_i v' c z n' h1 h2 h3
    split at h
    · rename_i hc
      simp only [Option.some.injEq, Prod.mk.injEq] at h
      obtain ⟨rfl, rfl⟩ := h
      cases hi : P.info? t with
      | none => simp [hi] at h2
      | some i =>
        simp only [hi, Option.bind_some] at h2
        simp only [szOf, hi, Option.map_some, Option.some.injEq] at h3
        have e := beqL_eq hc.1
        exact ⟨i, z, rfl, h2, h3, hc.2.1, by rw [← e]; exact hc.2.2, fun Imm w => by rw [← e]; exact zeroAV_R 12 t _ _ h1 Imm w⟩
    · cases h
  · cases h

end Go.Cab

/- Part 13 of what the proof stands on: KT, KU, KO, KP, S29, KL, JN. -/
import Derived.Test.YtihiiojkllaknaaDoorCab05
import Derived.ProofKit
import Derived.Deep.Slices
import Derived.Test.YtihiiojkllaknaaDoorProg
import Derived.Test.YtihiiojkllaknaaDoorCab06
import Derived.OpenShut
import Derived.Test.YtihiiojkllaknaaDoorCab09
import Derived.Test.YtihiiojkllaknaaDoorCab12
import Derived.LaidSub
import Derived.Lib.LaidTab
import Derived.Lib.ItoaNum
import Derived.Test.YtihiiojkllaknaaDoorRows
import Derived.LaidLaws
import Derived.LaidHandle
import Derived.JoinedOf
set_option linter.unusedSimpArgs false
set_option linter.unnecessarySimpa false
set_option linter.unusedVariables false
set_option linter.unusedSectionVars false
/- The row's arguments: lists of bytes, and its close. -/
namespace Go.Cab
open Go.ChangeShapes Go.WideShapes Go.RowKit Go.ChangeAt

section
variable {H : Type} {enc : TypeId × Value → H} {P : Program}

theorem post_below {f : Func} {s : ChangeSpec} {apart fresh handsOn again : Bool} {W W' : World} {args : Array Value} {v : Value} {ds : List (DataW H)} {before : List MemPlace}
    (hvs : s.vars = []) (hW : DataW.Whole enc P f.params.toList s.vars apart W args.toList ds [] before)
    (hb : Below W.heap.size W W')
    (hres : ∀ (b : Nat) (sp : Nat → Bool) (hd : Bool), DataW.TrodAll enc P W' b sp hd f.resultTypes.toList (v.resultList f.resultTypes.size) (s.fn H (ds ++ [])).results [])
    (hargs : ∀ sp : Nat → Bool, (∀ p ∈ before, sp p.block = true) → DataW.TrodAll enc P W' 0 sp true f.params.toList args.toList (s.fn H (ds ++ [])).args before)
    (hvars : ∀ sp : Nat → Bool, DataW.TrodVars enc P W' sp s.vars (s.fn H (ds ++ [])).vars [])
    (hok : ∀ (j : Nat) (t : TypeId) (r : Value), f.resultTypes[j]? = some t → (v.resultList f.resultTypes.size)[j]? = some r → Value.okWide P W' .any 0 t r) :
    s.post enc P f apart fresh handsOn again W args v W' := by
  have hlt : ∀ p ∈ before, p.block < W.heap.size := fun p hp => hW.lt p hp
  refine ⟨ds, [], before, [], before, [], hW, hres _ _ _, hargs _ (fun p hp => by simpa using hlt p hp), hvars _, hb.frame _, fun _ => ?_⟩
  obtain ⟨_, _, _, _, _, hz, hn⟩ := hW
  refine ⟨hok, _, _, ([] ++ before) ++ [], ⟨[] ++ before, [], trodAll_append (hargs _ (fun _ _ => rfl)) (hres _ _ _), hvars _, rfl, fun b o hp => ?_, fun ha => ?_⟩, fun p hp _ => ?_⟩
  · have hp' : MemPlace.cell b o ∈ before := by simpa using hp
    have h1 := hz b o hp'
    rw [hb.frozen (p := ⟨b, o, none⟩) (hlt _ hp')]
    exact h1
  · simpa using hn ha
  · simpa using hp
end
end Go.Cab

namespace Go.Cab
open Go.ChangeShapes Go.WideShapes Go.RowKit

section
variable {H : Type} {enc : TypeId × Value → H} {P : Program} {W : World} {base : Nat} {sp : Nat → Bool} {held : Bool}

theorem At.app {Imm : Nat → Nat → Prop} {w : World} {b o : Nat} {c d : List Value} (h : At Imm w b o c) (k : At Imm w b (o + c.length) d) : At Imm w b o (c ++ d) := by
  intro i v hv
  by_cases hi : i < c.length
  · rw [List.getElem?_append_left hi] at hv; exact h i v hv
  · rw [List.getElem?_append_right (by omega)] at hv
    have := k (i - c.length) v hv
    rwa [show o + c.length + (i - c.length) = o + i by omega] at this

/-- The cells that the row's reading met, and that are there. -/
def StOf (W : World) (ps : List MemPlace) (b o : Nat) : Prop := MemPlace.cell b o ∈ ps ∧ (W.cell? ⟨b, o, none⟩).isSome = true

/-- A list that the row lets in. 'G': what is told of each element. -/
theorem open_sl {t k : TypeId} {c : Nat} (ht : P.underlying t = some (.slice k)) (hc : P.cellsOf k = c) (G : AV → Prop)
    (hel : ∀ (n : Nat) (cs : List Value) (x : DataW H × List MemPlace), DataW.trod enc P W base sp held n k cs = some x → cs.length = c → ∃ v, G v ∧ R (StOf W x.2) W v cs ∧ ∀ y ∈ cs, sc y = true)
    {r : Reach} {b0 : Nat} {v : Value} (hval : Value.okWide P W r b0 t v) {d : DataW H} {ps : List MemPlace} (hd : DataW.Trod enc P W base sp held t v d ps) :
    ∃ vs : List AV, (∀ u ∈ vs, G u) ∧ Rel (StOf W ps) W (.sl c vs) v := by
  obtain ⟨fuel, hf⟩ := hd
  have hv : (∃ a len cap, v = .slice a len cap) := by
    cases v <;> simp [Value.okWide, Cell.okWide, Cell.ok, ht] at hval ⊢
  obtain ⟨a0, len0, cap0, rfl⟩ := hv
  have hcs : (Value.slice a0 len0 cap0).cells.toList = [.slice a0 len0 cap0] := rfl
  rw [hcs] at hf
  rcases Go.Deep.open_slice ht hf with ⟨h1, h2⟩ | ⟨a, len, cap, m, n, D, Pl, h1, _, hle, _, hm, h2, hall⟩
  · cases h1
    exact ⟨[], by simp, .inr ⟨_, .slnil c, rfl⟩⟩
  · cases h1
    have hspot : a.spot = none := by
      simp only [Value.okWide, Cell.okWide, Cell.ok, ht] at hval
      exact hval.2.2.2.1
    have hps : ps = MemPlace.row a (m * P.cellsOf k) ++ (List.range m).flatMap Pl := congrArg Prod.snd h2
    rw [hc] at hps hall
    have hlm : len0 ≤ m := by rw [hm]; split <;> omega
    -- from the tail on
    have key : ∀ q, q ≤ len0 → ∃ (vs : List AV) (cs : List Value), (∀ u ∈ vs, G u) ∧ vs.length = q ∧ cs.length = q * c ∧ R (StOf W ps) W (.arr c vs) cs ∧ At (StOf W ps) W a.block (a.off + (len0 - q) * c) cs := by
      intro q
      induction q with
      | zero => exact fun _ => ⟨[], [], by simp, rfl, by simp, .arr0 c, fun i v hv => by simp at hv⟩
      | succ q ih =>
        intro hq
        obtain ⟨vs, cs, g1, g2, g3, g4, g5⟩ := ih (by omega)
        have hi : len0 - (q + 1) < m := by omega
        obtain ⟨cs', k1, k2⟩ := hall (len0 - (q + 1)) hi
        obtain ⟨_, hl', hget⟩ := World.cells?_some k1
        obtain ⟨u, u1, u2, u3⟩ := hel n cs' _ k2 hl'
        refine ⟨u :: vs, cs' ++ cs, ?_, by simp [g2], by rw [List.length_append, hl', g3, Nat.succ_mul]; omega, .arr1 c u vs cs' cs (u2.mono (fun b o hb => ?_) (fun _ _ _ => rfl)) hl' u3 g4, At.app ?_ ?_⟩
        · intro x hx
          rcases List.mem_cons.1 hx with rfl | hx
          · exact u1
          · exact g1 x hx
        · rw [hps]
          exact ⟨List.mem_append_right _ (List.mem_flatMap.2 ⟨_, List.mem_range.2 hi, hb.1⟩), hb.2⟩
        · intro j y hy
          have hj : j < c := by rw [← hl']; exact (List.getElem?_eq_some_iff.1 hy).1
          have h3 := hget j hj
          rw [Go.Deep.add_add] at h3
          have e1 : a.add ((len0 - (q + 1)) * c + j) = ⟨a.block, a.off + (len0 - (q + 1)) * c + j, none⟩ := by
            unfold Addr.add
            split
            · rename_i h0
              obtain ⟨b, o, s⟩ := a
              simp only at hspot ⊢
              rw [hspot]; congr 1; omega
            · rw [Nat.add_assoc]
          rw [e1] at h3
          refine ⟨by rw [h3]; exact hy, ?_, by rw [h3, hy]; rfl⟩
          rw [hps]
          refine List.mem_append_left _ (MemPlace.mem_row.2 ⟨(len0 - (q + 1)) * c + j, ?_, by rw [Nat.add_assoc]⟩)
          have := Nat.mul_le_mul_right c (show len0 - (q + 1) + 1 ≤ m by omega)
          rw [Nat.succ_mul] at this
          omega
        · rw [hl']
          have e2 : a.off + (len0 - (q + 1)) * c + c = a.off + (len0 - q) * c := by
            have e3 : len0 - q = (len0 - (q + 1)) + 1 := by omega
            rw [e3, Nat.succ_mul]; omega
          rw [e2]
          exact g5
    obtain ⟨vs, cs, g1, g2, g3, g4, g5⟩ := key len0 (Nat.le_refl _)
    rw [Nat.sub_self, Nat.zero_mul, Nat.add_zero] at g5
    have ea : a = ⟨a.block, a.off, none⟩ := by obtain ⟨b, o, s⟩ := a; simp only at hspot; rw [hspot]
    refine ⟨vs, g1, .inr ⟨_, .sl c vs cs a.block a.off cap0 g4 g5 (by omega), ?_⟩⟩
    show Value.slice (some a) len0 cap0 = Value.slice (some ⟨a.block, a.off, none⟩) vs.length cap0
    rw [g2, ← ea]

theorem map_of_each {α β : Type} {f : α → β} : ∀ {l : List β}, (∀ u ∈ l, ∃ n, u = f n) → ∃ ks : List α, l = ks.map f
  | [], _ => ⟨[], rfl⟩
  | u :: l, h => by
    obtain ⟨n, rfl⟩ := h u (by simp)
    obtain ⟨ks, e⟩ := map_of_each (l := l) (fun x hx => h x (List.mem_cons_of_mem _ hx))
    exact ⟨n :: ks, by rw [e]; rfl⟩

/-- A list of bytes. -/
theorem open_bytes {t e : TypeId} (ht : P.underlying t = some (.slice e)) (he : P.underlying e = some (.int .u8)) (h1 : P.cellsOf e = 1)
    {r : Reach} {b0 : Nat} {v : Value} (hval : Value.okWide P W r b0 t v) {d : DataW H} {ps : List MemPlace} (hd : DataW.Trod enc P W base sp held t v d ps) :
    ∃ bs : List Nat, (∀ n ∈ bs, n < 256) ∧ Rel (StOf W ps) W (.sl 1 (bs.map fun n => .lit (bn n))) v := by
  obtain ⟨vs, g1, g2⟩ := open_sl ht h1 (fun u => ∃ n : {n : Nat // n < 256}, u = .lit (bn n.1)) (fun n cs x hx hl => by
    obtain ⟨a, rfl, _, wa⟩ := DataW.trod_int he hx
    simp [Lit.wf, IntKind.min, IntKind.max, IntKind.signed, IntKind.bits] at wa
    refine ⟨_, ⟨⟨a.toNat, by omega⟩, rfl⟩, ?_, fun y hy => by simp at hy; rw [hy]; rfl⟩
    have : Value.int .u8 a = bn a.toNat := by unfold bn; rw [Int.toNat_of_nonneg (by omega)]
    rw [this]
    exact .lit _ rfl) hval hd
  obtain ⟨ks, rfl⟩ := map_of_each (f := fun n : {n : Nat // n < 256} => AV.lit (bn n.1)) g1
  refine ⟨ks.map (·.1), fun n hn => ?_, by rw [List.map_map]; exact g2⟩
  obtain ⟨a, _, rfl⟩ := List.mem_map.1 hn
  exact a.2
end
theorem t5 : Go.Proofs.Tryd.prog.underlying 5 = some (.int .u8) := by kernel_rfl
theorem c5 : Go.Proofs.Tryd.prog.cellsOf 5 = 1 := by kernel_rfl
end Go.Cab

/- The row's arguments: lists of texts. -/
namespace Go.Cab
open Go.ChangeShapes Go.WideShapes Go.RowKit Go.ChangeAt

section
variable {H : Type} {enc : TypeId × Value → H} {P : Program} {W : World} {base : Nat} {sp : Nat → Bool} {held : Bool}

/-- A list of texts. -/
theorem open_texts {t e : TypeId} (ht : P.underlying t = some (.slice e)) (he : P.underlying e = some .string) (h1 : P.cellsOf e = 1)
    {r : Reach} {b0 : Nat} {v : Value} (hval : Value.okWide P W r b0 t v) {d : DataW H} {ps : List MemPlace} (hd : DataW.Trod enc P W base sp held t v d ps) :
    ∃ bs : List (List UInt8), bs.length < 9223372036854775808 ∧ (∀ s ∈ bs, s.length < 9223372036854775808) ∧ Rel (StOf W ps) W (.sl 1 (bs.map fun s => .lit (tx s))) v := by
  obtain ⟨vs, g1, g2⟩ := open_sl ht h1 (fun u => ∃ n : {n : List UInt8 // n.length < 9223372036854775808}, u = .lit (tx n.1)) (fun n cs x hx hl => by
    obtain ⟨s, hc, hy, hs⟩ := DataW.trod_string he hx
    subst hc
    refine ⟨_, ⟨⟨s.data.toList, ?_⟩, rfl⟩, .lit _ rfl, fun y hy => by simp at hy; rw [hy]; rfl⟩
    have e : s.data.toList.length = s.size := by rw [Array.length_toList]; rfl
    rw [e]
    unfold maxLen at hs
    omega) hval hd
  obtain ⟨ks, rfl⟩ := map_of_each (f := fun n : {n : List UInt8 // n.length < 9223372036854775808} => AV.lit (tx n.1)) g1
  refine ⟨ks.map (·.1), ?_, fun n hn => ?_, by rw [List.map_map]; exact g2⟩
  · rcases R.slLen g2 with ⟨_, _, h⟩ | ⟨b, off, cap, cs, hv, hl, _⟩
    · rw [List.length_map, List.map_eq_nil_iff.1 h]; simp
    · subst hv
      simp only [Value.okWide, Cell.okWide, Cell.ok, ht] at hval
      obtain ⟨h2, h3, _⟩ := hval
      rw [List.length_map] at h2 ⊢
      simp [IntKind.max, IntKind.signed, IntKind.bits] at h3
      omega
  · obtain ⟨a, _, rfl⟩ := List.mem_map.1 hn
    exact a.2
end
end Go.Cab

/- The row's arguments, by their types: numbers, texts, arrays, lists, structs. -/
namespace Go.Cab
open Go.ChangeShapes Go.WideShapes Go.RowKit Go.ChangeAt

section
variable {H : Type} {enc : TypeId × Value → H} {P : Program} {W : World} {base : Nat} {held : Bool}

/-- Whatever of this type the row lets in is such a value. -/
def Opens (enc : TypeId × Value → H) (P : Program) (W : World) (base : Nat) (held : Bool) (t : TypeId) (c : Nat) (G : AV → Prop) : Prop :=
  P.cellsOf t = c ∧ ∀ (n : Nat) (cs : List Value) (x : DataW H × List MemPlace), DataW.trod enc P W base (fun _ => true) held n t cs = some x →
    ∃ v, G v ∧ R (StOf W x.2) W v cs ∧ cs.length = c ∧ ∀ y ∈ cs, sc y = true
theorem Opens.mono {t : TypeId} {c : Nat} {G G' : AV → Prop} (h : Opens enc P W base held t c G) (k : ∀ v, G v → G' v) : Opens enc P W base held t c G' :=
  ⟨h.1, fun n cs x hx => by obtain ⟨v, h1, h2⟩ := h.2 n cs x hx; exact ⟨v, k v h1, h2⟩⟩
theorem Opens.int {t : TypeId} {k : IntKind} (ht : P.underlying t = some (.int k)) (hc : P.cellsOf t = 1) : Opens enc P W base held t 1 fun v => ∃ n : Int, (Lit.int k n).wf = true ∧ v = .lit (.int k n) :=
  ⟨hc, fun n cs x hx => by
    obtain ⟨a, rfl, _, wa⟩ := DataW.trod_int ht hx
    exact ⟨_, ⟨a, wa, rfl⟩, .lit _ rfl, rfl, fun y hy => by simp at hy; rw [hy]; rfl⟩⟩
theorem Opens.bool {t : TypeId} (ht : P.underlying t = some .bool) (hc : P.cellsOf t = 1) : Opens enc P W base held t 1 fun v => ∃ b : Bool, v = .lit (.bool b) :=
  ⟨hc, fun n cs x hx => by
    obtain ⟨a, rfl, _⟩ := DataW.trod_bool ht hx
    exact ⟨_, ⟨a, rfl⟩, .lit _ rfl, rfl, fun y hy => by simp at hy; rw [hy]; rfl⟩⟩
theorem Opens.text {t : TypeId} (ht : P.underlying t = some .string) (hc : P.cellsOf t = 1) : Opens enc P W base held t 1 fun v => ∃ s : List UInt8, s.length < 9223372036854775808 ∧ v = .lit (tx s) :=
  ⟨hc, fun n cs x hx => by
    obtain ⟨s, rfl, _, hs⟩ := DataW.trod_string ht hx
    refine ⟨_, ⟨s.data.toList, ?_, rfl⟩, .lit _ rfl, rfl, fun y hy => by simp at hy; rw [hy]; rfl⟩
    have e : s.data.toList.length = s.size := by rw [Array.length_toList]; rfl
    rw [e]
    unfold maxLen at hs
    omega⟩
theorem stOf_sub {ps qs : List MemPlace} (h : ∀ p ∈ ps, p ∈ qs) {v : AV} {cs : List Value} (k : R (StOf W ps) W v cs) : R (StOf W qs) W v cs :=
  k.mono (fun _ _ hb => ⟨h _ hb.1, hb.2⟩) (fun _ _ _ => rfl)

/-- An array. -/
theorem Opens.arr {t e : TypeId} {n c : Nat} {G : AV → Prop} (ht : P.underlying t = some (.array n e)) (hc : P.cellsOf t = n * c) (he : Opens enc P W base held e c G) :
    Opens enc P W base held t (n * c) fun v => ∃ vs : List AV, vs.length = n ∧ (∀ u ∈ vs, G u) ∧ v = .arr c vs := by
  refine ⟨hc, fun N cs x hx => ?_⟩
  obtain ⟨xs, m, _, rfl, hl, hxl, hel⟩ := DataW.trod_array ht hx
  rw [hc] at hl
  rw [he.1] at hel
  have key : ∀ q, q ≤ n → ∃ vs : List AV, vs.length = q ∧ (∀ u ∈ vs, G u) ∧ R (StOf W (xs.flatMap (·.2))) W (.arr c vs) (cs.drop ((n - q) * c)) ∧ ∀ y ∈ cs.drop ((n - q) * c), sc y = true := by
    intro q
    induction q with
    | zero => 
      intro _
      have e : cs.drop ((n - 0) * c) = [] := List.drop_eq_nil_of_le (by rw [hl]; exact Nat.le_refl _)
      rw [e]
      exact ⟨[], rfl, by simp, .arr0 c, by simp⟩
    | succ q ih =>
      intro hq
      obtain ⟨vs, g1, g2, g3, g4⟩ := ih (by omega)
      have hi : n - (q + 1) < n := by omega
      have h1 := hel _ hi
      rw [List.getElem?_eq_getElem (by omega)] at h1
      obtain ⟨u, u1, u2, u3, u4⟩ := he.2 _ _ _ h1
      have e1 : n - q = (n - (q + 1)) + 1 := by omega
      have e2 : cs.drop ((n - (q + 1)) * c) = (cs.drop ((n - (q + 1)) * c)).take c ++ cs.drop ((n - q) * c) := by
        rw [e1, Nat.succ_mul, ← List.drop_drop, List.take_append_drop]
      rw [e2]
      refine ⟨u :: vs, by simp [g1], fun y hy => ?_, .arr1 c u vs _ _ (stOf_sub (fun p hp => List.mem_flatMap.2 ⟨_, List.getElem_mem _, hp⟩) u2) u3 u4 g3, fun y hy => ?_⟩
      · rcases List.mem_cons.1 hy with rfl | hy
        · exact u1
        · exact g2 y hy
      · rcases List.mem_append.1 hy with hy | hy
        · exact u4 y hy
        · exact g4 y hy
  obtain ⟨vs, g1, g2, g3, g4⟩ := key n (Nat.le_refl _)
  rw [Nat.sub_self, Nat.zero_mul, List.drop_zero] at g3 g4
  exact ⟨_, ⟨vs, g1, g2, rfl⟩, g3, hl, g4⟩

/-- A list. -/
theorem Opens.list {t e : TypeId} {c : Nat} {G : AV → Prop} (ht : P.underlying t = some (.slice e)) (hc : P.cellsOf t = 1) (h0 : 0 < c) (he : Opens enc P W base held e c G) :
    Opens enc P W base held t 1 fun v => ∃ vs : List AV, vs.length < 9223372036854775808 ∧ (∀ u ∈ vs, G u) ∧ v = .sl c vs := by
  refine ⟨hc, fun N cs x hx => ?_⟩
  rcases Go.Deep.open_slice ht hx with ⟨rfl, rfl⟩ | ⟨a, len, cap, m, n, D, Pl, rfl, _, hle, hcm, hm, rfl, hall⟩
  · exact ⟨_, ⟨[], by simp, by simp, rfl⟩, .slnil c, rfl, fun y hy => by simp at hy; rw [hy]; rfl⟩
  · simp only [if_true] at hm
    subst hm
    by_cases hcap : m = 0
    · subst hcap
      have : len = 0 := by omega
      subst this
      exact ⟨_, ⟨[], by simp, by simp, rfl⟩, .slnil c (some a), rfl, fun y hy => by simp at hy; rw [hy]; rfl⟩
    have hspot : a.spot = none := by
      obtain ⟨cs', k1, _⟩ := hall 0 (by omega)
      obtain ⟨_, hl', hget⟩ := World.cells?_some k1
      rw [he.1] at hl' hget
      have h1 := hget 0 h0
      rw [List.getElem?_eq_getElem (by omega)] at h1
      unfold World.cell? at h1
      split at h1
      · split at h1
        · cases h1
        · rename_i hs
          rw [Go.Deep.add_add, Nat.zero_mul] at hs
          unfold Addr.add at hs
          simpa using hs
      · cases h1
    rw [he.1] at hall
    have key : ∀ q, q ≤ len → ∃ (vs : List AV) (cs : List Value), (∀ u ∈ vs, G u) ∧ vs.length = q ∧ cs.length = q * c ∧ R (StOf W (MemPlace.row a (m * c) ++ (List.range m).flatMap Pl)) W (.arr c vs) cs ∧ At (StOf W (MemPlace.row a (m * c) ++ (List.range m).flatMap Pl)) W a.block (a.off + (len - q) * c) cs := by
      intro q
      induction q with
      | zero => exact fun _ => ⟨[], [], by simp, rfl, by simp, .arr0 c, fun i v hv => by simp at hv⟩
      | succ q ih =>
        intro hq
        obtain ⟨vs, cs, g1, g2, g3, g4, g5⟩ := ih (by omega)
        have hi : len - (q + 1) < m := by omega
        obtain ⟨cs', k1, k2⟩ := hall (len - (q + 1)) hi
        obtain ⟨_, hl', hget⟩ := World.cells?_some k1
        obtain ⟨u, u1, u2, _, u3⟩ := he.2 n cs' _ k2
        refine ⟨u :: vs, cs' ++ cs, ?_, by simp [g2], by rw [List.length_append, hl', g3, Nat.succ_mul]; omega, .arr1 c u vs cs' cs (stOf_sub (fun p hp => List.mem_append_right _ (List.mem_flatMap.2 ⟨_, List.mem_range.2 hi, hp⟩)) u2) hl' u3 g4, At.app ?_ ?_⟩
        · intro x hx
          rcases List.mem_cons.1 hx with rfl | hx
          · exact u1
          · exact g1 x hx
        · intro j y hy
          have hj : j < c := by rw [← hl']; exact (List.getElem?_eq_some_iff.1 hy).1
          have h3 := hget j hj
          rw [Go.Deep.add_add] at h3
          have e1 : a.add ((len - (q + 1)) * c + j) = ⟨a.block, a.off + (len - (q + 1)) * c + j, none⟩ := by
            unfold Addr.add
            split
            · rename_i h0
              obtain ⟨b, o, s⟩ := a
              simp only at hspot ⊢
              rw [hspot]; congr 1; omega
            · rw [Nat.add_assoc]
          rw [e1] at h3
          refine ⟨by rw [h3]; exact hy, ?_, by rw [h3, hy]; rfl⟩
          refine List.mem_append_left _ (MemPlace.mem_row.2 ⟨(len - (q + 1)) * c + j, ?_, by rw [Nat.add_assoc]⟩)
          have := Nat.mul_le_mul_right c (show len - (q + 1) + 1 ≤ m by omega)
          rw [Nat.succ_mul] at this
          omega
        · rw [hl']
          have e2 : a.off + (len - (q + 1)) * c + c = a.off + (len - q) * c := by
            have e3 : len - q = (len - (q + 1)) + 1 := by omega
            rw [e3, Nat.succ_mul]; omega
          rw [e2]
          exact g5
    obtain ⟨vs, cs, g1, g2, g3, g4, g5⟩ := key len (Nat.le_refl _)
    rw [Nat.sub_self, Nat.zero_mul, Nat.add_zero] at g5
    have ea : a = ⟨a.block, a.off, none⟩ := by obtain ⟨b, o, s⟩ := a; simp only at hspot; rw [hspot]
    refine ⟨_, ⟨vs, by unfold maxLen at hcm; omega, g1, rfl⟩, ?_, rfl, fun y hy => by simp at hy; rw [hy]; rfl⟩
    have := R.sl (Imm := StOf W (MemPlace.row a (m * c) ++ (List.range m).flatMap Pl)) (w := W) c vs cs a.block a.off m g4 g5 (by omega)
    rw [g2, ← ea] at this
    rw [he.1]
    exact this

/-- A struct's fields. -/
def FieldsOk (enc : TypeId × Value → H) (P : Program) (W : World) (base : Nat) (held : Bool) : List Field → Nat → List (Nat × (AV → Prop)) → Prop
  | [], _, [] => True
  | f :: fs, o, l :: ls => f.offset = o ∧ Opens enc P W base held f.type l.1 l.2 ∧ FieldsOk enc P W base held fs (o + l.1) ls
  | _, _, _ => False
def FG : List (Nat × (AV → Prop)) → List AV → Prop
  | [], [] => True
  | l :: ls, v :: vs => l.2 v ∧ FG ls vs
  | _, _ => False
theorem fields_open {n : Nat} {cs : List Value} : ∀ (fs : List Field) (o : Nat) (ls : List (Nat × (AV → Prop))) (xs : List (DataW H × List MemPlace)), FieldsOk enc P W base held fs o ls → xs.length = fs.length →
    (∀ (i : Nat) (f : Field), fs[i]? = some f → DataW.trod enc P W base (fun _ => true) held n f.type ((cs.drop f.offset).take (P.cellsOf f.type)) = xs[i]?) →
    ∃ vs, FG ls vs ∧ R (StOf W (xs.flatMap (·.2))) W (.st (ls.map (·.1)) vs) ((cs.drop o).take (ls.map (·.1)).sum) ∧ ∀ y ∈ (cs.drop o).take (ls.map (·.1)).sum, sc y = true
  | [], o, [], xs, _, _, _ => ⟨[], trivial, by simpa using R.st0, by simp⟩
  | [], _, _ :: _, _, h, _, _ => h.elim
  | _ :: _, _, [], _, h, _, _ => h.elim
  | f :: fs, o, l :: ls, [], _, h, _ => by simp at h
  | f :: fs, o, l :: ls, x :: xs, ⟨h1, h2, h3⟩, hl, hx => by
    obtain ⟨vs, g1, g2, g3⟩ := fields_open fs (o + l.1) ls xs h3 (by simpa using hl) (fun i f' hf => hx (i + 1) f' hf)
    have h4 := hx 0 f rfl
    rw [h1, h2.1] at h4
    obtain ⟨v, u1, u2, u3, u4⟩ := h2.2 _ _ _ h4
    have e : (cs.drop o).take ((l :: ls).map (·.1)).sum = (cs.drop o).take l.1 ++ (cs.drop (o + l.1)).take (ls.map (·.1)).sum := by
      rw [List.map_cons, List.sum_cons, List.take_add, List.drop_drop]
    rw [e]
    refine ⟨v :: vs, ⟨u1, g1⟩, .st1 l.1 _ v vs _ _ (stOf_sub (fun p hp => List.mem_append_left _ hp) u2) u3 u4 (stOf_sub (fun p hp => List.mem_append_right _ hp) g2), fun y hy => ?_⟩
    rcases List.mem_append.1 hy with hy | hy
    · exact u4 y hy
    · exact g3 y hy
theorem Opens.struct {t : TypeId} {fs : Array Field} {c : Nat} {ls : List (Nat × (AV → Prop))} (ht : P.underlying t = some (.struct fs)) (hc : P.cellsOf t = c) (hs : (ls.map (·.1)).sum = c) (hF : FieldsOk enc P W base held fs.toList 0 ls) :
    Opens enc P W base held t c fun v => ∃ vs, FG ls vs ∧ v = .st (ls.map (·.1)) vs := by
  refine ⟨hc, fun N cs x hx => ?_⟩
  obtain ⟨xs, n, _, rfl, hl, hxl, hel⟩ := DataW.trod_struct ht hx
  obtain ⟨vs, g1, g2, g3⟩ := fields_open (n := n) (cs := cs) fs.toList 0 ls xs hF (by simpa using hxl) (fun i f hf => hel i f (by simpa using hf))
  have e : (cs.drop 0).take (ls.map (·.1)).sum = cs := by rw [List.drop_zero, hs, List.take_of_length_le (by omega)]
  rw [e] at g2 g3
  exact ⟨_, ⟨vs, g1, rfl⟩, g2, by omega, g3⟩

/-! ### An argument -/
theorem Opens.agg {t : TypeId} {c : Nat} {G : AV → Prop} (h : Opens enc P W base held t c G) (hG : ∀ v, G v → v.isAgg = true) {r : Reach} {b0 : Nat} {v : Value} (hval : Value.okWide P W r b0 t v)
    (hu : (∃ fs, P.underlying t = some (.struct fs)) ∨ ∃ n e, P.underlying t = some (.array n e)) {d : DataW H} {ps : List MemPlace} (hd : DataW.Trod enc P W base (fun _ => true) held t v d ps) :
    ∃ u, G u ∧ Rel (StOf W ps) W u v := by
  obtain ⟨fuel, hf⟩ := hd
  obtain ⟨u, h1, h2, _⟩ := h.2 _ _ _ hf
  obtain ⟨cs, rfl⟩ : ∃ cs, v = .agg cs := by
    unfold Value.okWide at hval
    rcases hu with ⟨fs, hu⟩ | ⟨n, e, hu⟩ <;> rw [hu] at hval <;> obtain ⟨cs, rfl, _⟩ := hval <;> exact ⟨cs, rfl⟩
  refine ⟨u, h1, .inr ⟨_, h2, ?_⟩⟩
  have hg := hG u h1
  cases u <;> simp [AV.isAgg] at hg <;> rfl
theorem Opens.slice {t e : TypeId} {c : Nat} {G : AV → Prop} (h : Opens enc P W base held t 1 fun v => ∃ vs : List AV, vs.length < 9223372036854775808 ∧ (∀ u ∈ vs, G u) ∧ v = .sl c vs) (ht : P.underlying t = some (.slice e)) {r : Reach} {b0 : Nat} {v : Value} (hval : Value.okWide P W r b0 t v)
    {d : DataW H} {ps : List MemPlace} (hd : DataW.Trod enc P W base (fun _ => true) held t v d ps) :
    ∃ vs : List AV, vs.length < 9223372036854775808 ∧ (∀ u ∈ vs, G u) ∧ Rel (StOf W ps) W (.sl c vs) v := by
  obtain ⟨fuel, hf⟩ := hd
  obtain ⟨_, ⟨vs, h0, h1, rfl⟩, h2, _⟩ := h.2 _ _ _ hf
  have hv : (∃ a len cap, v = .slice a len cap) := by
    cases v <;> simp [Value.okWide, Cell.okWide, Cell.ok, ht] at hval ⊢
  obtain ⟨a0, len0, cap0, rfl⟩ := hv
  exact ⟨vs, h0, h1, .inr ⟨_, h2, rfl⟩⟩
end
section
variable {H : Type} {enc : TypeId × Value → H} {P : Program} {W : World}
theorem trodAll_five {t0 t1 t2 t3 t4 : TypeId} {args : Array Value} {ds : List (DataW H)} {ps : List MemPlace} {base : Nat} {spare : Nat → Bool} {held : Bool} (h : DataW.TrodAll enc P W base spare held [t0, t1, t2, t3, t4] args.toList ds ps) :
    ∃ v0 v1 v2 v3 v4 d0 d1 d2 d3 d4 p0 p1 p2 p3 p4, args = #[v0, v1, v2, v3, v4] ∧ ds = [d0, d1, d2, d3, d4] ∧ ps = p0 ++ p1 ++ p2 ++ p3 ++ p4 ∧ DataW.Trod enc P W base spare held t0 v0 d0 p0 ∧ DataW.Trod enc P W base spare held t1 v1 d1 p1 ∧ DataW.Trod enc P W base spare held t2 v2 d2 p2 ∧ DataW.Trod enc P W base spare held t3 v3 d3 p3 ∧ DataW.Trod enc P W base spare held t4 v4 d4 p4 := by
  obtain ⟨v0, vs0, d0, ds0, p0, q0, hargs, rfl, rfl, hd0, hr0⟩ := trodAll_cons h
  obtain ⟨v1, vs1, d1, ds1, p1, q1, rfl, rfl, rfl, hd1, hr1⟩ := trodAll_cons hr0
  obtain ⟨v2, vs2, d2, ds2, p2, q2, rfl, rfl, rfl, hd2, hr2⟩ := trodAll_cons hr1
  obtain ⟨v3, vs3, d3, ds3, p3, q3, rfl, rfl, rfl, hd3, hr3⟩ := trodAll_cons hr2
  obtain ⟨v4, vs4, d4, ds4, p4, q4, rfl, rfl, rfl, hd4, hr4⟩ := trodAll_cons hr3
  obtain ⟨rfl, rfl, rfl⟩ := trodAll_nil hr4
  exact ⟨v0, v1, v2, v3, v4, d0, d1, d2, d3, d4, p0, p1, p2, p3, p4, by cases args; simp_all, rfl, by simp, hd0, hd1, hd2, hd3, hd4⟩
theorem trodAll_mk5 {t0 t1 t2 t3 t4 : TypeId} {v0 v1 v2 v3 v4 : Value} {d0 d1 d2 d3 d4 : DataW H} {p0 p1 p2 p3 p4 : List MemPlace} {base : Nat} {spare : Nat → Bool} {held : Bool} (h0 : DataW.Trod enc P W base spare held t0 v0 d0 p0) (h1 : DataW.Trod enc P W base spare held t1 v1 d1 p1) (h2 : DataW.Trod enc P W base spare held t2 v2 d2 p2) (h3 : DataW.Trod enc P W base spare held t3 v3 d3 p3) (h4 : DataW.Trod enc P W base spare held t4 v4 d4 p4) : DataW.TrodAll enc P W base spare held [t0, t1, t2, t3, t4] [v0, v1, v2, v3, v4] [d0, d1, d2, d3, d4] (p0 ++ (p1 ++ (p2 ++ (p3 ++ (p4))))) := trodAll_cons_mk h0 (trodAll_mk4 h1 h2 h3 h4)
theorem trodAll_six {t0 t1 t2 t3 t4 t5 : TypeId} {args : Array Value} {ds : List (DataW H)} {ps : List MemPlace} {base : Nat} {spare : Nat → Bool} {held : Bool} (h : DataW.TrodAll enc P W base spare held [t0, t1, t2, t3, t4, t5] args.toList ds ps) :
    ∃ v0 v1 v2 v3 v4 v5 d0 d1 d2 d3 d4 d5 p0 p1 p2 p3 p4 p5, args = #[v0, v1, v2, v3, v4, v5] ∧ ds = [d0, d1, d2, d3, d4, d5] ∧ ps = p0 ++ p1 ++ p2 ++ p3 ++ p4 ++ p5 ∧ DataW.Trod enc P W base spare held t0 v0 d0 p0 ∧ DataW.Trod enc P W base spare held t1 v1 d1 p1 ∧ DataW.Trod enc P W base spare held t2 v2 d2 p2 ∧ DataW.Trod enc P W base spare held t3 v3 d3 p3 ∧ DataW.Trod enc P W base spare held t4 v4 d4 p4 ∧ DataW.Trod enc P W base spare held t5 v5 d5 p5 := by
  obtain ⟨v0, vs0, d0, ds0, p0, q0, hargs, rfl, rfl, hd0, hr0⟩ := trodAll_cons h
  obtain ⟨v1, vs1, d1, ds1, p1, q1, rfl, rfl, rfl, hd1, hr1⟩ := trodAll_cons hr0
  obtain ⟨v2, vs2, d2, ds2, p2, q2, rfl, rfl, rfl, hd2, hr2⟩ := trodAll_cons hr1
  obtain ⟨v3, vs3, d3, ds3, p3, q3, rfl, rfl, rfl, hd3, hr3⟩ := trodAll_cons hr2
  obtain ⟨v4, vs4, d4, ds4, p4, q4, rfl, rfl, rfl, hd4, hr4⟩ := trodAll_cons hr3
  obtain ⟨v5, vs5, d5, ds5, p5, q5, rfl, rfl, rfl, hd5, hr5⟩ := trodAll_cons hr4
  obtain ⟨rfl, rfl, rfl⟩ := trodAll_nil hr5
  exact ⟨v0, v1, v2, v3, v4, v5, d0, d1, d2, d3, d4, d5, p0, p1, p2, p3, p4, p5, by cases args; simp_all, rfl, by simp, hd0, hd1, hd2, hd3, hd4, hd5⟩
theorem trodAll_mk6 {t0 t1 t2 t3 t4 t5 : TypeId} {v0 v1 v2 v3 v4 v5 : Value} {d0 d1 d2 d3 d4 d5 : DataW H} {p0 p1 p2 p3 p4 p5 : List MemPlace} {base : Nat} {spare : Nat → Bool} {held : Bool} (h0 : DataW.Trod enc P W base spare held t0 v0 d0 p0) (h1 : DataW.Trod enc P W base spare held t1 v1 d1 p1) (h2 : DataW.Trod enc P W base spare held t2 v2 d2 p2) (h3 : DataW.Trod enc P W base spare held t3 v3 d3 p3) (h4 : DataW.Trod enc P W base spare held t4 v4 d4 p4) (h5 : DataW.Trod enc P W base spare held t5 v5 d5 p5) : DataW.TrodAll enc P W base spare held [t0, t1, t2, t3, t4, t5] [v0, v1, v2, v3, v4, v5] [d0, d1, d2, d3, d4, d5] (p0 ++ (p1 ++ (p2 ++ (p3 ++ (p4 ++ (p5)))))) := trodAll_cons_mk h0 (trodAll_mk5 h1 h2 h3 h4 h5)
end
end Go.Cab

/- The row's arguments: keys, what somebody knows, operations. -/
-- TEXTS
-- KIT
namespace Go.Cab
open Go.ChangeShapes Go.WideShapes Go.RowKit Go.ChangeAt

def I64 (n : Int) : Prop := -9223372036854775808 ≤ n ∧ n < 9223372036854775808
/-- Each of a list of such values. -/
theorem map_of_G {α : Type} {p : α → Prop} {f : α → AV} : ∀ {vs : List AV}, (∀ u ∈ vs, ∃ a, p a ∧ u = f a) → ∃ l : List α, (∀ a ∈ l, p a) ∧ l.length = vs.length ∧ vs = l.map f
  | [], _ => ⟨[], by simp, rfl, rfl⟩
  | u :: vs, h => by
    obtain ⟨a, ha, rfl⟩ := h u (by simp)
    obtain ⟨l, h1, h2, h3⟩ := map_of_G (vs := vs) (fun x hx => h x (List.mem_cons_of_mem _ hx))
    refine ⟨a :: l, fun x hx => ?_, by simp [h2], by rw [h3]; rfl⟩
    rcases List.mem_cons.1 hx with rfl | hx
    · exact ha
    · exact h1 x hx
theorem FG.cons {l : Nat × (AV → Prop)} {ls : List (Nat × (AV → Prop))} {vs : List AV} (h : FG (l :: ls) vs) : ∃ v vs', vs = v :: vs' ∧ l.2 v ∧ FG ls vs' := by
  cases vs with
  | nil => exact h.elim
  | cons v vs => exact ⟨v, vs, rfl, h.1, h.2⟩
theorem FG.nil {vs : List AV} (h : FG [] vs) : vs = [] := by
  cases vs with
  | nil => rfl
  | cons v vs => exact h.elim
structure RatW (r : Rat) : Prop where
  key : r.key.length = 32
  chain : r.chain.length = 32
structure WaitW (w : WaitV) : Prop where
  of_ : w.of_.length = 32
  key : w.key.length = 32
/-- What every operation that the row lets in is. -/
structure OpRaw (o : OpV) : Prop where
  seq : o.seq < 4294967296
  parents : o.parents.length < 9223372036854775808
  p32 : ∀ k ∈ o.parents, k.length = 32
  who : o.who.length < 9223372036854775808
  ofk : o.ofk.length = 32
  check : o.check.length = 32
  text : o.text.length < 9223372036854775808
  boxes : o.boxes.length < 9223372036854775808
  bok : ∀ b ∈ o.boxes, BoxOk b ∧ b.body.length < 9223372036854775808

/-- The types. -/
structure Ty (P : Program) : Prop where
  u5 : P.underlying 5 = some (.int .u8)
  c5 : P.cellsOf 5 = 1
  u3 : P.underlying 3 = some (.int .i64)
  c3 : P.cellsOf 3 = 1
  u4 : P.underlying 4 = some .bool
  c4 : P.cellsOf 4 = 1
  u9 : P.underlying 9 = some .string
  c9 : P.cellsOf 9 = 1
  u30 : P.underlying 30 = some (.int .u32)
  c30 : P.cellsOf 30 = 1
  u23 : P.underlying 23 = some (.array 32 5)
  c23 : P.cellsOf 23 = 32
  u25 : P.underlying 25 = some (.struct #[⟨"Known", 4, 0, false, "", "", 0⟩, ⟨"Lost", 4, 1, false, "", "", 1⟩, ⟨"Key", 23, 2, false, "", "", 2⟩, ⟨"Chain", 23, 34, false, "", "", 34⟩])
  c25 : P.cellsOf 25 = 66
  u83 : P.underlying 83 = some (.struct #[⟨"Of", 23, 0, false, "", "", 0⟩, ⟨"Who", 3, 32, false, "", "", 32⟩, ⟨"Key", 23, 33, false, "", "", 40⟩])
  c83 : P.cellsOf 83 = 65
  u26 : P.underlying 26 = some (.array 8 25)
  c26 : P.cellsOf 26 = 528
  u27 : P.underlying 27 = some (.slice 83)
  c27 : P.cellsOf 27 = 1
  u29 : P.underlying 29 = some (.struct #[⟨"Ratchets", 26, 0, false, "", "", 0⟩, ⟨"Waits", 27, 528, false, "", "", 528⟩])
  c29 : P.cellsOf 29 = 529
  u55 : P.underlying 55 = some (.struct #[⟨"Pub", 23, 0, false, "", "", 0⟩, ⟨"N", 30, 32, false, "", "", 32⟩, ⟨"Prev", 30, 33, false, "", "", 36⟩])
  c55 : P.cellsOf 55 = 34
  u57 : P.underlying 57 = some (.struct #[⟨"To", 3, 0, false, "", "", 0⟩, ⟨"Head", 55, 1, false, "", "", 8⟩, ⟨"Body", 9, 35, false, "", "", 48⟩])
  c57 : P.cellsOf 57 = 36
  u31 : P.underlying 31 = some (.slice 23)
  c31 : P.cellsOf 31 = 1
  u32 : P.underlying 32 = some (.slice 3)
  c32 : P.cellsOf 32 = 1
  u33 : P.underlying 33 = some (.slice 57)
  c33 : P.cellsOf 33 = 1
  u35 : P.underlying 35 = some (.struct #[⟨"Author", 3, 0, false, "", "", 0⟩, ⟨"Seq", 30, 1, false, "", "", 8⟩, ⟨"Parents", 31, 2, false, "", "", 16⟩, ⟨"Kind", 3, 3, false, "", "", 40⟩, ⟨"Who", 32, 4, false, "", "", 48⟩, ⟨"Of", 23, 5, false, "", "", 72⟩, ⟨"Check", 23, 37, false, "", "", 104⟩, ⟨"Text", 9, 69, false, "", "", 136⟩, ⟨"Boxes", 33, 70, false, "", "", 152⟩])
  c35 : P.cellsOf 35 = 71

section
variable {H : Type} {enc : TypeId × Value → H} {P : Program} {W : World} {base : Nat} {held : Bool}
theorem kp_u8 (T : Ty P) : Opens enc P W base held 5 1 fun v => ∃ b : UInt8, v = .lit (bn b.toNat) :=
  (Opens.int T.u5 T.c5).mono fun v h => by
    obtain ⟨n, hn, e⟩ := h
    simp [Lit.wf, IntKind.min, IntKind.max, IntKind.signed, IntKind.bits] at hn
    refine ⟨UInt8.ofNat n.toNat, ?_⟩
    subst e
    have : (UInt8.ofNat n.toNat).toNat = n.toNat := by rw [UInt8.toNat_ofNat']; omega
    rw [this]
    unfold bn
    rw [Int.toNat_of_nonneg (by omega)]
theorem kp_int (T : Ty P) : Opens enc P W base held 3 1 fun v => ∃ n : Int, I64 n ∧ v = .lit (ji n) :=
  (Opens.int T.u3 T.c3).mono fun v h => by
    obtain ⟨n, hn, e⟩ := h
    simp [Lit.wf, IntKind.min, IntKind.max, IntKind.signed, IntKind.bits] at hn
    exact ⟨n, by unfold I64; omega, e⟩
theorem kp_u32 (T : Ty P) : Opens enc P W base held 30 1 fun v => ∃ n : Nat, n < 4294967296 ∧ v = .lit (wn n) :=
  (Opens.int T.u30 T.c30).mono fun v h => by
    obtain ⟨n, hn, e⟩ := h
    simp [Lit.wf, IntKind.min, IntKind.max, IntKind.signed, IntKind.bits] at hn
    refine ⟨n.toNat, by omega, ?_⟩
    rw [e]
    unfold wn
    rw [Int.toNat_of_nonneg (by omega)]
theorem kp_bool (T : Ty P) : Opens enc P W base held 4 1 fun v => ∃ b : Bool, v = .lit (.bool b) := Opens.bool T.u4 T.c4
theorem kp_text (T : Ty P) : Opens enc P W base held 9 1 fun v => ∃ s : List UInt8, s.length < 9223372036854775808 ∧ v = .lit (tx s) := Opens.text T.u9 T.c9
theorem kp_key (T : Ty P) : Opens enc P W base held 23 32 fun v => ∃ k : List UInt8, k.length = 32 ∧ v = keyA k :=
  (Opens.arr (n := 32) (c := 1) T.u23 T.c23 (kp_u8 T)).mono fun v h => by
    obtain ⟨vs, h1, h2, e⟩ := h
    obtain ⟨l, _, g2, g3⟩ := map_of_G (p := fun _ => True) (f := fun b : UInt8 => AV.lit (bn b.toNat)) fun u hu => by obtain ⟨b, e⟩ := h2 u hu; exact ⟨b, trivial, e⟩
    exact ⟨l, by omega, by rw [e, g3]; rfl⟩
theorem kp_rat (T : Ty P) : Opens enc P W base held 25 66 fun v => ∃ r : Rat, RatW r ∧ v = ratA r :=
  (Opens.struct (ls := [(1, _), (1, _), (32, _), (32, _)]) T.u25 T.c25 rfl ⟨rfl, kp_bool T, rfl, kp_bool T, rfl, kp_key T, rfl, kp_key T, trivial⟩).mono fun v h => by
    obtain ⟨vs, h, e⟩ := h
    obtain ⟨_, vs, rfl, ⟨b, e1⟩, h⟩ := h.cons
    obtain ⟨_, vs, rfl, ⟨c, e2⟩, h⟩ := h.cons
    obtain ⟨_, vs, rfl, ⟨k, hk, e3⟩, h⟩ := h.cons
    obtain ⟨_, vs, rfl, ⟨l, hl, e4⟩, h⟩ := h.cons
    obtain rfl := h.nil
    subst e1 e2 e3 e4
    exact ⟨⟨b, c, k, l⟩, ⟨hk, hl⟩, e⟩
theorem kp_wait (T : Ty P) : Opens enc P W base held 83 65 fun v => ∃ x : WaitV, WaitW x ∧ v = waitA x :=
  (Opens.struct (ls := [(32, _), (1, _), (32, _)]) T.u83 T.c83 rfl ⟨rfl, kp_key T, rfl, kp_int T, rfl, kp_key T, trivial⟩).mono fun v h => by
    obtain ⟨vs, h, e⟩ := h
    obtain ⟨_, vs, rfl, ⟨k, hk, e1⟩, h⟩ := h.cons
    obtain ⟨_, vs, rfl, ⟨n, _, e2⟩, h⟩ := h.cons
    obtain ⟨_, vs, rfl, ⟨l, hl, e3⟩, h⟩ := h.cons
    obtain rfl := h.nil
    subst e1 e2 e3
    exact ⟨⟨k, n, l⟩, ⟨hk, hl⟩, e⟩
theorem kp_rats (T : Ty P) : Opens enc P W base held 26 528 fun v => ∃ vs : List AV, vs.length = 8 ∧ (∀ u ∈ vs, ∃ r : Rat, RatW r ∧ u = ratA r) ∧ v = .arr 66 vs := Opens.arr (n := 8) (c := 66) T.u26 T.c26 (kp_rat T)
theorem kp_waits (T : Ty P) : Opens enc P W base held 27 1 fun v => ∃ vs : List AV, vs.length < 9223372036854775808 ∧ (∀ u ∈ vs, ∃ x : WaitV, WaitW x ∧ u = waitA x) ∧ v = .sl 65 vs := Opens.list (c := 65) T.u27 T.c27 (by decide) (kp_wait T)
theorem kp_keys (T : Ty P) : Opens enc P W base held 29 529 fun v => ∃ (rs : List Rat) (ws : List WaitV), (rs.length = 8 ∧ (∀ r ∈ rs, RatW r) ∧ ws.length < 9223372036854775808 ∧ ∀ x ∈ ws, WaitW x) ∧ v = keysA rs (ws.map waitA) :=
  (Opens.struct (ls := [(528, _), (1, _)]) T.u29 T.c29 rfl ⟨rfl, kp_rats T, rfl, kp_waits T, trivial⟩).mono fun v h => by
    obtain ⟨vs, h, e⟩ := h
    obtain ⟨_, vs, rfl, ⟨rv, r1, r2, e1⟩, h⟩ := h.cons
    obtain ⟨_, vs, rfl, ⟨wv, w0, w1, e2⟩, h⟩ := h.cons
    obtain rfl := h.nil
    subst e1 e2
    obtain ⟨rs, g1, g2, rfl⟩ := map_of_G r2
    obtain ⟨ws, k1, k2, rfl⟩ := map_of_G w1
    exact ⟨rs, ws, ⟨by omega, g1, by omega, k1⟩, e⟩
theorem kp_head (T : Ty P) : Opens enc P W base held 55 34 fun v => ∃ (p : List UInt8) (n m : Nat), (p.length = 32 ∧ n < 4294967296 ∧ m < 4294967296) ∧ v = .st [32, 1, 1] [keyA p, .lit (wn n), .lit (wn m)] :=
  (Opens.struct (ls := [(32, _), (1, _), (1, _)]) T.u55 T.c55 rfl ⟨rfl, kp_key T, rfl, kp_u32 T, rfl, kp_u32 T, trivial⟩).mono fun v h => by
    obtain ⟨vs, h, e⟩ := h
    obtain ⟨_, vs, rfl, ⟨k, hk, e1⟩, h⟩ := h.cons
    obtain ⟨_, vs, rfl, ⟨n, hn, e2⟩, h⟩ := h.cons
    obtain ⟨_, vs, rfl, ⟨m, hm, e3⟩, h⟩ := h.cons
    obtain rfl := h.nil
    subst e1 e2 e3
    exact ⟨k, n, m, ⟨hk, hn, hm⟩, e⟩
theorem kp_box (T : Ty P) : Opens enc P W base held 57 36 fun v => ∃ b : BoxV, (BoxOk b ∧ b.body.length < 9223372036854775808) ∧ v = boxA b :=
  (Opens.struct (ls := [(1, _), (34, _), (1, _)]) T.u57 T.c57 rfl ⟨rfl, kp_int T, rfl, kp_head T, rfl, kp_text T, trivial⟩).mono fun v h => by
    obtain ⟨vs, h, e⟩ := h
    obtain ⟨_, vs, rfl, ⟨t, _, e1⟩, h⟩ := h.cons
    obtain ⟨_, vs, rfl, ⟨p, n, m, ⟨hp, hn, hm⟩, e2⟩, h⟩ := h.cons
    obtain ⟨_, vs, rfl, ⟨s, hs, e3⟩, h⟩ := h.cons
    obtain rfl := h.nil
    subst e1 e2 e3
    exact ⟨⟨t, p, n, m, s⟩, ⟨⟨hp, hn, hm⟩, hs⟩, e⟩
theorem kp_klist (T : Ty P) : Opens enc P W base held 31 1 fun v => ∃ vs : List AV, vs.length < 9223372036854775808 ∧ (∀ u ∈ vs, ∃ k : List UInt8, k.length = 32 ∧ u = keyA k) ∧ v = .sl 32 vs := Opens.list (c := 32) T.u31 T.c31 (by decide) (kp_key T)
theorem kp_ilist (T : Ty P) : Opens enc P W base held 32 1 fun v => ∃ vs : List AV, vs.length < 9223372036854775808 ∧ (∀ u ∈ vs, ∃ n : Int, I64 n ∧ u = .lit (ji n)) ∧ v = .sl 1 vs := Opens.list (c := 1) T.u32 T.c32 (by decide) (kp_int T)
theorem kp_blist (T : Ty P) : Opens enc P W base held 33 1 fun v => ∃ vs : List AV, vs.length < 9223372036854775808 ∧ (∀ u ∈ vs, ∃ b : BoxV, (BoxOk b ∧ b.body.length < 9223372036854775808) ∧ u = boxA b) ∧ v = .sl 36 vs := Opens.list (c := 36) T.u33 T.c33 (by decide) (kp_box T)
theorem kp_op (T : Ty P) : Opens enc P W base held 35 71 fun v => ∃ o : OpV, OpRaw o ∧ v = opA o :=
  (Opens.struct (ls := [(1, _), (1, _), (1, _), (1, _), (1, _), (32, _), (32, _), (1, _), (1, _)]) T.u35 T.c35 rfl
    ⟨rfl, kp_int T, rfl, kp_u32 T, rfl, kp_klist T, rfl, kp_int T, rfl, kp_ilist T, rfl, kp_key T, rfl, kp_key T, rfl, kp_text T, rfl, kp_blist T, trivial⟩).mono fun v h => by
    obtain ⟨vs, h, e⟩ := h
    obtain ⟨_, vs, rfl, ⟨a, _, e1⟩, h⟩ := h.cons
    obtain ⟨_, vs, rfl, ⟨s, hs, e2⟩, h⟩ := h.cons
    obtain ⟨_, vs, rfl, ⟨pv, p0, p1, e3⟩, h⟩ := h.cons
    obtain ⟨_, vs, rfl, ⟨k, _, e4⟩, h⟩ := h.cons
    obtain ⟨_, vs, rfl, ⟨wv, w0, w1, e5⟩, h⟩ := h.cons
    obtain ⟨_, vs, rfl, ⟨of_, ho, e6⟩, h⟩ := h.cons
    obtain ⟨_, vs, rfl, ⟨ck, hc, e7⟩, h⟩ := h.cons
    obtain ⟨_, vs, rfl, ⟨tx', ht, e8⟩, h⟩ := h.cons
    obtain ⟨_, vs, rfl, ⟨bv, b0, b1, e9⟩, h⟩ := h.cons
    obtain rfl := h.nil
    subst e1 e2 e3 e4 e5 e6 e7 e8 e9
    obtain ⟨ps, g1, g2, rfl⟩ := map_of_G p1
    obtain ⟨ws, k1, k2, rfl⟩ := map_of_G w1
    obtain ⟨bs, l1, l2, rfl⟩ := map_of_G b1
    exact ⟨⟨a, s, ps, k, ws, of_, ck, tx', bs⟩, ⟨hs, by simpa using p0, g1, by simpa using w0, ho, hc, ht, by simpa using b0, l1⟩, e⟩

/-! ### The arguments -/
variable {r : Reach} {b0 : Nat} {v : Value} {d : DataW H} {ps : List MemPlace}
theorem op_arg (T : Ty P) (hval : Value.okWide P W r b0 35 v) (hd : DataW.Trod enc P W base (fun _ => true) held 35 v d ps) : ∃ o : OpV, OpRaw o ∧ Rel (StOf W ps) W (opA o) v := by
  obtain ⟨u, ⟨o, h, rfl⟩, hr⟩ := (kp_op T).agg (fun u ⟨o, _, e⟩ => by rw [e]; rfl) hval (.inl ⟨_, T.u35⟩) hd
  exact ⟨o, h, hr⟩
theorem keys_arg (T : Ty P) (hval : Value.okWide P W r b0 29 v) (hd : DataW.Trod enc P W base (fun _ => true) held 29 v d ps) : ∃ (rs : List Rat) (ws : List WaitV), (rs.length = 8 ∧ (∀ r ∈ rs, RatW r) ∧ ws.length < 9223372036854775808 ∧ ∀ x ∈ ws, WaitW x) ∧ Rel (StOf W ps) W (keysA rs (ws.map waitA)) v := by
  obtain ⟨u, ⟨rs, ws, h, rfl⟩, hr⟩ := (kp_keys T).agg (fun u ⟨_, _, _, e⟩ => by rw [e]; rfl) hval (.inl ⟨_, T.u29⟩) hd
  exact ⟨rs, ws, h, hr⟩
theorem key_arg (T : Ty P) (hval : Value.okWide P W r b0 23 v) (hd : DataW.Trod enc P W base (fun _ => true) held 23 v d ps) : ∃ k : List UInt8, k.length = 32 ∧ Rel (StOf W ps) W (keyA k) v := by
  obtain ⟨u, ⟨k, h, rfl⟩, hr⟩ := (kp_key T).agg (fun u ⟨_, _, e⟩ => by rw [e]; rfl) hval (.inr ⟨32, 5, T.u23⟩) hd
  exact ⟨k, h, hr⟩
theorem klist_arg (T : Ty P) (hval : Value.okWide P W r b0 31 v) (hd : DataW.Trod enc P W base (fun _ => true) held 31 v d ps) : ∃ ks : List (List UInt8), ks.length < 9223372036854775808 ∧ (∀ k ∈ ks, k.length = 32) ∧ Rel (StOf W ps) W (.sl 32 (klA ks)) v := by
  obtain ⟨vs, h0, h1, hr⟩ := (kp_klist T).slice T.u31 hval hd
  obtain ⟨ks, g1, g2, rfl⟩ := map_of_G h1
  exact ⟨ks, by omega, g1, hr⟩
end
theorem ty_try : Ty Go.Proofs.Tryd.prog := ⟨by kernel_rfl, by kernel_rfl, by kernel_rfl, by kernel_rfl, by kernel_rfl, by kernel_rfl, by kernel_rfl, by kernel_rfl, by kernel_rfl, by kernel_rfl, by kernel_rfl, by kernel_rfl, by kernel_rfl, by kernel_rfl, by kernel_rfl, by kernel_rfl, by kernel_rfl, by kernel_rfl, by kernel_rfl, by kernel_rfl, by kernel_rfl, by kernel_rfl, by kernel_rfl, by kernel_rfl, by kernel_rfl, by kernel_rfl, by kernel_rfl, by kernel_rfl, by kernel_rfl, by kernel_rfl, by kernel_rfl, by kernel_rfl, by kernel_rfl, by kernel_rfl⟩
end Go.Cab

/- Secrets' laws: SecretsApart walked. -/
-- TEXTS
-- KIT
namespace Go.Cab
open Go.RowKit
open Classical
def fb600 : AC := (.seq (.reg [⟨(.some 6), .none, (.box 529 (.tmp 0)), [], .none⟩, ⟨(.some 8), .none, (.box 32 (.tmp 2)), [], .none⟩, ⟨(.some 9), .none, (.box 71 (.tmp 3)), [], .none⟩, ⟨(.some 10), .none, (.box 71 (.tmp 4)), [], .none⟩, ⟨(.some 12), .none, (.mov (.const (.bool .false))), [], .none⟩]) (.seq (.seq (.reg [⟨(.some 21), .none, (.call 5 []), [], .none⟩, ⟨(.some 22), .none, (.un .not (.tmp 21)), [], .none⟩]) (.cond (.tmp 22) (.seq (.reg [⟨(.some 12), .none, (.mov (.const (.bool .false))), [], .none⟩]) .ret) .skip)) (.seq (.seq (.reg [⟨(.some 23), .none, (.load .true 529 (.tmp 6)), [], .none⟩, ⟨(.some 24), .none, (.load .true 71 (.tmp 9)), [], .none⟩, ⟨(.some 25), .none, (.load .true 71 (.tmp 10)), [], .none⟩, ⟨(.some 26), .none, (.mov (.tmp 5)), [], .none⟩, ⟨(.some 27), .none, (.lcall 6 [(.tmp 23), (.tmp 24), (.tmp 25), (.tmp 26)]), [], .none⟩]) (.cond (.tmp 27) (.seq (.reg [⟨(.some 28), .none, (.call 5 []), [], .none⟩, ⟨(.some 12), .none, (.mov (.tmp 28)), [], .none⟩]) .ret) .skip)) (.seq (.reg [⟨(.some 29), .none, (.xc (.dir 7) [] [] []), [], .none⟩, ⟨(.some 13), .none, (.alloc 1 (.st [1] [(.lit (.pointer .none))])), [], .none⟩, ⟨.none, .none, (.store 1 (.tmp 13) (.tmp 29)), [], .none⟩]) (.seq (.reg [⟨(.some 31), .none, (.load .true 1 (.tmp 13)), [], .none⟩, ⟨(.some 32), .none, (.rdp (.mkifc 40) [(.tmp 31)]), [], .none⟩, ⟨(.some 33), .none, (.load .true 529 (.tmp 6)), [], .none⟩, ⟨(.some 34), .none, (.mov (.tmp 1)), [], .none⟩, ⟨(.some 35), .none, (.load .true 71 (.tmp 9)), [], .none⟩, ⟨(.some 36), .none, (.load .true 71 (.tmp 10)), [], .none⟩, ⟨(.some 37), .none, (.mov (.tmp 5)), [], .none⟩, ⟨(.some 38), .none, (.xc (.dir 8) [(.tmp 32), (.tmp 33), (.tmp 34), (.tmp 35), (.tmp 36), (.tmp 37)] [] []), [], .none⟩, ⟨(.some 30), .none, (.mov (.tmp 38)), [], .none⟩, ⟨(.some 39), .none, (.ext (.tmp 30) 0), [], .none⟩, ⟨(.some 40), .none, (.ext (.tmp 30) 1), [], .none⟩, ⟨(.some 14), .none, (.alloc 32 (.arr 1 (List.replicate 32 (.lit (bn 0))))), [], .none⟩, ⟨.none, .none, (.store 32 (.tmp 14) (.tmp 39)), [], .none⟩, ⟨(.some 15), .none, (.mov (.tmp 40)), [], .none⟩]) (.seq (.seq (.reg [⟨(.some 41), .none, (.mov (.tmp 15)), [], .none⟩, ⟨(.some 42), .none, (.bin .neq (.tmp 41) (.const (jn 0))), [], .none⟩]) (.cond (.tmp 42) (.seq (.reg [⟨(.some 43), .none, (.call 5 []), [], .none⟩, ⟨(.some 12), .none, (.mov (.tmp 43)), [], .none⟩]) .ret) .skip)) (.seq (.seq (.reg [⟨(.some 44), .none, (.faddr 3 3 (.tmp 9)), [], .none⟩, ⟨(.some 45), .none, (.load .false 1 (.tmp 44)), [], .none⟩, ⟨(.some 46), .none, (.bin .neq (.tmp 45) (.const (jn 7))), [], .none⟩, ⟨(.some 47), .none, (.mov (.tmp 46)), [], .none⟩, ⟨(.some 48), (.some (47, .true)), (.load .true 71 (.tmp 9)), [], .none⟩, ⟨(.some 49), (.some (47, .true)), (.mov (.tmp 1)), [], .none⟩, ⟨(.some 50), (.some (47, .true)), (.call 9 [(.tmp 48), (.tmp 49)]), [], .none⟩, ⟨(.some 51), .none, (.pick (.tmp 47) (.tmp 50) (.const (.bool .false))), [], .none⟩]) (.cond (.tmp 51) (.reg [⟨(.some 52), .none, (.load .true 32 (.tmp 14)), [], .none⟩, ⟨(.some 53), .none, (.faddr 37 6 (.tmp 9)), [], .none⟩, ⟨.none, .none, (.store 32 (.tmp 53) (.tmp 52)), [], .none⟩]) .skip)) (.seq (.reg [⟨(.some 55), .none, (.load .true 1 (.tmp 13)), [], .none⟩, ⟨(.some 56), .none, (.rdp (.mkifc 40) [(.tmp 55)]), [], .none⟩, ⟨(.some 57), .none, (.load .true 529 (.tmp 6)), [], .none⟩, ⟨(.some 58), .none, (.mov (.tmp 1)), [], .none⟩, ⟨(.some 59), .none, (.load .true 32 (.tmp 8)), [], .none⟩, ⟨(.some 60), .none, (.load .true 71 (.tmp 9)), [], .none⟩, ⟨(.some 61), .none, (.load .true 71 (.tmp 10)), [], .none⟩, ⟨(.some 62), .none, (.mov (.tmp 5)), [], .none⟩, ⟨(.some 63), .none, (.xc (.dir 10) [(.tmp 56), (.tmp 57), (.tmp 58), (.tmp 59), (.tmp 60), (.tmp 61), (.tmp 62)] [] []), [], .none⟩, ⟨(.some 54), .none, (.mov (.tmp 63)), [], .none⟩, ⟨(.some 64), .none, (.ext (.tmp 54) 0), [], .none⟩, ⟨(.some 65), .none, (.ext (.tmp 54) 1), [], .none⟩, ⟨(.some 16), .none, (.alloc 529 (.st [528, 1] [(.arr 66 (List.replicate 8 (.st [1, 1, 32, 32] [(.lit (.bool .false)), (.lit (.bool .false)), (.arr 1 (List.replicate 32 (.lit (bn 0)))), (.arr 1 (List.replicate 32 (.lit (bn 0))))]))), (.lit (.slice .none 0 0))])), [], .none⟩, ⟨.none, .none, (.store 529 (.tmp 16) (.tmp 64)), [], .none⟩, ⟨(.some 17), .none, (.mov (.tmp 65)), [], .none⟩]) (.seq (.seq (.reg [⟨(.some 66), .none, (.mov (.tmp 17)), [], .none⟩, ⟨(.some 67), .none, (.bin .neq (.tmp 66) (.const (jn 0))), [], .none⟩]) (.cond (.tmp 67) (.seq (.reg [⟨(.some 12), .none, (.mov (.const (.bool .false))), [], .none⟩]) .ret) .skip)) (.seq (.seq (.reg [⟨(.some 18), .none, (.mov (.const (jn 0))), [], .none⟩]) (.block 0 (.loop (.seq (.seq (.reg [⟨(.some 68), .none, (.mov (.tmp 18)), [], .none⟩, ⟨(.some 69), .none, (.bin .lss (.tmp 68) (.const (jn 8))), [], .none⟩]) (.cond (.tmp 69) .skip (.exit 0))) (.seq (.block 1 (.seq (.seq (.reg [⟨(.some 72), .none, (.mov (.tmp 18)), [], .none⟩, ⟨(.some 73), .none, (.faddr 0 0 (.tmp 9)), [], .none⟩, ⟨(.some 74), .none, (.load .false 1 (.tmp 73)), [], .none⟩, ⟨(.some 75), .none, (.bin .eql (.tmp 72) (.tmp 74)), [], .none⟩, ⟨(.some 76), .none, (.mov (.tmp 75)), [], .none⟩, ⟨(.some 77), (.some (76, .false)), (.faddr 3 3 (.tmp 9)), [], .none⟩, ⟨(.some 78), (.some (76, .false)), (.load .false 1 (.tmp 77)), [], .none⟩, ⟨(.some 79), (.some (76, .false)), (.bin .eql (.tmp 78) (.const (jn 1))), [], .none⟩, ⟨(.some 80), .none, (.pick (.tmp 76) (.const (.bool .true)) (.tmp 79)), [], .none⟩]) (.cond (.tmp 80) (.exit 1) .skip)) (.seq (.reg [⟨(.some 81), .none, (.mov (.tmp 18)), [], .none⟩, ⟨(.some 82), .none, (.faddr 0 0 (.tmp 6)), [], .none⟩, ⟨(.some 83), .none, (.iaddrA 8 66 (.tmp 82) (.tmp 81)), [], .none⟩, ⟨(.some 84), .none, (.load .true 66 (.tmp 83)), [19, 20], .none⟩, ⟨(.some 85), .none, (.mov (.tmp 18)), [], .none⟩, ⟨(.some 86), .none, (.faddr 0 0 (.tmp 16)), [], .none⟩, ⟨(.some 87), .none, (.iaddrA 8 66 (.tmp 86) (.tmp 85)), [], .none⟩, ⟨(.some 88), .none, (.load .true 66 (.tmp 87)), [19, 20, 19], .none⟩, ⟨(.some 19), .none, (.alloc 66 (.st [1, 1, 32, 32] [(.lit (.bool .false)), (.lit (.bool .false)), (.arr 1 (List.replicate 32 (.lit (bn 0)))), (.arr 1 (List.replicate 32 (.lit (bn 0))))])), [], .none⟩, ⟨(.some 20), .none, (.alloc 66 (.st [1, 1, 32, 32] [(.lit (.bool .false)), (.lit (.bool .false)), (.arr 1 (List.replicate 32 (.lit (bn 0)))), (.arr 1 (List.replicate 32 (.lit (bn 0))))])), [], .none⟩, ⟨.none, .none, (.store 66 (.tmp 19) (.tmp 84)), [], (.some 19)⟩, ⟨.none, .none, (.store 66 (.tmp 20) (.tmp 88)), [], .none⟩]) (.seq (.seq (.reg [⟨(.some 89), .none, (.load .true 66 (.tmp 19)), [], .none⟩, ⟨(.some 90), .none, (.load .true 66 (.tmp 20)), [], .none⟩, ⟨(.some 91), .none, (.eqv 25 .false (.tmp 89) (.tmp 90)), [], .none⟩]) (.cond (.tmp 91) (.exit 1) .skip)) (.seq (.reg [⟨(.some 92), .none, (.faddr 0 0 (.tmp 19)), [], .none⟩, ⟨.none, .none, (.store 1 (.tmp 92) (.const (.bool .true))), [], .none⟩]) (.seq (.reg [⟨(.some 93), .none, (.faddr 3 3 (.tmp 9)), [], .none⟩, ⟨(.some 94), .none, (.load .false 1 (.tmp 93)), [], .none⟩, ⟨(.some 95), .none, (.bin .neq (.tmp 94) (.const (jn 2))), [], .none⟩, ⟨(.some 96), .none, (.mov (.tmp 95)), [], .none⟩, ⟨(.some 97), (.some (96, .false)), (.faddr 4 4 (.tmp 9)), [], .none⟩, ⟨(.some 98), (.some (96, .false)), (.load .false 1 (.tmp 97)), [], .none⟩, ⟨(.some 99), (.some (96, .false)), (.iaddrS 1 (.tmp 98) (.const (jn 0))), [], .none⟩, ⟨(.some 100), (.some (96, .false)), (.load .false 1 (.tmp 99)), [], .none⟩, ⟨(.some 101), (.some (96, .false)), (.mov (.tmp 18)), [], .none⟩, ⟨(.some 102), (.some (96, .false)), (.bin .neq (.tmp 100) (.tmp 101)), [], .none⟩, ⟨(.some 103), .none, (.pick (.tmp 96) (.const (.bool .true)) (.tmp 102)), [], .none⟩, ⟨(.some 104), .none, (.mov (.tmp 103)), [], .none⟩, ⟨(.some 105), (.some (104, .false)), (.load .true 66 (.tmp 19)), [], .none⟩, ⟨(.some 106), (.some (104, .false)), (.load .true 66 (.tmp 20)), [], .none⟩, ⟨(.some 107), (.some (104, .false)), (.eqv 25 .true (.tmp 105) (.tmp 106)), [], .none⟩, ⟨(.some 108), .none, (.pick (.tmp 104) (.const (.bool .true)) (.tmp 107)), [], .none⟩]) (.cond (.tmp 108) (.seq (.reg [⟨(.some 12), .none, (.mov (.const (.bool .false))), [], .none⟩]) .ret) .skip))))))) (.reg [⟨(.some 70), .none, (.mov (.tmp 18)), [], .none⟩, ⟨(.some 71), .none, (.bin .add (.tmp 70) (.const (jn 1))), [], .none⟩, ⟨(.some 18), .none, (.mov (.tmp 71)), [], .none⟩])))))) (.seq (.reg [⟨(.some 109), .none, (.call 5 []), [], .none⟩, ⟨(.some 12), .none, (.mov (.tmp 109)), [], .none⟩]) .ret)))))))))))
def fc600 : FC := ⟨6, 110, [(.tmp 12)], fb600⟩
theorem fc600_eq : compF Go.Proofs.Tryd.prog 3 = some fc600 := by kernel_rfl

theorem raw_ok {o : OpV} (h : OpRaw o) (hg : greatO o = false) : OpOk o := by
  unfold greatO at hg
  simp only [Bool.or_eq_false_iff, decide_eq_false_iff_not] at hg
  obtain ⟨h1, h2, h3, _, _⟩ := hg
  exact ⟨h.seq, by omega, h.p32, by omega, h.ofk, h.check, h.text, by omega, fun b hb => (h.bok b hb).1⟩
theorem tgtA_nil0 {f : FuncId} (h : callable Go.Proofs.Tryd.prog f = true) : tgtA Go.Proofs.Tryd.prog (.dir f) [] = some (f, []) := by simp only [tgtA, tgtB, Option.bind_some, h, if_true]
def apL (N : Nat) (l6 l8 l9 l10 l13 l14 : Nat × Nat) (K id o of_ F c : AV) : List (Option Blk) :=
  [none, none, none, none, none, none, some (.box l6 529 K), none, some (.box l8 32 id), some (.box l9 71 o), some (.box l10 71 of_), none, none, some (.box l13 1 F), some (.box l14 32 c)] ++ List.replicate 95 none
def apM (N : Nat) (me G : AV) (l6 l8 l9 l10 l13 l14 : Nat × Nat) : List AV :=
  [.any, me, .any, .any, .any, G, .ptr (N + 6) l6 0 [], .any, .ptr (N + 8) l8 0 [], .ptr (N + 9) l9 0 [], .ptr (N + 10) l10 0 [], .any, .lit (.bool false), .ptr (N + 13) l13 0 [], .ptr (N + 14) l14 0 []] ++ List.replicate 95 .any

set_option maxHeartbeats 64000000 in
theorem secretsApart_call {rats : List Rat} {ws : List WaitV} {me : Int} {id : List UInt8} {o of_ : OpV} {got : List (List UInt8)} (hrl : rats.length = 8) (hrk : ∀ r ∈ rats, RatW r) (hwl : ws.length < 9223372036854775808) (hw : ∀ w ∈ ws, WaitW w)
    (hid : id.length = 32) (ho : OpRaw o) (hof : OpRaw of_) (hgl : got.length < 9223372036854775808) (hg : ∀ g ∈ got, g.length = 32) :
    PCall Go.Proofs.Tryd.prog 3 [keysA rats (ws.map waitA), .lit (ji me), keyA id, opA o, opA of_, .sl 32 (klA got)] (.val (.lit (.bool true))) := by
  have h600 := fc600_eq
  have hc7 : callable Go.Proofs.Tryd.prog 7 = true := by kernel_rfl
  have al := salive_call
  have g4 := great4_call (rs := rats) (ws := ws) (o := o) (of_ := of_) (got := got) hrl ⟨ho.ofk, ho.check⟩ ho.text (fun b hb => (ho.bok b hb).2) ⟨hof.ofk, hof.check⟩ hof.text (fun b hb => (hof.bok b hb).2)
  have hA : (rats.map ratA).length = 8 := by rw [List.length_map]; exact hrl
  have o5 := ho.ofk; have o6 := ho.check; have p5 := hof.ofk; have p6 := hof.check
  have z1 : (opA o).sz = 71 := by simp [opA, AV.sz]
  have z2 : (opA of_).sz = 71 := by simp [opA, AV.sz]
  unfold keysA at g4 ⊢
  refine PCall.of h600 rfl ?_; show AC.wp _ fb600 (AS.init [.st [528, 1] [.arr 66 (rats.map ratA), .sl 65 (ws.map waitA)], .lit (ji me), keyA id, opA o, opA of_, .sl 32 (klA got)] 6 110) (fun x s => match x with | .exit _ => False | _ => Fin [(.tmp 12)] s _); unfold fb600 AS.init
  refine wp_sg (areg_bx rfl (by simp [AS.ev, AV.sz, hA]) fun l6 => areg_bx rfl (by simp [AS.ev, AS.put, keyA_sz, hid]) fun l8 => areg_bx rfl (by simp only [AS.ev, AS.put]; exact z1) fun l9 => areg_bx rfl (by simp only [AS.ev, AS.put]; exact z2) fun l10 => areg_end (by simp [push_cast]; exact rfl) ?_)
  refine wp_seq' (wp_seq' (wp_rg ?_))
  refine areg_ca (by simp [AS.ev, AS.coe, AS.put] <;> exact rfl) al ?_
  refine areg_end (by simp [push_cast]; exact rfl) ?_
  refine wp_cond_f rfl (wp_skip' ?_)
  refine wp_seq' (wp_seq' (wp_rg ?_))
  refine areg_run 4 (by simp [push_cast, hA, opA, o5, o6, p5, p6]; exact rfl) ?_
  refine areg_lc (vs := [.st [528, 1] [.arr 66 (rats.map ratA), .sl 65 (ws.map waitA)], opA o, opA of_, .sl 32 (klA got)]) (by simp [AS.ev, AS.lend, AS.lendF, AS.put, AOp.ro, AS.blk, opA, keyA]) rfl g4 ?_
  refine areg_end (by simp [push_cast]; exact rfl) ?_
  cases hgr : greatV ws.length got.length o of_ with
  | true =>
    refine wp_cond_t (by simp [AS.ev]) (wp_sg ?_)
    refine areg_ca (by simp [AS.ev, AS.coe, AS.put] <;> exact rfl) al ?_
    refine areg_end (by simp [push_cast]; exact rfl) (wp_ret' ?_)
    exact fin_tmp (by simp [RVal, AS.ev, AS.coe]) (by simp)
  | false =>
  refine wp_cond_f (by simp [AS.ev]) (wp_skip' ?_)
  have hap : ApIn rats ws id o of_ got := by
    unfold greatV at hgr
    simp only [Bool.or_eq_false_iff, decide_eq_false_iff_not] at hgr
    obtain ⟨q1, q2, q3, q4⟩ := hgr
    exact ⟨hrl, fun r hr => ⟨(hrk r hr).key, (hrk r hr).chain⟩, fun w h => ⟨(hw w h).of_, (hw w h).key⟩, by omega, hid, fun b hb => (ho.bok b hb).2, raw_ok ho q3, raw_ok hof q4, hg, by omega⟩
  refine wp_sgL ?_
  refine areg_run 0 (by simp [push_cast]; exact rfl) ?_
  refine areg_xq (us := []) rfl (by simp only [tgtA, tgtB, Option.bind_some, hc7, if_true]) (newfree_call _) ⟨_, _, (0, 0), 0, rfl, rfl⟩ (fun r hp' _ t' ht' => by cases ht') ?_
  rintro r H' ⟨l, rr, rfl, rfl⟩
  refine areg_run 0 (by simp [push_cast]; exact rfl) ?_
  refine areg_al' rfl fun l13 => areg_end (by simp [push_cast, freeS_sz, freeS_agg, freeS_tup]; exact rfl) ?_
  refine wp_kit (n := 110) (Lo := [none, none, none, none, none, none, some (.box l6 529 (.st [528, 1] [.arr 66 (rats.map ratA), .sl 65 (ws.map waitA)])), none, some (.box l8 32 (keyA id)), some (.box l9 71 (opA o)), some (.box l10 71 (opA of_)), none, none, some (.box l13 1 (freeS 110 l))] ++ List.replicate 96 none)
    (fun N t => [.any, .lit (ji me), .any, .any, .any, .sl 32 (klA got), .ptr (N + 6) l6 0 [], .any, .ptr (N + 8) l8 0 [], .ptr (N + 9) l9 0 [], .ptr (N + 10) l10 0 [], .any, .lit (.bool false), .ptr (N + 13) l13 0 []] ++ List.replicate 96 .any)
    (fun N t => [none, none, none, none, none, none, some (.box l6 529 (.st [528, 1] [.arr 66 (rats.map ratA), .sl 65 (ws.map waitA)])), none, some (.box l8 32 (keyA id)), some (.box l9 71 (opA o)), some (.box l10 71 (opA of_)), none, none, some (.box l13 1 (freeS t.b t.l))] ++ List.replicate 96 none) rfl ?_ ?_ fun N H t V hh hN => ?_
  · simp [leA, RelLe.refl', RelLe.ptr']
  · simp [leB, tbNew, BlkLe.freeS', BlkLe.refl']
  have G1 : ∀ V' ts', (tbOf H t V' ts').length = N := fun V' ts' => by rw [tbOf_len, hN]
  have g1 : ∀ V' ts' L k, (tbOf H t V' ts' ++ L)[N + k]? = L[k]? := fun V' ts' L k => cat1 _ _ _ _ (G1 _ _)
  have g2 : ∀ V' ts' L k x, (tbOf H t V' ts' ++ L).set (N + k) x = tbOf H t V' ts' ++ L.set k x := fun V' ts' L k x => cat2 _ _ _ _ _ (G1 _ _)
  obtain ⟨c, e, us, kc, hc32, hcase⟩ := check_apply hh hap (me := me)
  unfold keysA at kc
  have hne : binVal .neq (jn e) (jn 0) = some (.bool (decide (e ≠ 0))) := by
    simp only [binVal, jn, ne_eq, not_true_eq_false, if_false, Option.some.injEq, Value.bool.injEq]
    rw [Bool.eq_iff_iff]
    simp
  refine wp_sg ?_
  refine areg_run 1 (by simp [push_cast, g1, freeS_sz, freeS_agg, freeS_tup]; exact rfl) ?_
  refine areg_rdp (us := [freeS t.b t.l]) rfl (mkifc_free _ _) ?_
  refine areg_run 5 (by simp [push_cast, g1, hA, opA, o5, o6, p5, p6]; exact rfl) ?_
  refine areg_k [freeI t.b t.l, .st [528, 1] [.arr 66 (rats.map ratA), .sl 65 (ws.map waitA)], .lit (ji me), opA o, opA of_, .sl 32 (klA got)] hN rfl (tgt_scheck _ _ _ _ _ _) kc (by simp) (by simp) fun V2 => ?_
  refine areg_run 3 (by simp [push_cast]; exact rfl) ?_
  refine areg_al' zk_eq.symm fun l14 => areg_end (by simp [push_cast, g1, g2, hc32, zk_len]; exact rfl) ?_
  refine wp_seq' (wp_sr (by simp [push_cast, hne]; exact rfl) ?_)
  rcases hcase with ⟨he, _⟩ | ⟨he, rs', ws', us2, ka, hrs, hap2⟩
  · refine wp_cond_t (by simp [AS.ev, he]) (wp_sg ?_)
    refine areg_ca (by simp [AS.ev, AS.coe, AS.put] <;> exact rfl) al ?_
    refine areg_end (by simp [push_cast]; exact rfl) (wp_ret' ?_)
    exact fin_tmp (by simp [RVal, AS.ev, AS.coe]) (by simp)
  refine wp_cond_f (by simp [AS.ev, he]) (wp_skip' ?_)
  unfold keysA at ka
  have ao : (oC o me c).author = o.author ∧ (oC o me c).kind = o.kind ∧ (oC o me c).who = o.who ∧ (oC o me c).ofk = o.ofk ∧ (oC o me c).check.length = 32 := by
    unfold oC
    split
    · exact ⟨rfl, rfl, rfl, rfl, hc32⟩
    · exact ⟨rfl, rfl, rfl, rfl, o6⟩
  refine wp_seqM (X := Unit) (fun _ => ⟨N, apM N (.lit (ji me)) (.sl 32 (klA got)) l6 l8 l9 l10 l13 l14, tbOf H t V2 us ++ apL N l6 l8 l9 l10 l13 l14 (.st [528, 1] [.arr 66 (rats.map ratA), .sl 65 (ws.map waitA)]) (keyA id) (opA (oC o me c)) (opA of_) (freeS t.b t.l) (keyA c)⟩) (fun _ => True) ?_ ?_
  · rintro _ _
    obtain ⟨a1, a2, a3, a4, a5⟩ := ao
    have a6 : (oC o me c).ofk.length = 32 := by rw [a4]; exact o5
    generalize oC o me c = o' at *
    have hA' : (rs'.map ratA).length = 8 := by rw [List.length_map]; exact hrs
    unfold apM apL
    refine wp_sg ?_
    refine areg_run 1 (by simp [push_cast, g1, freeS_sz, freeS_agg, freeS_tup]; exact rfl) ?_
    refine areg_rdp (us := [freeS t.b t.l]) rfl (mkifc_free _ _) ?_
    refine areg_run 6 (by simp [push_cast, g1, hA, hid, opA, a5, a6, p5, p6]; exact rfl) ?_
    refine areg_k [freeI t.b t.l, .st [528, 1] [.arr 66 (rats.map ratA), .sl 65 (ws.map waitA)], .lit (ji me), keyA id, opA o', opA of_, .sl 32 (klA got)] hN rfl (tgt_apply _ _ _ _ _ _ _) ka (by simp) (by simp) fun V3 => ?_
    refine areg_run 3 (by simp [push_cast]; exact rfl) ?_
    refine areg_al' (z' := ks0) rfl fun l16 => areg_end (by simp [push_cast, g1, g2, ks0, hA']; exact rfl) ?_
    refine wp_seq' (wp_sr (by simp [push_cast]; exact rfl) ?_)
    refine wp_cond_f (by simp [AS.ev]) (wp_skip' ?_)
    refine wp_seq' (wp_seq' (wp_r (by simp [push_cast]; exact rfl) ?_))
    refine wp_block' (wp_loop_m (fun i => ⟨N, [.any, .any, .any, .any, .any, .any, .ptr (N + 6) l6 0 [], .any, .any, .ptr (N + 9) l9 0 [], .any, .any, .lit (.bool false), .any, .any, .any, .ptr (N + 16) l16 0 [], .any, .lit (jn i)] ++ List.replicate 91 .any,
      tbOf H t V3 us2 ++ ([none, none, none, none, none, none, some (.box l6 529 (.st [528, 1] [.arr 66 (rats.map ratA), .sl 65 (ws.map waitA)])), none, none, some (.box l9 71 (opA o')), none, none, none, none, none, none, some (.box l16 529 (.st [528, 1] [.arr 66 (rs'.map ratA), .sl 65 (ws'.map waitA)]))] ++ List.replicate 93 none)⟩) (fun i => 8 - i) (fun i => i ≤ 8) 0 ?_ (by simp) ?_)
    · exact Le.mk rfl (by simp [leT]) (leH_app (leH_refl _) (by simp [leH, opA, keyA]))
    intro i hi
    simp only at hi ⊢
    by_cases hlt : i < 8
    · have q1 : i + 1 < 9223372036854775808 := by omega
      have hau : binVal .eql (jn i) (ji o'.author) = some (.bool (decide ((i : Int) = o'.author))) := bin_eqli _ _
      have hk1 : binVal .eql (ji o'.kind) (jn 1) = some (.bool (decide (o'.kind = 1))) := bin_eqli _ _
      refine wp_seq' (wp_sr (by simp [push_cast, hlt]; exact rfl) ?_)
      refine wp_cond_t (by simp [AS.ev]) (wp_skip' ?_)
      refine wp_seq' (wp_block' (wp_seq' ?_))
      by_cases ha : (i : Int) = o'.author
      · rw [show decide ((i : Int) = o'.author) = true by simp [ha]] at hau
        refine wp_sr (by simp [push_cast, g1, opA, hau, a5, a6]; exact rfl) ?_
        refine wp_cond_t (by simp [AS.ev]) (wp_exit' (if_hit rfl ?_))
        refine wp_r (by simp [push_cast, q1]; exact rfl) ?_
        exact Exists.intro (i + 1) ⟨by omega, by omega, Le.mk rfl (by simp [leT]) (leH_app (leH_refl _) (by simp [leH, opA, keyA]))⟩
      rw [show decide ((i : Int) = o'.author) = false by simp [ha]] at hau
      by_cases hkk : o'.kind = 1
      · rw [show decide (o'.kind = 1) = true by simp [hkk]] at hk1
        refine wp_sr (by simp [push_cast, g1, opA, hau, hk1, a5, a6]; exact rfl) ?_
        refine wp_cond_t (by simp [AS.ev]) (wp_exit' (if_hit rfl ?_))
        refine wp_r (by simp [push_cast, q1]; exact rfl) ?_
        exact Exists.intro (i + 1) ⟨by omega, by omega, Le.mk rfl (by simp [leT]) (leH_app (leH_refl _) (by simp [leH, opA, keyA]))⟩
      rw [show decide (o'.kind = 1) = false by simp [hkk]] at hk1
      refine wp_sr (by simp [push_cast, g1, opA, hau, hk1, a5, a6]; exact rfl) ?_
      refine wp_cond_f (by simp [AS.ev]) (wp_skip' ?_)
      obtain ⟨q, hq⟩ : ∃ q, rats[i]? = some q := ⟨_, List.getElem?_eq_getElem (by omega)⟩
      have qk := (hrk q (List.mem_of_getElem? hq)).key
      have qc := (hrk q (List.mem_of_getElem? hq)).chain
      obtain ⟨k', hy, hk'⟩ : ∃ k', rs'[i]? = some ⟨k', q.open_, q.key, q.chain⟩ ∧ (k' = q.known ∨ (k' = true ∧ o'.kind = 2 ∧ o'.who = [(i : Int)])) := by
        rcases hap2 (by rw [← a2]; exact hkk) i (by rw [← a1]; exact ha) with h | ⟨h1, h2, q', h3, h4⟩
        · exact ⟨q.known, by rw [h, hq], .inl rfl⟩
        · rw [hq] at h3
          cases h3
          exact ⟨true, h4, .inr ⟨rfl, by rw [a2]; exact h1, by rw [a3]; exact h2⟩⟩
      have hwA : i < (rats.map ratA).length := by omega
      have hwA' : i < (rs'.map ratA).length := by omega
      have hg1 : (rats.map ratA)[i]? = some (.st [1, 1, 32, 32] [.lit (.bool q.known), .lit (.bool q.open_), keyA q.key, keyA q.chain]) := by rw [List.getElem?_map, hq]; rfl
      have hg2 : ∀ h, (rats.map ratA)[i]'h = .st [1, 1, 32, 32] [.lit (.bool q.known), .lit (.bool q.open_), keyA q.key, keyA q.chain] := fun h => by rw [List.getElem?_eq_getElem h] at hg1; exact Option.some.inj hg1
      have hg3 : (rs'.map ratA)[i]? = some (.st [1, 1, 32, 32] [.lit (.bool k'), .lit (.bool q.open_), keyA q.key, keyA q.chain]) := by rw [List.getElem?_map, hy]; rfl
      have hg4 : ∀ h, (rs'.map ratA)[i]'h = .st [1, 1, 32, 32] [.lit (.bool k'), .lit (.bool q.open_), keyA q.key, keyA q.chain] := fun h => by rw [List.getElem?_eq_getElem h] at hg3; exact Option.some.inj hg3
      refine wp_sg ?_
      refine areg_run 8 (by simp [push_cast, g1, hA, hA', hlt, hwA, hwA', hg1, hg2, hg3, hg4, qk, qc]; exact rfl) ?_
      refine areg_al' (z' := r0A) rfl fun l19 => areg_al' (z' := r0A) rfl fun l20 => areg_end (by simp [push_cast, g1, g2, qk, qc, r0A, zk_len]; exact rfl) ?_
      refine wp_seq' (wp_sg ?_)
      refine areg_run 2 (by simp [push_cast, g1, qk, qc]; exact rfl) ?_
      refine areg_eq (u := (.st [1, 1, 32, 32] [.lit (.bool q.known), .lit (.bool q.open_), keyA q.key, keyA q.chain])) (v := (.st [1, 1, 32, 32] [.lit (.bool k'), .lit (.bool q.open_), keyA q.key, keyA q.chain])) (by simp [AS.ev, AS.put, keyA]) (by simp [AS.ev, AS.put, keyA]) (eq_rat2 (a := q.known) (a' := k') qk qc) rfl rfl ?_
      refine areg_end (by simp [push_cast]; exact rfl) ?_
      by_cases hkn : q.known = k'
      · refine wp_cond_t (by simp [AS.ev, hkn]) (wp_exit' (if_hit rfl ?_))
        refine wp_r (by simp [push_cast, q1]; exact rfl) ?_
        exact Exists.intro (i + 1) ⟨by omega, by omega, Le.mk rfl (by simp [leT]) (leH_app (leH_refl _) (by simp [leH, opA, keyA]))⟩
      refine wp_cond_f (by simp [AS.ev, hkn]) (wp_skip' ?_)
      rcases hk' with hk' | ⟨hk', hk2, hwho⟩
      · exact absurd hk'.symm hkn
      subst hk'
      have w1 : (o'.who.map fun y => AV.lit (ji y))[0]? = some (.lit (jn i)) := by rw [hwho]; rfl
      have w2 : ∀ h, (o'.who.map fun y => AV.lit (ji y))[0]'h = .lit (jn i) := fun h => by rw [List.getElem?_eq_getElem h] at w1; exact Option.some.inj w1
      have w3 : (o'.who.map fun y => AV.lit (ji y)).length = 1 := by rw [hwho]; rfl
      have hk2' : binVal .neq (ji o'.kind) (jn 2) = some (.bool false) := by rw [hk2]; simp [binVal, ji, jn]
      have hii : binVal .neq (jn i) (jn i) = some (.bool false) := by simp [binVal, jn]
      refine wp_sr (by simp [push_cast, g1, g2, qk, qc]; exact rfl) ?_
      refine wp_sg ?_
      refine areg_run 12 (by simp [push_cast, g1, opA, hk2', a5, a6, w1, w2, w3, hii]; exact rfl) ?_
      refine areg_run 2 (by simp [push_cast, g1, qk, qc]; exact rfl) ?_
      refine areg_g (b := false) (by simp [AS.ev, AS.put]) (areg_eq (u := (.st [1, 1, 32, 32] [.lit (.bool true), .lit (.bool q.open_), keyA q.key, keyA q.chain])) (v := (.st [1, 1, 32, 32] [.lit (.bool true), .lit (.bool q.open_), keyA q.key, keyA q.chain])) (by simp [AS.ev, AS.put, keyA]) (by simp [AS.ev, AS.put, keyA]) (eq_rat2 (a := true) (a' := true) qk qc) rfl rfl ?_)
      refine areg_end (by simp [push_cast]; exact rfl) ?_
      refine wp_cond_f (by simp [AS.ev]) (wp_skip' ?_)
      refine wp_r (by simp [push_cast, q1]; exact rfl) ?_
      exact Exists.intro (i + 1) ⟨by omega, by omega, Le.mk rfl (by simp [leT]) (leH_app (leH_refl _) (by simp [leH, opA, keyA]))⟩
    · have hin : i = 8 := by omega
      subst hin
      refine wp_seq' (wp_sr (by simp [push_cast]; exact rfl) ?_)
      refine wp_cond_f (by simp [AS.ev]) (wp_exit' (if_hit rfl ?_))
      refine wp_sg ?_
      refine areg_ca (by simp [AS.ev, AS.coe, AS.put] <;> exact rfl) al ?_
      refine areg_end (by simp [push_cast]; exact rfl) (wp_ret' ?_)
      exact fin_tmp (by simp [RVal, AS.ev, AS.coe]) (by simp)
  · have fc := for_call ⟨o5, o6⟩ hap.ok.boxes me
    have hk7 : binVal .neq (ji o.kind) (jn 7) = some (.bool (decide (o.kind ≠ 7))) := bin_neqi _ _
    have hoc : ∀ fo k7, forV o me = fo → decide (o.kind ≠ 7) = k7 → oC o me c = if fo = true ∧ k7 = true then { o with check := c } else o := fun fo k7 e1 e2 => by
      unfold oC
      rw [← e1, ← e2]
      simp only [decide_eq_true_eq]
    generalize hk : decide (o.kind ≠ 7) = k7 at *
    generalize hf : forV o me = fo at *
    have hoc := hoc _ _ rfl rfl
    rw [hoc]
    refine wp_seq' (wp_rg ?_)
    cases k7 with
    | false =>
      refine areg_end (by simp [push_cast, g1, opA, hk7, o5, o6]; exact rfl) ?_
      refine wp_cond_f (by simp [AS.ev]) (wp_skip' ?_)
      rw [if_neg (by simp)]
      exact ⟨(), trivial, Le.mk rfl (by simp [apM, leT]) (leH_app (leH_refl _) (by simp [apL, leH, freeS, keyA, opA]))⟩
    | true =>
      refine areg_run 6 (by simp [push_cast, g1, opA, hk7, o5, o6]; exact rfl) ?_
      refine areg_g (by simp [AS.ev, AS.put]) ?_
      refine areg_ca (by simp [AS.ev, AS.coe, AS.put] <;> exact rfl) fc ?_
      refine areg_end (by simp [push_cast]; exact rfl) ?_
      cases fo with
      | false =>
        refine wp_cond_f (by simp [AS.ev]) (wp_skip' ?_)
        rw [if_neg (by simp)]
        exact ⟨(), trivial, Le.mk rfl (by simp [apM, leT]) (leH_app (leH_refl _) (by simp [apL, leH, freeS, keyA, opA]))⟩
      | true =>
        refine wp_cond_t (by simp [AS.ev]) (wp_r (by simp [push_cast, g1, g2, opA, o5, o6, hc32]; exact rfl) ?_)
        rw [if_pos (by simp)]
        exact ⟨(), trivial, Le.mk rfl (by simp [apM, leT]) (leH_app (leH_refl _) (by simp [apL, leH, freeS, keyA, opA]))⟩
end Go.Cab

/- The row's condition: the library's table of powers of ten is laid. -/
namespace Go.Cab

def tabName : String := "internal/strconv.uint64pow10"
theorem tab_laid {P : Program} {l : List (String × DataW Unit)} {W : World} (hL : laidMetH P l W) (hl : (l.filter fun x => x.1 == tabName) = [(tabName, Lib.tabData .u64 Lib.pow10Tab)])
    {t e : TypeId} (hg : P.globalNamed tabName = some 1) (hty : (P.globals[1]?).map (·.type) = some t) (ht : P.underlying t = some (.array 20 e)) (he : P.underlying e = some (.int .u64)) (hce : P.cellsOf e = 1) (hct : P.cellsOf t = 20) : Lib.TabIs P W tabName .u64 Lib.pow10Tab := by
  have h := hL.filter (fun x => x.1 == tabName)
  rw [hl] at h
  exact Lib.tabIs_of_head hg hty ht he hce hct h
theorem tabOk_of {P : Program} {W : World} (hg : P.globalNamed tabName = some 1) (h : Lib.TabIs P W tabName .u64 Lib.pow10Tab) : TabOk [] W := by
  intro x hx
  simp only [laidTabs, List.mem_singleton] at hx
  subst hx
  refine ⟨?_, fun r hr => by cases hr⟩
  unfold Lib.TabIs World.var? at h
  rw [hg] at h
  simp only [Option.bind_some] at h
  split at h
  · rename_i cs t fr hc
    cases h
    exact ⟨t, fr, hc⟩
  · cases h
theorem tabOk_laid {l : List (String × DataW Unit)} {W : World} (hL : laidMetH Go.Proofs.Tryd.prog l W) (hl : (l.filter fun x => x.1 == tabName) = [(tabName, Lib.tabData .u64 Lib.pow10Tab)]) : TabOk [] W :=
  tabOk_of (by kernel_rfl) (tab_laid (t := 138) (e := 53) hL hl (by kernel_rfl) (by kernel_rfl) (by kernel_rfl) (by kernel_rfl) (by kernel_rfl) (by kernel_rfl))
end Go.Cab

/- SecretsApart: for every input the call returns true, and each argument reads afterwards as it read before. No condition beyond the row's own. -/
namespace Go.Proofs.YtihiiojkllaknaaDoor
open Go.ChangeShapes Go.WideShapes Go.ChangeAt Go.RowKit

theorem Tryd.laidOut : laidOutB Tryd.prog = true := by kernel_rfl
theorem Tryd.own : ownKnob Tryd.prog.godebug = none := by kernel_rfl
/-- A world that meets the condition: the settled one, the three tables laid. -/
def tab32 : Array Value := #[0, 1, 28, 2, 29, 14, 24, 3, 30, 22, 20, 15, 25, 17, 4, 8, 31, 27, 13, 23, 21, 19, 16, 7, 26, 12, 18, 6, 11, 5, 10, 9].map fun n => .int .u8 n
def tab64 : Array Value := #[0, 1, 56, 2, 57, 49, 28, 3, 61, 58, 42, 50, 38, 29, 17, 4, 62, 47, 59, 36, 45, 43, 51, 22, 53, 39, 33, 30, 24, 18, 12, 5, 63, 55, 48, 27, 60, 41, 37, 16, 46, 35, 44, 21, 52, 32, 23, 11, 54, 26, 40, 15, 34, 20, 31, 10, 25, 14, 19, 9, 13, 8, 7, 6].map fun n => .int .u8 n
def tab10 : Array Value := #[1, 10, 100, 1000, 10000, 100000, 1000000, 10000000, 100000000, 1000000000, 10000000000, 100000000000, 1000000000000, 10000000000000, 100000000000000, 1000000000000000, 10000000000000000, 100000000000000000, 1000000000000000000, 10000000000000000000].map fun n => .int .u64 n
noncomputable def laidWorld (os : Os) : World :=
  let w0 := World.holding Tryd.prog os ⟨#[], #[], []⟩
  { w0 with heap := ((w0.heap.modify 1 fun
      | .cells _ t frozen => .cells tab10 t frozen
      | o => o).modify 2 fun
      | .cells _ t frozen => .cells tab32 t frozen
      | o => o).modify 3 fun
      | .cells _ t frozen => .cells tab64 t frozen
      | o => o }
theorem laidWorld_met (os : Os) (args : Array Value) : laidMetH Tryd.prog Rows.secretsApartRow.laid ((laidWorld os).forCall (fun _ _ => 0) ⟨#[], args, []⟩).memory :=
  laidMetH_of_parts (laidMet_of_run' 80 (by kernel_rfl) (by kernel_rfl)) (by kernel_rfl)

set_option maxRecDepth 100000 in
theorem secretsApart_lifted (os : Os) (started : os.Started) (H : Type) (enc : TypeId × Value → H) :
    ReturnsInHanded {} Tryd.checked os 3 .any (fun w args => (Rows.secretsApartSpec.pre enc Tryd.prog Tryd.f3 Rows.secretsApartRow.domain false w args ∧ laidMetH Tryd.prog Rows.secretsApartRow.laid w) ∧ sizedMet enc Tryd.prog Tryd.f3 (OpenSpec.ofChange Rows.secretsApartSpec) false w args)
      (Rows.secretsApartSpec.post enc Tryd.prog Tryd.f3 false true false false) := by
  refine returnsInHanded_of_change_and (C := Tryd.checked) (X := fun w _ => laidMetH Tryd.prog Rows.secretsApartRow.laid w) (fun _ _ _ hh h => h.of_heap hh) Tryd.own started (by kernel_rfl) Tryd.func3
    (ChangeSpec.witness_at (enc := enc) (C := Tryd.checked) (os := os) (X := fun w _ => laidMetH Tryd.prog Rows.secretsApartRow.laid w) false (laidWorld os) #[Value.agg ((List.replicate 8 ([Value.bool false, Value.bool false] ++ List.replicate 64 (Value.int .u8 0))).flatten ++ [Value.slice none 0 0]).toArray, Value.int .i64 0, Value.agg (List.replicate 32 (Value.int .u8 0)).toArray, Value.agg ([Value.int .i64 0, Value.int .u32 0, Value.slice none 0 0, Value.int .i64 0, Value.slice none 0 0] ++ List.replicate 64 (Value.int .u8 0) ++ [Value.string ⟨#[]⟩, Value.slice none 0 0]).toArray, Value.agg ([Value.int .i64 0, Value.int .u32 0, Value.slice none 0 0, Value.int .i64 0, Value.slice none 0 0] ++ List.replicate 64 (Value.int .u8 0) ++ [Value.string ⟨#[]⟩, Value.slice none 0 0]).toArray, Value.slice none 0 0] 8 rfl (by kernel_rfl) (by kernel_rfl) (by kernel_rfl) (by kernel_rfl) (by kernel_rfl) (laidWorld_met os _)) ?_
  intro W base args ds gs before hval0 hW _ _ hLaid _
  have htab := Go.Cab.tabOk_laid hLaid (by kernel_rfl)
  have hval : ∀ (j : Nat) t v, Tryd.f3.params[j]? = some t → args[j]? = some v → Value.okWide Tryd.prog W .any base t v := hval0
  have hW' := hW
  obtain ⟨p, q, hA0, hV, rfl, hfz, hnd⟩ := hW
  have hA : DataW.TrodAll enc Tryd.prog W 0 (fun _ => true) true Tryd.f3.params.toList args.toList ds p := hA0
  rw [Tryd.params3] at hA hval
  obtain ⟨v0, v1, v2, v3, v4, v5, d0, d1, d2, d3, d4, d5, p0, p1, p2, p3, p4, p5, rfl, rfl, rfl, h0, h1, h2, h3, h4, h5⟩ := Go.Cab.trodAll_six hA
  obtain ⟨rfl, rfl⟩ := trodVars_none hV
  obtain ⟨rs0, ws0, k0, r0⟩ := Go.Cab.keys_arg Go.Cab.ty_try (hval 0 29 v0 rfl rfl) h0
  obtain ⟨b1, rfl, rfl, rfl, wb1⟩ := open_int Tryd.underlying3 (hval 1 3 v1 rfl rfl) h1
  obtain ⟨y2, k2, r2⟩ := Go.Cab.key_arg Go.Cab.ty_try (hval 2 23 v2 rfl rfl) h2
  obtain ⟨y3, k3, r3⟩ := Go.Cab.op_arg Go.Cab.ty_try (hval 3 35 v3 rfl rfl) h3
  obtain ⟨y4, k4, r4⟩ := Go.Cab.op_arg Go.Cab.ty_try (hval 4 35 v4 rfl rfl) h4
  obtain ⟨y5, g5, k5, r5⟩ := Go.Cab.klist_arg Go.Cab.ty_try (hval 5 31 v5 rfl rfl) h5
  have hc := Go.Cab.secretsApart_call (me := b1) k0.1 k0.2.1 k0.2.2.1 k0.2.2.2 k2 k3 k4 g5 k5 W (Go.Cab.StOf W (p0 ++ p2 ++ p3 ++ p4 ++ p5)) [_, _, _, _, _, _] ⟨(fun _ _ h => h.2), htab⟩ ⟨r0.mono (fun _ _ hb => ⟨by simp [hb.1], hb.2⟩) (fun _ _ _ => rfl), Go.Cab.Rel.mkLit rfl, r2.mono (fun _ _ hb => ⟨by simp [hb.1], hb.2⟩) (fun _ _ _ => rfl), r3.mono (fun _ _ hb => ⟨by simp [hb.1], hb.2⟩) (fun _ _ _ => rfl), r4.mono (fun _ _ hb => ⟨by simp [hb.1], hb.2⟩) (fun _ _ _ => rfl), r5.mono (fun _ _ hb => ⟨by simp [hb.1], hb.2⟩) (fun _ _ _ => rfl), trivial⟩
  refine Calls.mono hc fun e W' ⟨V, Imm, he, hfr, _, hr⟩ => ?_
  have hV' := (hr.1.lit).1
  subst hV'
  have hb := hfr.below
  have hlt : ∀ x ∈ p0 ++ p2 ++ p3 ++ p4 ++ p5, x.block < W.heap.size := fun x hx => hW'.lt x (by simpa using hx)
  refine ⟨_, he, Go.Cab.post_below rfl hW' hb (fun _ _ _ => trodAll_mk1 (shut_bool Tryd.underlying4 true)) (fun sp hsp => ?_) (fun _ => rfl) (ok_one (by kernel_rfl) rfl (okWide_bool_mk Tryd.underlying4 true))⟩
  have s0 := WideElems.Trod_stays (sp' := sp) Tryd.laidOut (by kernel_rfl) (of_decide_eq_true (by kernel_rfl)) h0 (fun x hx => hb.same (hlt x (by simp [hx]))) (fun x hx => hsp x (by simp [hx]))
  have s1 := shut_int (enc := enc) (w := W') (base := 0) (spare := sp) (held := true) Tryd.underlying3 wb1
  have s2 := WideElems.Trod_stays (sp' := sp) Tryd.laidOut (by kernel_rfl) (of_decide_eq_true (by kernel_rfl)) h2 (fun x hx => hb.same (hlt x (by simp [hx]))) (fun x hx => hsp x (by simp [hx]))
  have s3 := WideElems.Trod_stays (sp' := sp) Tryd.laidOut (by kernel_rfl) (of_decide_eq_true (by kernel_rfl)) h3 (fun x hx => hb.same (hlt x (by simp [hx]))) (fun x hx => hsp x (by simp [hx]))
  have s4 := WideElems.Trod_stays (sp' := sp) Tryd.laidOut (by kernel_rfl) (of_decide_eq_true (by kernel_rfl)) h4 (fun x hx => hb.same (hlt x (by simp [hx]))) (fun x hx => hsp x (by simp [hx]))
  have s5 := WideElems.Trod_stays (sp' := sp) Tryd.laidOut (by kernel_rfl) (of_decide_eq_true (by kernel_rfl)) h5 (fun x hx => hb.same (hlt x (by simp [hx]))) (fun x hx => hsp x (by simp [hx]))
  have s := Go.Cab.trodAll_mk6 s0 s1 s2 s3 s4 s5
  simp only [List.nil_append, List.append_nil, List.append_assoc] at s ⊢
  exact s

theorem secretsApart_holds : Rows.SecretsApartSaid :=
  OpenClaim.holds_of_wide 3 Tryd.f3 rfl rfl rfl rfl rfl rfl rfl ⟨rfl, rfl, rfl, rfl, rfl⟩ rfl rfl rfl rfl rfl (by kernel_rfl) Tryd.func3 (by kernel_rfl)
    (of_decide_eq_true (by kernel_rfl)) (by unfold Func.isWrapper; first | (rw [if_pos (by decide +kernel)]; kernel_rfl) | (rw [if_neg (by decide +kernel)]; exact ⟨rfl, rfl⟩))
    (fun os started H enc _ => secretsApart_lifted os started H enc)
end Go.Proofs.YtihiiojkllaknaaDoor

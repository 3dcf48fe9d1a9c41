/- The row's arguments: keys. -/
import Derived.Test.YtjkckdiepdbfeaaCabR2
import Derived.ProofKit
set_option linter.unusedSimpArgs false
set_option linter.unusedVariables false
set_option linter.unusedSectionVars false
namespace Go.Cab
open Go.ChangeShapes Go.WideShapes Go.RowKit

section
variable {H : Type} {enc : TypeId × Value → H} {P : Program} {W : World} {base : Nat} {sp : Nat → Bool} {held : Bool}

theorem trods_u8 {e : TypeId} (he : P.underlying e = some (.int .u8)) {m : Nat} {cs : List Value} {c : Nat} : ∀ (L : List Nat) (xs : List (DataW H × List MemPlace)),
    L.mapM (fun i => DataW.trod enc P W base sp held m e ((cs.drop (i * c)).take c)) = some xs → ∀ i ∈ L, ∃ a : Nat, a < 256 ∧ (cs.drop (i * c)).take c = [bn a]
  | [], xs, h, i, hi => by simp at hi
  | j :: L, xs, h, i, hi => by
    rw [List.mapM_cons] at h
    simp only [bind, Option.bind_eq_some_iff, pure, Option.some.injEq] at h
    obtain ⟨y, hy, ys, hys, rfl⟩ := h
    rcases List.mem_cons.1 hi with rfl | hi
    · obtain ⟨a, ea, _, wa⟩ := DataW.trod_int he hy
      simp [Lit.wf, IntKind.min, IntKind.max, IntKind.signed, IntKind.bits] at wa
      refine ⟨a.toNat, by omega, ?_⟩
      rw [ea]; unfold bn
      rw [Int.toNat_of_nonneg (by omega)]
    · exact trods_u8 he L ys hys i hi

/-- A key that the row lets in. -/
theorem open_key {k e : TypeId} (hu : P.underlying k = some (.array 32 e)) (he : P.underlying e = some (.int .u8)) (h1 : P.cellsOf e = 1) (hk : P.cellsOf k = 32) {r : Reach} {b0 : Nat} {v : Value} (hval : Value.okWide P W r b0 k v) {d : DataW H} {ps : List MemPlace}
    (hd : DataW.Trod enc P W base sp held k v d ps) : ∃ f : Nat → Nat, (∀ i, f i < 256) ∧ v = .agg ((List.range 32).map fun i => bn (f i)).toArray := by
  simp only [Value.okWide, hu] at hval
  obtain ⟨xs, rfl, hn, _⟩ := hval
  rw [hk] at hn
  obtain ⟨fuel, hf⟩ := hd
  cases fuel with
  | zero => simp [DataW.trod] at hf
  | succ m =>
    rw [DataW.trod_step] at hf
    unfold DataW.trodStep at hf
    simp only [hu, Value.cells] at hf
    rw [if_pos (by rw [hk]; simpa using hn)] at hf
    simp only [Option.map_eq_some_iff] at hf
    obtain ⟨ys, hy, _⟩ := hf
    have h := trods_u8 he _ ys hy
    have hg : ∀ i, ∃ a : Nat, a < 256 ∧ (i < 32 → xs.toList[i]? = some (bn a)) := by
      intro i
      by_cases hi : i < 32
      · obtain ⟨a, ha, e1⟩ := h i (by simpa using hi)
        refine ⟨a, ha, fun _ => ?_⟩
        rw [h1, Nat.mul_one] at e1
        have := congrArg (fun l => l[0]?) e1
        simpa using this
      · exact ⟨0, by decide, fun h => absurd h hi⟩
    obtain ⟨f, hfs⟩ : ∃ f : Nat → Nat, ∀ i, f i < 256 ∧ (i < 32 → xs.toList[i]? = some (bn (f i))) := ⟨fun i => Classical.choose (hg i), fun i => Classical.choose_spec (hg i)⟩
    refine ⟨f, fun i => (hfs i).1, ?_⟩
    congr 1
    apply Array.ext'
    show xs.toList = (List.range 32).map fun i => bn (f i)
    apply List.ext_getElem?
    intro i
    by_cases hi : i < 32
    · rw [(hfs i).2 hi]; simp [hi]
    · simp [hi, hn]

end

/-- Such a key is that of a number. -/
theorem R_key {Imm : Nat → Nat → Prop} {w : World} (f : Nat → Nat) (hf : ∀ i, f i < 256) : Rel Imm w (keyAV (valL ((List.range 32).map f))) (.agg ((List.range 32).map fun i => bn (f i)).toArray) := by
  have hr : ∀ (l : List Nat), R Imm w (.arr 1 (l.map fun i => AV.lit (bn (f i)))) (l.map fun i => bn (f i)) := by
    intro l
    induction l with
    | nil => exact .arr0 1
    | cons a l ih => exact .arr1 1 _ _ [bn (f a)] _ (.lit _ rfl) rfl (by intro x hx; simp at hx; rw [hx]; rfl) ih
  refine .inr ⟨(List.range 32).map fun i => bn (f i), ?_, rfl⟩
  have e : keyAV (valL ((List.range 32).map f)) = .arr 1 ((List.range 32).map fun i => AV.lit (bn (f i))) := by
    unfold keyAV lst
    congr 1
    refine List.map_congr_left fun j hj => ?_
    have hj' : j < 32 := by simpa using hj
    rw [digit_val _ j (by intro d hd; obtain ⟨i, _, rfl⟩ := List.mem_map.1 hd; exact hf i)]
    simp [hj']
  rw [e]
  exact hr _
end Go.Cab

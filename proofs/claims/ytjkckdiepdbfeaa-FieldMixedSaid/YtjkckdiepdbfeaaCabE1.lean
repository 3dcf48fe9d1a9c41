/- Keys and elements compared. -/
import Derived.Test.YtjkckdiepdbfeaaCabM1
set_option linter.unusedSimpArgs false
set_option linter.unusedVariables false
set_option linter.unusedSectionVars false
namespace Go.Cab

theorem R_lits {Imm : Nat → Nat → Prop} {w : World} : ∀ {xs : List Value} {cs : List Value}, R Imm w (.arr 1 (xs.map AV.lit)) cs → cs = xs
  | [], cs, h => by cases h; rfl
  | x :: xs, cs, h => by
    cases h with
    | arr1 _ _ _ c d hx _ _ hd =>
      cases hx
      rw [R_lits hd]
      rfl

theorem R_lst {Imm : Nat → Nat → Prop} {w : World} {n : Nat} {f : Nat → Value} {cs : List Value} (h : R Imm w (.arr 1 (lst n fun j => .lit (f j))) cs) : cs = (List.range n).map f := by
  refine R_lits (Imm := Imm) (w := w) ?_
  rw [List.map_map]
  exact h

theorem mapM_some {α β : Type} {f : α → Option β} {g : α → β} : ∀ {l : List α}, (∀ i ∈ l, f i = some (g i)) → l.mapM f = some (l.map g)
  | [], _ => rfl
  | a :: l, h => by
    rw [List.mapM_cons, h a (by simp), mapM_some (fun i hi => h i (by simp [hi]))]
    rfl

theorem flat_single {α β : Type} (f : α → β) : ∀ (l : List α), (l.map fun i => [f i]).flatten = l.map f
  | [] => rfl
  | a :: l => by simp [flat_single f l]

theorem keyLits_row {P : Program} {t e : TypeId} {n : Nat} {q : IntKind} (hu : P.underlying t = some (.array n e)) (he : P.underlying e = some (.int q)) (hc : P.cellsOf t = n) (h1 : P.cellsOf e = 1) (x : Nat → Int)
    (hw : ∀ i, i < n → (Lit.int q (x i)).wf = true) (d : Nat) : P.keyLits (d + 2) t ((List.range n).map fun i => Value.int q (x i)) = some ((List.range n).map fun i => Lit.int q (x i)) := by
  unfold Program.keyLits
  simp only [hu]
  rw [if_pos (by simp [hc]), mapM_some (g := fun i => [Lit.int q (x i)])]
  · simp only [Option.map_some, flat_single]
  · intro i hi
    have hi' : i < n := by simpa using hi
    rw [h1, Nat.mul_one]
    have e1 : (((List.range n).map fun i => Value.int q (x i)).drop i).take 1 = [Value.int q (x i)] := by
      apply List.ext_getElem?
      intro k
      rw [List.getElem?_take, List.getElem?_drop]
      cases k with
      | zero => simp [hi']
      | succ k => simp
    rw [e1]
    unfold Program.keyLits
    simp only [he]
    rw [if_pos ⟨trivial, hw i hi'⟩]

theorem wf_bn {x : Nat} (h : x < 256) : (Lit.int .u8 (x : Int)).wf = true := by
  simp [Lit.wf, IntKind.min, IntKind.max, IntKind.signed, IntKind.bits]
  omega
theorem wf_un {x : Nat} (h : x < 18446744073709551616) : (Lit.int .u64 (x : Int)).wf = true := by
  simp [Lit.wf, IntKind.min, IntKind.max, IntKind.signed, IntKind.bits]
  omega

theorem keys_inj {m n : Nat} (h : ∀ i, i < 32 → m / 2 ^ (8 * i) % 256 = n / 2 ^ (8 * i) % 256) : m % 2 ^ 256 = n % 2 ^ 256 := by
  apply Nat.eq_of_testBit_eq
  intro t
  rw [Nat.testBit_mod_two_pow, Nat.testBit_mod_two_pow]
  by_cases ht : t < 256
  · have h2 := congrArg (fun z => z.testBit (t % 8)) (h (t / 8) (by omega))
    have e : (256 : Nat) = 2 ^ 8 := by decide
    rw [e] at h2
    rw [Nat.testBit_mod_two_pow, Nat.testBit_mod_two_pow, Nat.testBit_div_two_pow, Nat.testBit_div_two_pow] at h2
    have e2 : t % 8 + 8 * (t / 8) = t := by omega
    have e3 : t % 8 < 8 := by omega
    rw [e2] at h2
    simp [e3] at h2
    simp [h2]
  · simp [ht]

/-- Two keys. -/
theorem eq_key {P : Program} (hu : P.underlying 23 = some (.array 32 5)) (he : P.underlying 5 = some (.int .u8)) (hc : P.cellsOf 23 = 32) (h1 : P.cellsOf 5 = 1) {m n : Nat} (hm : m < 2 ^ 256) (hn : n < 2 ^ 256) :
    EqAV P 23 (keyAV m) (keyAV n) (decide (m = n)) := by
  intro Imm w cs cs' hx hy
  have ex := R_lst hx
  have ey := R_lst hy
  subst ex ey
  refine ⟨2, 2, _, _, ?_, ?_, keyLits_row hu he hc h1 (fun j => ((m / 2 ^ (8 * j) % 256 : Nat) : Int)) (fun i _ => wf_bn (Nat.mod_lt _ (by decide))) 0, keyLits_row hu he hc h1 (fun j => ((n / 2 ^ (8 * j) % 256 : Nat) : Int)) (fun i _ => wf_bn (Nat.mod_lt _ (by decide))) 0, ?_⟩
  · simp only [keyAV, asVal, Value.formed, hu]
    simp [hc]
  · simp only [keyAV, asVal, Value.formed, hu]
    simp [hc]
  · rw [decide_eq_true_iff]
    constructor
    · rintro rfl; rfl
    · intro h
      have h2 := keys_inj (m := m) (n := n) fun i hi => by
        have := congrArg (fun l => l[i]?) h
        simp only [List.getElem?_map, List.getElem?_range hi, Option.map_some, Option.some.injEq, Lit.int.injEq, true_and] at this
        exact Int.ofNat.inj this
      rwa [Nat.mod_eq_of_lt hm, Nat.mod_eq_of_lt hn] at h2

theorem els_inj {m n : Nat} (h : ∀ i, i < 5 → m / 2 ^ (51 * i) % 2251799813685248 = n / 2 ^ (51 * i) % 2251799813685248) : m % 2 ^ 255 = n % 2 ^ 255 := by
  apply Nat.eq_of_testBit_eq
  intro t
  rw [Nat.testBit_mod_two_pow, Nat.testBit_mod_two_pow]
  by_cases ht : t < 255
  · have h2 := congrArg (fun z => z.testBit (t % 51)) (h (t / 51) (by omega))
    have e : (2251799813685248 : Nat) = 2 ^ 51 := by decide
    rw [e] at h2
    rw [Nat.testBit_mod_two_pow, Nat.testBit_mod_two_pow, Nat.testBit_div_two_pow, Nat.testBit_div_two_pow] at h2
    have e2 : t % 51 + 51 * (t / 51) = t := by omega
    have e3 : t % 51 < 51 := by omega
    rw [e2] at h2
    simp [e3] at h2
    simp [h2]
  · simp [ht]

theorem R_st1 {Imm : Nat → Nat → Prop} {w : World} {n : Nat} {f : AV} {cs : List Value} (h : R Imm w (.st [n] [f]) cs) : R Imm w f cs := by
  cases h with
  | st1 _ _ _ _ c d hc _ _ hd =>
    cases hd
    simpa using hc

/-- Two elements. -/
theorem eq_elem {P : Program} {fd : Field} (hs : P.underlying 29 = some (.struct #[fd])) (hft : fd.type = 27) (hfo : fd.offset = 0) (hfn : (fd.name != "_") = true) (hu : P.underlying 27 = some (.array 5 26)) (he : P.underlying 26 = some (.int .u64)) (hc0 : P.cellsOf 29 = 5) (hc : P.cellsOf 27 = 5) (h1 : P.cellsOf 26 = 1) {m n : Nat} (hm : m < 2 ^ 255) (hn : n < 2 ^ 255) :
    EqAV P 29 (elAV m) (elAV n) (decide (m = n)) := by
  have key : ∀ k : Nat, P.keyLits 3 29 ((List.range 5).map fun j => un (k / 2 ^ (51 * j) % 2251799813685248)) = some ((List.range 5).map fun j => Lit.int .u64 ((k / 2 ^ (51 * j) % 2251799813685248 : Nat) : Int)) := by
    intro k
    have h2 := keyLits_row hu he hc h1 (fun j => ((k / 2 ^ (51 * j) % 2251799813685248 : Nat) : Int)) (fun i _ => wf_un (Nat.lt_trans (Nat.mod_lt _ (by decide)) (by decide))) 0
    unfold Program.keyLits
    simp only [hs]
    rw [if_pos ⟨by simp [hc0], by simp [hfn]⟩]
    have h3 : (((List.range 5).map fun j => un (k / 2 ^ (51 * j) % 2251799813685248)).drop fd.offset).take (P.cellsOf fd.type) = (List.range 5).map fun j => un (k / 2 ^ (51 * j) % 2251799813685248) := by
      rw [hfo, hft, hc, List.drop_zero]
      exact List.take_of_length_le (by simp)
    simp only [List.mapM_cons, List.mapM_nil]
    rw [h3, hft]
    erw [h2]
    simp
  intro Imm w cs cs' hx hy
  have ex := R_lst (R_st1 hx)
  have ey := R_lst (R_st1 hy)
  subst ex ey
  refine ⟨3, 3, _, _, ?_, ?_, key m, key n, ?_⟩
  · simp only [elAV, asVal, Value.formed, hs]
    simp [hc0]
  · simp only [elAV, asVal, Value.formed, hs]
    simp [hc0]
  · rw [decide_eq_true_iff]
    constructor
    · rintro rfl; rfl
    · intro h
      have h2 := els_inj (m := m) (n := n) fun i hi => by
        have := congrArg (fun l => l[i]?) h
        simp only [List.getElem?_map, List.getElem?_range hi, Option.map_some, Option.some.injEq, Lit.int.injEq, true_and] at this
        exact Int.ofNat.inj this
      rwa [Nat.mod_eq_of_lt hm, Nat.mod_eq_of_lt hn] at h2
end Go.Cab

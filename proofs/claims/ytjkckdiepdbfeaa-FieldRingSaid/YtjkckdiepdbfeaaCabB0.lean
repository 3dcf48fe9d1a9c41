/- Digits in base 2^w, bit by bit. -/
import Derived.Test.YtjkckdiepdbfeaaCabV
set_option linter.unusedSimpArgs false
set_option linter.unusedVariables false
set_option linter.unusedSectionVars false
namespace Go.Cab

/-- The list of f 0, f 1, .., f (n - 1). -/
def lst (n : Nat) (f : Nat → AV) : List AV := (List.range n).map f

theorem lst_get {n j : Nat} (f : Nat → AV) (h : j < n) : (lst n f)[j]? = some (f j) := by
  simp [lst, h]
theorem lst_getD {n j : Nat} (f : Nat → AV) (d : AV) (h : j < n) : ((lst n f)[j]?).getD d = f j := by
  rw [lst_get f h]; rfl
theorem lst_len (n : Nat) (f : Nat → AV) : (lst n f).length = n := by simp [lst]
theorem lst_set {n j : Nat} {f g : Nat → AV} {v : AV} (hv : v = g j) (h : ∀ k, k < n → k ≠ j → f k = g k) : (lst n f).set j v = lst n g := by
  apply List.ext_getElem?
  intro k
  rw [List.getElem?_set]
  by_cases hk : j = k
  · subst hk
    simp only [if_true, lst_len]
    by_cases hn : j < n
    · rw [if_pos hn, lst_get g hn, hv]
    · rw [if_neg hn]; simp [lst, hn]
  · rw [if_neg hk]
    by_cases hn : k < n
    · rw [lst_get f hn, lst_get g hn, h k hn (Ne.symm hk)]
    · simp [lst, hn]

theorem bit51 (n i j : Nat) : n % 2 ^ (i + 1) / 2 ^ (51 * j) % 2 ^ 51 = (n % 2 ^ i / 2 ^ (51 * j) % 2 ^ 51) ||| (if j = i / 51 then (n / 2 ^ i % 2) * 2 ^ (i % 51) else 0) := by
  apply Nat.eq_of_testBit_eq
  intro t
  rw [Nat.testBit_or, Nat.testBit_mod_two_pow, Nat.testBit_mod_two_pow, Nat.testBit_div_two_pow, Nat.testBit_div_two_pow, Nat.testBit_mod_two_pow, Nat.testBit_mod_two_pow]
  split
  · rename_i hj
    rw [← Nat.toNat_testBit, ← Nat.shiftLeft_eq, Nat.testBit_shiftLeft]
    by_cases ht : t = i % 51
    · have e : t + 51 * j = i := by omega
      have h1 : t < 51 := by omega
      have h3 : t ≥ i % 51 := by omega
      have h4 : t - i % 51 = 0 := by omega
      rw [e, h4]
      simp [h1, h3]
      cases n.testBit i <;> simp
    · have h2 : (t ≥ i % 51 → ((n.testBit i).toNat.testBit (t - i % 51)) = false) := by
        intro h
        have : t - i % 51 = (t - i % 51 - 1) + 1 := by omega
        rw [this]
        cases n.testBit i <;> simp [Nat.testBit_succ]
      have h5 : (decide (t ≥ i % 51) && (n.testBit i).toNat.testBit (t - i % 51)) = false := by
        by_cases h : t ≥ i % 51
        · simp [h2 h]
        · simp [h]
      rw [h5, Bool.or_false]
      by_cases h1 : t < 51
      · have h6 : t + 51 * j < i + 1 ↔ t + 51 * j < i := by omega
        simp [h1, h6]
      · simp [h1]
  · rename_i hj
    rw [Nat.zero_testBit, Bool.or_false]
    by_cases h1 : t < 51
    · have h6 : t + 51 * j < i + 1 ↔ t + 51 * j < i := by omega
      simp [h1, h6]
    · simp [h1]

theorem bit8 (n i j : Nat) : n % 2 ^ (i + 1) / 2 ^ (8 * j) % 2 ^ 8 = (n % 2 ^ i / 2 ^ (8 * j) % 2 ^ 8) ||| (if j = i / 8 then (n / 2 ^ i % 2) * 2 ^ (i % 8) else 0) := by
  apply Nat.eq_of_testBit_eq
  intro t
  rw [Nat.testBit_or, Nat.testBit_mod_two_pow, Nat.testBit_mod_two_pow, Nat.testBit_div_two_pow, Nat.testBit_div_two_pow, Nat.testBit_mod_two_pow, Nat.testBit_mod_two_pow]
  split
  · rename_i hj
    rw [← Nat.toNat_testBit, ← Nat.shiftLeft_eq, Nat.testBit_shiftLeft]
    by_cases ht : t = i % 8
    · have e : t + 8 * j = i := by omega
      have h1 : t < 8 := by omega
      have h3 : t ≥ i % 8 := by omega
      have h4 : t - i % 8 = 0 := by omega
      rw [e, h4]
      simp [h1, h3]
      cases n.testBit i <;> simp
    · have h2 : (t ≥ i % 8 → ((n.testBit i).toNat.testBit (t - i % 8)) = false) := by
        intro h
        have : t - i % 8 = (t - i % 8 - 1) + 1 := by omega
        rw [this]
        cases n.testBit i <;> simp [Nat.testBit_succ]
      have h5 : (decide (t ≥ i % 8) && (n.testBit i).toNat.testBit (t - i % 8)) = false := by
        by_cases h : t ≥ i % 8
        · simp [h2 h]
        · simp [h]
      rw [h5, Bool.or_false]
      by_cases h1 : t < 8
      · have h6 : t + 8 * j < i + 1 ↔ t + 8 * j < i := by omega
        simp [h1, h6]
      · simp [h1]
  · rename_i hj
    rw [Nat.zero_testBit, Bool.or_false]
    by_cases h1 : t < 8
    · have h6 : t + 8 * j < i + 1 ↔ t + 8 * j < i := by omega
      simp [h1, h6]
    · simp [h1]


theorem digit_bit8 (n i : Nat) : n / 2 ^ (8 * (i / 8)) % 2 ^ 8 / 2 ^ (i % 8) % 2 = n / 2 ^ i % 2 := by
  rw [← Nat.toNat_testBit, ← Nat.toNat_testBit, Nat.testBit_mod_two_pow, Nat.testBit_div_two_pow]
  have h1 : i % 8 < 8 := by omega
  have h2 : i % 8 + 8 * (i / 8) = i := by omega
  rw [h2]; simp [h1]
theorem digit_bit51 (n i : Nat) : n / 2 ^ (51 * (i / 51)) % 2 ^ 51 / 2 ^ (i % 51) % 2 = n / 2 ^ i % 2 := by
  rw [← Nat.toNat_testBit, ← Nat.toNat_testBit, Nat.testBit_mod_two_pow, Nat.testBit_div_two_pow]
  have h1 : i % 51 < 51 := by omega
  have h2 : i % 51 + 51 * (i / 51) = i := by omega
  rw [h2]; simp [h1]

end Go.Cab

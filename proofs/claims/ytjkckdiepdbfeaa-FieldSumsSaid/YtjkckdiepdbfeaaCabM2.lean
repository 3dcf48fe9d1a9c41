/- Digits: a sum's value. -/
import Derived.Test.YtjkckdiepdbfeaaCabR4
set_option linter.unusedSimpArgs false
set_option linter.unusedVariables false
set_option linter.unusedSectionVars false
namespace Go.Cab

theorem valL_take_succ (L : List Nat) : ∀ i, valL (L.take (i + 1)) = valL (L.take i) + 256 ^ i * nth L i := by
  induction L with
  | nil => intro i; simp [valL, nth]
  | cons d l ih =>
    intro i
    cases i with
    | zero => simp [valL, nth]
    | succ i =>
      have hn : nth (d :: l) (i + 1) = nth l i := by simp [nth]
      rw [List.take_succ_cons, List.take_succ_cons, valL, valL, ih i, hn, Nat.pow_succ, Nat.mul_add, Nat.mul_comm (256 ^ i) 256, Nat.mul_assoc, Nat.add_assoc]

theorem valL_range (f : Nat → Nat) (i : Nat) : valL ((List.range (i + 1)).map f) = valL ((List.range i).map f) + 256 ^ i * f i := by
  have h := valL_take_succ ((List.range (i + 1)).map f) i
  have e1 : ((List.range (i + 1)).map f).take (i + 1) = (List.range (i + 1)).map f := List.take_of_length_le (by simp)
  have e2 : ((List.range (i + 1)).map f).take i = (List.range i).map f := by
    rw [List.range_succ, List.map_append, List.take_left' (by simp)]
  have e3 : nth ((List.range (i + 1)).map f) i = f i := by simp [nth]
  rw [e1, e2, e3] at h
  exact h

/-- While a sum is reckoned. -/
theorem sum_step (A B : List Nat) : ∀ i, valL ((List.range i).map (sumD A B)) + 256 ^ i * sumC A B i = valL (A.take i) + valL (B.take i)
  | 0 => by simp [valL, sumC]
  | i + 1 => by
    have ih := sum_step A B i
    rw [valL_range, valL_take_succ, valL_take_succ]
    have hx := Nat.div_add_mod (sumC A B i + nth A i + nth B i) 256
    have e1 : sumC A B (i + 1) = (sumC A B i + nth A i + nth B i) / 256 := rfl
    have e2 : sumD A B i = (sumC A B i + nth A i + nth B i) % 256 := rfl
    rw [← e1, ← e2] at hx
    generalize sumC A B (i + 1) = c' at *
    generalize sumD A B i = d at *
    have e3 : 256 ^ (i + 1) * c' = 256 ^ i * (256 * c') := by rw [Nat.pow_succ, Nat.mul_assoc]
    have e4 : 256 ^ i * (256 * c' + d) = 256 ^ i * (sumC A B i + nth A i + nth B i) := by rw [hx]
    rw [Nat.mul_add] at e4
    rw [Nat.mul_add, Nat.mul_add] at e4
    omega

theorem plusL_val {A B : List Nat} (hA : ∀ d ∈ A, d < 256) (hB : ∀ d ∈ B, d < 256) : valL (plusL A B) = valL A + valL B := by
  have h := sum_step A B (sumLen A B)
  rw [sumC_end hA hB, Nat.mul_zero, Nat.add_zero] at h
  have hge : max A.length B.length ≤ sumLen A B := by unfold sumLen; split <;> omega
  rw [List.take_of_length_le (by omega), List.take_of_length_le (by omega)] at h
  exact h

theorem plusL_lt (A B : List Nat) : ∀ d ∈ plusL A B, d < 256 := by
  intro d hd
  simp only [plusL, List.mem_map] at hd
  obtain ⟨i, _, rfl⟩ := hd
  unfold sumD; omega

theorem plusL_len (A B : List Nat) : (plusL A B).length ≤ max A.length B.length + 1 ∧ max A.length B.length ≤ (plusL A B).length := by
  simp only [plusL, List.length_map, List.length_range]
  unfold sumLen
  split <;> omega

theorem digitsOf_lt (n : Nat) : ∀ d ∈ digitsOf n, d < 256 := by
  intro d hd
  unfold digitsOf at hd
  rcases List.mem_or_eq_of_mem_set hd with h | h
  · obtain ⟨i, _, rfl⟩ := List.mem_map.1 h
    unfold byteOf; omega
  · rw [h]; omega
end Go.Cab

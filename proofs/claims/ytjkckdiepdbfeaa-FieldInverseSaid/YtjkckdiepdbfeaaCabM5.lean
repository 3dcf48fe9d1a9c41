/- Digits: what Rest answers. -/
import Derived.Test.YtjkckdiepdbfeaaCabR6
set_option linter.unusedSimpArgs false
set_option linter.unusedVariables false
set_option linter.unusedSectionVars false
namespace Go.Cab

theorem restA_facts : ∀ (n : Nat) (A : List Nat), valL A ≤ n → (∀ d ∈ A, d < 256) → A.length < 1000 →
    (∀ d ∈ restA A, d < 256) ∧ valL (restA A) % pp = valL A % pp ∧ valL (restA A) < 2 ^ 255 ∧ (restA A).length < 1000 := by
  intro n
  induction n with
  | zero =>
    intro A hn hA hl
    rw [restA_end (by omega)]
    exact ⟨hA, rfl, by omega, hl⟩
  | succ n ih =>
    intro A hn hA hl
    by_cases h : 2 ^ 255 ≤ valL A
    · rw [restA_step hA h]
      have h1 := restStep_less hA h
      have h2 := restStep_len A
      obtain ⟨g1, g2, g3, g4⟩ := ih (restStep A) (by omega) (restStep_lt A) (by omega)
      exact ⟨g1, g2.trans (restStep_mod hA), g3, g4⟩
    · rw [restA_end h]
      exact ⟨hA, rfl, by omega, hl⟩

theorem restF_facts {A : List Nat} (hA : ∀ d ∈ A, d < 256) (hl : A.length < 1000) : (∀ d ∈ restF A, d < 256) ∧ valL (restF A) = valL A % pp ∧ (restF A).length < 1002 := by
  obtain ⟨g1, g2, g3, g4⟩ := restA_facts _ A (Nat.le_refl _) hA hl
  unfold restF
  have hv := plusL_val g1 nineteen_lt
  have hd := plusL_lt (restA A) [19]
  have hn := (plusL_len (restA A) [19]).1
  have e19 : valL [19] = 19 := rfl
  rw [e19] at hv
  have epp : (2 : Nat) ^ 255 = pp + 19 := by decide
  split
  · rename_i h
    have h31 := long_of_high hd h
    generalize plusL (restA A) [19] = C at *
    have hdig := digit_val C 31 hd
    have hn31 : nth C 31 = 128 := by
      show C.getD 31 0 = 128
      rw [← hdig, hv]
      rw [hv] at h
      have e1 : (2 : Nat) ^ 255 = 2 ^ (8 * 31) * 128 := by decide
      have e2 : (2 : Nat) ^ (8 * 31) = 452312848583266388373324160190187140051835877600158453279131187530910662656 := by decide
      rw [e1, e2] at h g3
      rw [e2]
      omega
    have hs : subm 18446744073709551616 (nth C 31) 128 = 0 := by rw [hn31]; decide
    rw [hs]
    have hset := valL_set C 31 0 h31
    have e3 : 256 ^ 31 * 128 = pp + 19 := by decide
    rw [hn31, e3, Nat.mul_zero, Nat.add_zero] at hset
    refine ⟨set_lt hd (by decide), ?_, by rw [List.length_set]; simp at hn; omega⟩
    rw [← g2]
    rw [hv] at hset h
    have hq : valL (C.set 31 0) = valL (restA A) - pp := by omega
    rw [hq]
    have hlt : valL (restA A) - pp < pp := by
      have : pp + 19 < 2 * pp := by decide
      omega
    rw [Nat.mod_eq_sub_mod (by omega), Nat.mod_eq_of_lt hlt]
  · rename_i h
    refine ⟨g1, ?_, by omega⟩
    rw [← g2]
    rw [hv] at h
    exact (Nat.mod_eq_of_lt (by omega)).symm

theorem digits_val (n : Nat) : valL (digitsOf n) = n % 2 ^ 255 := by
  have hb : ∀ i, valL ((List.range i).map (byteOf n)) = n % 256 ^ i := by
    intro i
    induction i with
    | zero => simp [valL, Nat.mod_one]
    | succ i ih =>
      rw [valL_range, ih, Nat.pow_succ, Nat.mod_mul]
      unfold byteOf
      rw [Nat.pow_mul]
  have hlen : 31 < ((List.range 32).map (byteOf n)).length := by simp
  have hs := valL_set ((List.range 32).map (byteOf n)) 31 (byteOf n 31 % 128) hlen
  have h1 := hb 31
  have h2 := valL_range (byteOf n) 31
  have hn : nth ((List.range 32).map (byteOf n)) 31 = byteOf n 31 := by simp [nth]
  have h3 : valL (digitsOf n) = n % 256 ^ 31 + 256 ^ 31 * (byteOf n 31 % 128) := by
    show valL (((List.range 32).map (byteOf n)).set 31 (byteOf n 31 % 128)) = _
    rw [hn] at hs
    have h2' : valL ((List.range 32).map (byteOf n)) = n % 256 ^ 31 + 256 ^ 31 * byteOf n 31 := by rw [← h1]; exact h2
    rw [h2'] at hs
    generalize 256 ^ 31 * byteOf n 31 = x at *
    omega
  have e1 : (2 : Nat) ^ 255 = 256 ^ 31 * 128 := by decide
  rw [h3, e1, Nat.mod_mul]
  unfold byteOf
  have e2 : (2 : Nat) ^ (8 * 31) = 256 ^ 31 := by decide
  rw [e2]
  have e4 : n / 256 ^ 31 % 256 % 128 = n / 256 ^ 31 % 128 := by omega
  rw [e4]
end Go.Cab

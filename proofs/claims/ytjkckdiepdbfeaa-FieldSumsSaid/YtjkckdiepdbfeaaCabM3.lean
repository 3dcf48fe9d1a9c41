/- Digits: a product. -/
import Derived.Test.YtjkckdiepdbfeaaCabM2
set_option linter.unusedSimpArgs false
set_option linter.unusedVariables false
set_option linter.unusedSectionVars false
namespace Go.Cab

/-- One row of a product, after k steps: the digits, and what is carried. -/
def mulC (a : Nat) (B : List Nat) (i : Nat) (out : List Nat) : Nat → List Nat × Nat
  | 0 => (out, 0)
  | k + 1 => ((mulC a B i out k).1.set (i + k) ((nth (mulC a B i out k).1 (i + k) + (mulC a B i out k).2 + a * nth B k) % 256), (nth (mulC a B i out k).1 (i + k) + (mulC a B i out k).2 + a * nth B k) / 256)
def mulK (a : Nat) (B : List Nat) (i : Nat) (out : List Nat) : Nat := if (mulC a B i out B.length).2 = 0 then B.length else B.length + 1
def mulO (A B : List Nat) : Nat → List Nat
  | 0 => List.replicate (A.length + B.length + 1) 0
  | i + 1 => (mulC (nth A i) B i (mulO A B i) (mulK (nth A i) B i (mulO A B i))).1
def timesL (A B : List Nat) : List Nat := mulO A B A.length

theorem mulC_len (a : Nat) (B : List Nat) (i : Nat) (out : List Nat) : ∀ k, (mulC a B i out k).1.length = out.length
  | 0 => rfl
  | k + 1 => by simp [mulC, mulC_len a B i out k]

theorem mulO_len (A B : List Nat) : ∀ i, (mulO A B i).length = A.length + B.length + 1
  | 0 => by simp [mulO]
  | i + 1 => by rw [mulO, mulC_len, mulO_len A B i]

theorem set_lt {l : List Nat} {i v : Nat} (h : ∀ d ∈ l, d < 256) (hv : v < 256) : ∀ d ∈ l.set i v, d < 256 := by
  intro d hd
  rcases List.mem_or_eq_of_mem_set hd with h1 | h1
  · exact h d h1
  · rw [h1]; exact hv

theorem mulC_lt {a : Nat} {B : List Nat} {i : Nat} {out : List Nat} (ha : a < 256) (hB : ∀ d ∈ B, d < 256) (ho : ∀ d ∈ out, d < 256) : ∀ k, (∀ d ∈ (mulC a B i out k).1, d < 256) ∧ (mulC a B i out k).2 < 256
  | 0 => ⟨ho, by simp [mulC]⟩
  | k + 1 => by
    obtain ⟨h1, h2⟩ := mulC_lt ha hB ho (i := i) k
    refine ⟨set_lt h1 (Nat.mod_lt _ (by decide)), ?_⟩
    have h3 := nth_lt h1 (i + k)
    have h4 := nth_lt hB k
    have h5 : a * nth B k ≤ 255 * 255 := Nat.mul_le_mul (by omega) (by omega)
    simp only [mulC]
    omega

theorem mulO_lt {A B : List Nat} (hA : ∀ d ∈ A, d < 256) (hB : ∀ d ∈ B, d < 256) : ∀ i, ∀ d ∈ mulO A B i, d < 256
  | 0 => by intro d hd; simp [mulO] at hd; omega
  | i + 1 => (mulC_lt (nth_lt hA i) hB (mulO_lt hA hB i) _).1

theorem valL_set : ∀ (l : List Nat) (i v : Nat), i < l.length → valL (l.set i v) + 256 ^ i * nth l i = valL l + 256 ^ i * v
  | [], i, v, h => by simp at h
  | d :: l, 0, v, h => by simp [valL, nth]; omega
  | d :: l, i + 1, v, h => by
    have ih := valL_set l i v (by simpa using h)
    have hn : nth (d :: l) (i + 1) = nth l i := by simp [nth]
    have e : ∀ x, 256 ^ (i + 1) * x = 256 * (256 ^ i * x) := fun x => by rw [Nat.pow_succ, Nat.mul_comm (256 ^ i) 256, Nat.mul_assoc]
    rw [List.set_cons_succ, valL, valL, hn, e, e]
    omega

theorem mulC_val (a : Nat) (B : List Nat) (i : Nat) (out : List Nat) : ∀ k, i + k ≤ out.length → valL (mulC a B i out k).1 + 256 ^ (i + k) * (mulC a B i out k).2 = valL out + 256 ^ i * (a * valL (B.take k))
  | 0, _ => by simp [mulC, valL]
  | k + 1, hk => by
    have ih := mulC_val a B i out k (by omega)
    have hlen := mulC_len a B i out k
    simp only [mulC]
    generalize mulC a B i out k = m at *
    obtain ⟨o, c⟩ := m
    simp only at *
    have hs := valL_set o (i + k) ((nth o (i + k) + c + a * nth B k) % 256) (by omega)
    have hx := Nat.div_add_mod (nth o (i + k) + c + a * nth B k) 256
    generalize (nth o (i + k) + c + a * nth B k) % 256 = r at *
    generalize (nth o (i + k) + c + a * nth B k) / 256 = q at *
    rw [valL_take_succ]
    have e1 : 256 ^ (i + (k + 1)) * q = 256 ^ (i + k) * (256 * q) := by rw [← Nat.add_assoc, Nat.pow_succ, Nat.mul_assoc]
    have e2 : 256 ^ i * (a * (valL (B.take k) + 256 ^ k * nth B k)) = 256 ^ i * (a * valL (B.take k)) + 256 ^ (i + k) * (a * nth B k) := by
      rw [Nat.mul_add, Nat.mul_add, Nat.pow_add, Nat.mul_assoc (256 ^ i) (256 ^ k), ← Nat.mul_assoc a (256 ^ k), Nat.mul_comm a (256 ^ k), Nat.mul_assoc (256 ^ k) a]
    have e3 : 256 ^ (i + k) * (256 * q + r) = 256 ^ (i + k) * (nth o (i + k) + c + a * nth B k) := by rw [hx]
    rw [Nat.mul_add, Nat.mul_add, Nat.mul_add] at e3
    rw [e1, e2]
    omega

theorem valL_take_lt {L : List Nat} (h : ∀ d ∈ L, d < 256) (i : Nat) : valL (L.take i) < 256 ^ i :=
  Nat.lt_of_lt_of_le (valL_lt _ (fun d hd => h d (List.mem_of_mem_take hd))) (Nat.pow_le_pow_right (by decide) (by simp; omega))

theorem valL_lt_len {L : List Nat} (h : ∀ d ∈ L, d < 256) : valL L < 256 ^ L.length := valL_lt L h

theorem row_total {A B out : List Nat} {i k : Nat} (ho : valL out = valL (A.take i) * valL B) (hl : out.length = A.length + B.length + 1) (hi : i < A.length) (hk : B.length ≤ k) (hk2 : k ≤ B.length + 1) :
    valL (mulC (nth A i) B i out k).1 + 256 ^ (i + k) * (mulC (nth A i) B i out k).2 = valL (A.take (i + 1)) * valL B := by
  have h := mulC_val (nth A i) B i out k (by omega)
  rw [h, List.take_of_length_le hk, ho, valL_take_succ, Nat.add_mul, Nat.mul_assoc]

theorem mul_end {A B out : List Nat} {i : Nat} (hA : ∀ d ∈ A, d < 256) (hB : ∀ d ∈ B, d < 256) (ho : valL out = valL (A.take i) * valL B) (hl : out.length = A.length + B.length + 1) (hi : i < A.length) :
    (mulC (nth A i) B i out (mulK (nth A i) B i out)).2 = 0 := by
  unfold mulK
  split
  · assumption
  · have h := row_total (k := B.length + 1) ho hl hi (by omega) (by omega)
    have h1 := valL_take_lt hA (i + 1)
    have h2 := valL_lt_len hB
    have h3 : valL (A.take (i + 1)) * valL B < 256 ^ (i + 1) * 256 ^ B.length := Nat.mul_lt_mul'' h1 h2
    rw [← Nat.pow_add] at h3
    have e : i + 1 + B.length = i + (B.length + 1) := by omega
    rw [e] at h3
    apply Nat.eq_zero_of_not_pos
    intro hp
    have h4 : 256 ^ (i + (B.length + 1)) * 1 ≤ 256 ^ (i + (B.length + 1)) * (mulC (nth A i) B i out (B.length + 1)).2 := Nat.mul_le_mul_left _ hp
    omega

/-- What stands after i rows. -/
theorem mulO_val {A B : List Nat} (hA : ∀ d ∈ A, d < 256) (hB : ∀ d ∈ B, d < 256) : ∀ i, i ≤ A.length → valL (mulO A B i) = valL (A.take i) * valL B
  | 0, _ => by
    have : ∀ n, valL (List.replicate n 0) = 0 := fun n => by induction n with | zero => rfl | succ n ih => simp [List.replicate_succ, valL, ih]
    simp [mulO, this, valL]
  | i + 1, hi => by
    have ih := mulO_val hA hB i (by omega)
    have hl := mulO_len A B i
    have he := mul_end hA hB ih hl (by omega)
    have hk : B.length ≤ mulK (nth A i) B i (mulO A B i) ∧ mulK (nth A i) B i (mulO A B i) ≤ B.length + 1 := by unfold mulK; split <;> omega
    have ht := row_total ih hl (by omega) hk.1 hk.2
    rw [he, Nat.mul_zero, Nat.add_zero] at ht
    exact ht

theorem timesL_val {A B : List Nat} (hA : ∀ d ∈ A, d < 256) (hB : ∀ d ∈ B, d < 256) : valL (timesL A B) = valL A * valL B := by
  have h := mulO_val hA hB A.length (Nat.le_refl _)
  rw [List.take_length] at h
  exact h
theorem timesL_lt {A B : List Nat} (hA : ∀ d ∈ A, d < 256) (hB : ∀ d ∈ B, d < 256) : ∀ d ∈ timesL A B, d < 256 := mulO_lt hA hB _
theorem timesL_len (A B : List Nat) : (timesL A B).length = A.length + B.length + 1 := mulO_len A B _
end Go.Cab

/- Digits: the rest modulo the modulus. -/
import Derived.Test.YtjkckdiepdbfeaaCabM3
import Derived.Test.YtjkckdiepdbfeaaCabM1
set_option linter.unusedSimpArgs false
set_option linter.unusedVariables false
set_option linter.unusedSectionVars false
namespace Go.Cab

def loD (A : List Nat) (i : Nat) : Nat := if i = 31 then nth A 31 % 128 else nth A i
def hiD (A : List Nat) (j : Nat) : Nat := nth A (31 + j) / 128 + nth A (31 + j + 1) % 128 * 2
def loL (A : List Nat) : List Nat := (List.range 32).map (loD A)
def hiL (A : List Nat) : List Nat := (List.range (A.length - 31)).map (hiD A)
def restStep (A : List Nat) : List Nat := plusL (loL A) (timesL (hiL A) [19])

theorem valL_range_nth (A : List Nat) : ∀ i, valL ((List.range i).map (nth A)) = valL (A.take i)
  | 0 => by simp [valL]
  | i + 1 => by rw [valL_range, valL_take_succ, valL_range_nth A i]

theorem valL_mod128 : ∀ (l : List Nat), valL l % 128 = nth l 0 % 128
  | [] => by simp [valL, nth]
  | d :: l => by simp [valL, nth]; omega

theorem lo_val {A : List Nat} (hA : ∀ d ∈ A, d < 256) : valL (loL A) = valL A % 2 ^ 255 := by
  have h1 : valL (loL A) = valL (A.take 31) + 256 ^ 31 * (nth A 31 % 128) := by
    unfold loL
    rw [valL_range]
    have e : (List.range 31).map (loD A) = (List.range 31).map (nth A) := List.map_congr_left fun i hi => by
      have : i < 31 := by simpa using hi
      unfold loD; rw [if_neg (by omega)]
    rw [e, valL_range_nth]
    rfl
  have h2 := valL_split 31 A
  have h3 := valL_take_lt hA 31
  have h4 := valL_mod128 (A.drop 31)
  have h5 : nth (A.drop 31) 0 = nth A 31 := by simp [nth]
  rw [h5] at h4
  have h6 := Nat.div_add_mod (valL (A.drop 31)) 128
  rw [h4] at h6
  have e1 : (2 : Nat) ^ 255 = 256 ^ 31 * 128 := by decide
  rw [h1, h2, ← h6, e1]
  have hr : nth A 31 % 128 < 128 := Nat.mod_lt _ (by decide)
  generalize nth A 31 % 128 = r at *
  generalize valL (A.drop 31) / 128 = q at *
  generalize valL (A.take 31) = t at *
  have e2 : t + 256 ^ 31 * (128 * q + r) = (t + 256 ^ 31 * r) + (256 ^ 31 * 128) * q := by rw [Nat.mul_add, Nat.mul_assoc]; omega
  rw [e2, Nat.add_mul_mod_self_left]
  have h7 : 256 ^ 31 * r + 256 ^ 31 ≤ 256 ^ 31 * 128 := by rw [← Nat.mul_succ]; exact Nat.mul_le_mul_left _ hr
  exact (Nat.mod_eq_of_lt (by omega)).symm

theorem hi_list : ∀ (D : List Nat), valL ((List.range D.length).map fun j => nth D j / 128 + nth D (j + 1) % 128 * 2) = valL D / 128
  | [] => by simp [valL]
  | d :: l => by
    have ih := hi_list l
    rw [List.length_cons, List.range_succ_eq_map, List.map_cons, List.map_map]
    have e : (List.range l.length).map ((fun j => nth (d :: l) j / 128 + nth (d :: l) (j + 1) % 128 * 2) ∘ Nat.succ) = (List.range l.length).map fun j => nth l j / 128 + nth l (j + 1) % 128 * 2 := List.map_congr_left fun j _ => by simp [nth]
    rw [e, valL, ih, valL]
    have h := valL_mod128 l
    have h0 : nth (d :: l) 0 = d := by simp [nth]
    have h1 : nth (d :: l) (0 + 1) = nth l 0 := by simp [nth]
    rw [h0, h1, ← h]
    omega

theorem hi_val {A : List Nat} (hA : ∀ d ∈ A, d < 256) : valL (hiL A) = valL A / 2 ^ 255 := by
  have h := hi_list (A.drop 31)
  have e : hiL A = (List.range (A.drop 31).length).map fun j => nth (A.drop 31) j / 128 + nth (A.drop 31) (j + 1) % 128 * 2 := by
    unfold hiL
    rw [List.length_drop]
    exact List.map_congr_left fun j _ => by simp [hiD, nth, Nat.add_assoc]
  rw [e, h]
  have h2 := valL_split 31 A
  have h3 := valL_take_lt hA 31
  have e1 : (2 : Nat) ^ 255 = 256 ^ 31 * 128 := by decide
  rw [h2, e1, ← Nat.div_div_eq_div_mul, Nat.add_mul_div_left _ _ (by decide), Nat.div_eq_of_lt h3, Nat.zero_add]

theorem lo_lt {A : List Nat} (hA : ∀ d ∈ A, d < 256) : ∀ d ∈ loL A, d < 256 := by
  intro d hd
  obtain ⟨i, _, rfl⟩ := List.mem_map.1 hd
  unfold loD
  split
  · omega
  · exact nth_lt hA i
theorem hi_lt {A : List Nat} (hA : ∀ d ∈ A, d < 256) : ∀ d ∈ hiL A, d < 256 := by
  intro d hd
  obtain ⟨j, _, rfl⟩ := List.mem_map.1 hd
  have := nth_lt hA (31 + j)
  unfold hiD; omega

theorem restStep_lt (A : List Nat) : ∀ d ∈ restStep A, d < 256 := plusL_lt _ _
theorem nineteen_lt : ∀ d ∈ [19], d < 256 := by intro d hd; simp at hd; omega
theorem restStep_val {A : List Nat} (hA : ∀ d ∈ A, d < 256) : valL (restStep A) = valL A % 2 ^ 255 + valL A / 2 ^ 255 * 19 := by
  unfold restStep
  rw [plusL_val (lo_lt hA) (timesL_lt (hi_lt hA) nineteen_lt), timesL_val (hi_lt hA) nineteen_lt, lo_val hA, hi_val hA]
  rfl
theorem restStep_mod {A : List Nat} (hA : ∀ d ∈ A, d < 256) : valL (restStep A) % pp = valL A % pp := by
  rw [restStep_val hA]
  have h := Nat.div_add_mod (valL A) (2 ^ 255)
  have e : (2 : Nat) ^ 255 = pp + 19 := by decide
  conv => rhs; rw [← h]
  generalize valL A / 2 ^ 255 = q
  generalize valL A % 2 ^ 255 = r
  rw [e, Nat.add_mul]
  have : pp * q + 19 * q + r = (r + q * 19) + pp * q := by omega
  rw [this, Nat.add_mul_mod_self_left]
theorem restStep_less {A : List Nat} (hA : ∀ d ∈ A, d < 256) (h : 2 ^ 255 ≤ valL A) : valL (restStep A) < valL A := by
  rw [restStep_val hA]
  have h1 := Nat.div_add_mod (valL A) (2 ^ 255)
  have h2 : 1 ≤ valL A / 2 ^ 255 := (Nat.one_le_div_iff (by decide)).2 h
  generalize valL A / 2 ^ 255 = q at *
  generalize valL A % 2 ^ 255 = r at *
  omega
theorem restStep_len (A : List Nat) : (restStep A).length ≤ max 32 (A.length - 31 + 2) + 1 := by
  have h := (plusL_len (loL A) (timesL (hiL A) [19])).1
  rw [timesL_len] at h
  simp only [loL, hiL, List.length_map, List.length_range, List.length_cons, List.length_nil] at h
  unfold restStep loL hiL
  omega

/-- Till nothing is high. -/
def restA (A : List Nat) : List Nat := if h : (∀ d ∈ A, d < 256) ∧ 2 ^ 255 ≤ valL A then restA (restStep A) else A
termination_by valL A
decreasing_by exact restStep_less h.1 h.2
end Go.Cab

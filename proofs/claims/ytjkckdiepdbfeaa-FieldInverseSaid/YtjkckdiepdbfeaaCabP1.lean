/- Primes: powers modulo a number, and Pocklington's way. -/
import Derived.ProofKit
set_option linter.unusedSimpArgs false
set_option linter.unusedVariables false
set_option linter.unusedSectionVars false
namespace Go.Cab

/-- A power modulo 'n', by squares: the exponent's bits, the highest first. -/
def pwm (n a : Nat) : Nat → Nat → Nat
  | 0, _ => 1 % n
  | k + 1, e => if e = 0 then 1 % n else if e % 2 = 0 then pwm n (a * a % n) k (e / 2) else a * pwm n (a * a % n) k (e / 2) % n

theorem pwm_eq (n : Nat) : ∀ (k a e : Nat), e < 2 ^ k → pwm n a k e = a ^ e % n
  | 0, a, e, h => by
    have : e = 0 := by omega
    subst this; simp [pwm]
  | k + 1, a, e, h => by
    have hk : e / 2 < 2 ^ k := by rw [Nat.pow_succ] at h; omega
    unfold pwm
    by_cases h0 : e = 0
    · subst h0; simp
    rw [if_neg h0]
    have hp : ∀ m, (a * a % n) ^ m % n = a ^ (2 * m) % n := fun m => by rw [Nat.pow_mul, Nat.pow_two, ← Nat.pow_mod]
    by_cases h2 : e % 2 = 0
    · rw [if_pos h2, pwm_eq n k _ _ hk, hp]
      congr 2; omega
    · rw [if_neg h2, pwm_eq n k _ _ hk, hp]
      have e1 : e = 2 * (e / 2) + 1 := by omega
      conv => rhs; rw [e1, Nat.pow_succ]
      rw [Nat.mul_mod, Nat.mod_mod, ← Nat.mul_mod, Nat.mul_comm]

/-- The least exponent above 0 that gives 1. -/
theorem least_exp {d a n : Nat} (hn : 0 < n) (h : a ^ n % d = 1) : ∃ m, 0 < m ∧ a ^ m % d = 1 ∧ ∀ j, 0 < j → j < m → a ^ j % d ≠ 1 := by
  induction n using Nat.strongRecOn with
  | ind n ih =>
    by_cases hx : ∃ j, 0 < j ∧ j < n ∧ a ^ j % d = 1
    · obtain ⟨j, h1, h2, h3⟩ := hx
      exact ih j h2 h1 h3
    · exact ⟨n, hn, h, fun j h1 h2 h3 => hx ⟨j, h1, h2, h3⟩⟩

theorem exp_dvd {d a m n : Nat} (h1 : a ^ m % d = 1) (hl : ∀ j, 0 < j → j < m → a ^ j % d ≠ 1) (hm : 0 < m) (h : a ^ n % d = 1) : m ∣ n := by
  have e : a ^ n % d = a ^ (n % m) % d := by
    have e1 : n = m * (n / m) + n % m := (Nat.div_add_mod n m).symm
    have hd : 1 % d = 1 := by rw [← h1, Nat.mod_mod]
    have e2 : (a ^ m) ^ (n / m) % d = 1 := by rw [Nat.pow_mod, h1, Nat.one_pow, hd]
    conv => lhs; rw [e1, Nat.pow_add, Nat.pow_mul, Nat.mul_mod, e2, Nat.one_mul, Nat.mod_mod]
  by_cases h0 : n % m = 0
  · exact Nat.dvd_of_mod_eq_zero h0
  · exact absurd (e ▸ h) (hl _ (by omega) (Nat.mod_lt _ hm))

/-- A list of unlike numbers below 'n' has no more than 'n'. -/
theorem card_le : ∀ (n : Nat) (l : List Nat), l.Nodup → (∀ x ∈ l, x < n) → l.length ≤ n
  | 0, l, _, h => by
    cases l with
    | nil => simp
    | cons a l => exact absurd (h a (by simp)) (by omega)
  | n + 1, l, hd, h => by
    have h1 := card_le n (l.erase n) (hd.erase n) (fun x hx => by
      have h2 := (hd.mem_erase_iff).1 hx
      have := h x h2.2
      omega)
    have h3 := List.length_erase (a := n) (l := l)
    split at h3 <;> omega

/-- What divides 'r' by no number but 1 and 'r'. -/
def Pr (r : Nat) : Prop := 1 < r ∧ ∀ d, d ∣ r → d = 1 ∨ d = r

theorem Pr.coprime {r k : Nat} (h : Pr r) (hk : ¬ r ∣ k) : Nat.Coprime r k := by
  rcases h.2 _ (Nat.gcd_dvd_left r k) with h1 | h1
  · exact h1
  · exact absurd (h1 ▸ Nat.gcd_dvd_right r k) hk

/-- A prime that divides N, but not the rest. -/
theorem dvd_order {r m N e : Nat} (hr : Pr r) (hm : m ∣ N) (hn : ¬ m ∣ N / r) (hd : r ^ e ∣ N) (hr1 : r ∣ N) : r ^ e ∣ m := by
  obtain ⟨k, rfl⟩ := hm
  have hk : ¬ r ∣ k := fun ⟨t, ht⟩ => by
    subst ht
    apply hn
    rw [show m * (r * t) = r * (m * t) by rw [Nat.mul_left_comm], Nat.mul_div_cancel_left _ (by have := hr.1; omega)]
    exact Nat.dvd_mul_right _ _
  exact Nat.Coprime.dvd_of_dvd_mul_right (Nat.Coprime.pow_left e (hr.coprime hk)) hd

/-- The powers below the order are unlike. -/
theorem powers_nodup {d a m : Nat} (hd : 1 < d) (h1 : a ^ m % d = 1) (hl : ∀ j, 0 < j → j < m → a ^ j % d ≠ 1) : ((List.range m).map fun i => a ^ i % d).Nodup := by
  rw [List.nodup_iff_pairwise_ne, List.pairwise_map]
  refine List.Pairwise.imp_of_mem ?_ (List.nodup_range (n := m))
  intro i j hi hj hne heq
  have hi' : i < m := by simpa using hi
  have hj' : j < m := by simpa using hj
  -- the lower one, then the rest to m
  have key : ∀ i j, i < j → j < m → a ^ i % d = a ^ j % d → False := by
    intro i j hij hjm h
    have e1 : a ^ (i + (m - j)) % d = 1 := by
      rw [Nat.pow_add, Nat.mul_mod, h, ← Nat.mul_mod, ← Nat.pow_add, show j + (m - j) = m by omega]; exact h1
    exact hl _ (by omega) (by omega) e1
  rcases Nat.lt_or_gt_of_ne hne with h | h
  · exact key i j h hj' heq
  · exact key j i h hi' heq.symm

theorem power_pos {d a m i : Nat} (hd : 1 < d) (h1 : a ^ m % d = 1) (hi : i < m) : a ^ i % d ≠ 0 := fun h => by
  have e1 : a ^ m % d = 0 := by
    rw [show m = i + (m - i) by omega, Nat.pow_add, Nat.mul_mod, h, Nat.zero_mul, Nat.zero_mod]
  omega

/-- The order is below the modulus. -/
theorem order_lt {d a m : Nat} (hd : 1 < d) (h1 : a ^ m % d = 1) (hl : ∀ j, 0 < j → j < m → a ^ j % d ≠ 1) : m < d := by
  have h2 := card_le d (0 :: (List.range m).map fun i => a ^ i % d) (List.nodup_cons.2 ⟨fun h => by
    obtain ⟨i, hi, e⟩ := List.mem_map.1 h
    exact power_pos hd h1 (by simpa using hi) e, powers_nodup hd h1 hl⟩) (fun x hx => by
    rcases List.mem_cons.1 hx with rfl | hx
    · omega
    · obtain ⟨i, _, rfl⟩ := List.mem_map.1 hx; exact Nat.mod_lt _ (by omega))
  simp at h2
  omega

/-- What a witness for one prime says: of each divisor, the order is a multiple of that prime. -/
def Wit (N a r : Nat) : Prop := Pr r ∧ r ∣ N - 1 ∧ Nat.gcd (pwm N a 256 ((N - 1) / r) + N - 1) N = 1

theorem wit_dvd {N a r d m : Nat} (hN : 1 < N) (hN2 : N < 2 ^ 256) (hd : d ∣ N) (hd1 : 1 < d) (hw : Wit N a r) (h1 : a ^ m % d = 1) (hm : m ∣ N - 1) : r ∣ m := by
  obtain ⟨hr, hrd, hg⟩ := hw
  have hlt : (N - 1) / r < 2 ^ 256 := Nat.lt_of_le_of_lt (Nat.div_le_self _ _) (by omega)
  rw [pwm_eq N 256 _ _ hlt] at hg
  have h := dvd_order (e := 1) hr hm (fun ⟨t, ht⟩ => ?_) (by simpa using hrd) hrd
  · simpa using h
  · have e1 : a ^ ((N - 1) / r) % d = 1 := by
      have hd0 : 1 % d = 1 := Nat.mod_eq_of_lt hd1
      rw [ht, Nat.pow_mul, Nat.pow_mod, h1, Nat.one_pow, hd0]
    have e2 : a ^ ((N - 1) / r) % N % d = 1 := by rw [Nat.mod_mod_of_dvd _ hd]; exact e1
    have e3 : d ∣ a ^ ((N - 1) / r) % N + N - 1 := by
      obtain ⟨t, rfl⟩ := hd
      generalize a ^ ((d * t - 1) / r) % (d * t) = x at *
      have hx : x = d * (x / d) + 1 := by have := Nat.div_add_mod x d; omega
      refine ⟨x / d + t, ?_⟩
      rw [Nat.mul_add]; omega
    have e4 := Nat.dvd_gcd e3 hd
    rw [hg] at e4
    have := Nat.le_of_dvd (by decide) e4
    omega

/-- Pocklington's way, with two primes. -/
theorem pock2 {N : Nat} (a r s : Nat) (hN : 1 < N) (hN2 : N < 2 ^ 256) (h1 : pwm N a 256 (N - 1) = 1) (hr : Wit N a r) (hs : Wit N a s) (hrs : r ≠ s) (hF : N < (r * s) * (r * s)) : Pr N := by
  have hord : ∀ d, d ∣ N → 1 < d → r * s < d := by
    intro d hd hd1
    rw [pwm_eq N 256 _ _ (by omega)] at h1
    have e1 : a ^ (N - 1) % d = 1 := by
      rw [← Nat.mod_mod_of_dvd _ hd, h1]; exact Nat.mod_eq_of_lt hd1
    obtain ⟨m, hm0, hm1, hml⟩ := least_exp (by omega) e1
    have hmd := exp_dvd hm1 hml hm0 e1
    have q1 := wit_dvd hN hN2 hd hd1 hr hm1 hmd
    have q2 := wit_dvd hN hN2 hd hd1 hs hm1 hmd
    have hc : Nat.Coprime r s := hr.1.coprime fun hx => by
      rcases hs.1.2 r hx with h | h
      · have := hr.1.1; omega
      · exact hrs h
    have q3 : r * s ∣ m := Nat.Coprime.mul_dvd_of_dvd_of_dvd hc q1 q2
    have := Nat.le_of_dvd hm0 q3
    have := order_lt hd1 hm1 hml
    omega
  refine ⟨hN, fun d hd => ?_⟩
  have hd0 : 0 < d := Nat.pos_of_dvd_of_pos hd (by omega)
  by_cases h2 : d = 1
  · exact .inl h2
  obtain ⟨t, ht⟩ := hd
  by_cases h3 : t = 1
  · exact .inr (by rw [ht, h3, Nat.mul_one])
  have ht0 : 0 < t := by
    rcases Nat.eq_zero_or_pos t with h | h
    · rw [h] at ht; omega
    · exact h
  have a1 := hord d ⟨t, ht⟩ (by omega)
  have a2 := hord t ⟨d, by rw [ht, Nat.mul_comm]⟩ (by omega)
  have := Nat.mul_lt_mul'' a1 a2
  omega

/-- .. with one. -/
theorem pock1 {N : Nat} (a r : Nat) (hN : 1 < N) (hN2 : N < 2 ^ 256) (h1 : pwm N a 256 (N - 1) = 1) (hr : Wit N a r) (hF : N < r * r) : Pr N := by
  have hord : ∀ d, d ∣ N → 1 < d → r < d := by
    intro d hd hd1
    rw [pwm_eq N 256 _ _ (by omega)] at h1
    have e1 : a ^ (N - 1) % d = 1 := by
      rw [← Nat.mod_mod_of_dvd _ hd, h1]; exact Nat.mod_eq_of_lt hd1
    obtain ⟨m, hm0, hm1, hml⟩ := least_exp (by omega) e1
    have hmd := exp_dvd hm1 hml hm0 e1
    have q1 := wit_dvd hN hN2 hd hd1 hr hm1 hmd
    have := Nat.le_of_dvd hm0 q1
    have := order_lt hd1 hm1 hml
    omega
  refine ⟨hN, fun d hd => ?_⟩
  have hd0 : 0 < d := Nat.pos_of_dvd_of_pos hd (by omega)
  by_cases h2 : d = 1
  · exact .inl h2
  obtain ⟨t, ht⟩ := hd
  by_cases h3 : t = 1
  · exact .inr (by rw [ht, h3, Nat.mul_one])
  have ht0 : 0 < t := by
    rcases Nat.eq_zero_or_pos t with h | h
    · rw [h] at ht; omega
    · exact h
  have a1 := hord d ⟨t, ht⟩ (by omega)
  have a2 := hord t ⟨d, by rw [ht, Nat.mul_comm]⟩ (by omega)
  have := Nat.mul_lt_mul'' a1 a2
  omega

/-- Small ones: no divisor up to the root. -/
def noDiv (n : Nat) : Nat → Nat → Bool
  | 0, _ => true
  | k + 1, d => (n % d != 0) && noDiv n k (d + 1)
theorem noDiv_eq {n : Nat} : ∀ {k d : Nat}, noDiv n k d = true → ∀ x, d ≤ x → x < d + k → ¬ x ∣ n
  | 0, d, _, x, h1, h2 => by omega
  | k + 1, d, h, x, h1, h2 => by
    simp only [noDiv, Bool.and_eq_true, bne_iff_ne] at h
    by_cases hx : x = d
    · subst hx; exact fun hd => h.1 (Nat.mod_eq_zero_of_dvd hd)
    · exact noDiv_eq h.2 x (by omega) (by omega)
theorem small_pr {n : Nat} (k : Nat) (h1 : 1 < n) (hk : n < (k + 2) * (k + 2)) (h : noDiv n k 2 = true) : Pr n := by
  have key : ∀ x, x ∣ n → 1 < x → k + 2 ≤ x := fun x hx h1 => by
    rcases Nat.lt_or_ge x (k + 2) with h2 | h2
    · exact absurd hx (noDiv_eq h x (by omega) (by omega))
    · exact h2
  refine ⟨h1, fun d hd => ?_⟩
  have hd0 : 0 < d := Nat.pos_of_dvd_of_pos hd (by omega)
  by_cases h2 : d = 1
  · exact .inl h2
  obtain ⟨t, ht⟩ := hd
  by_cases h3 : t = 1
  · exact .inr (by rw [ht, h3, Nat.mul_one])
  have ht0 : 0 < t := by
    rcases Nat.eq_zero_or_pos t with h | h
    · rw [h] at ht; omega
    · exact h
  have a1 := key d ⟨t, ht⟩ (by omega)
  have a2 := key t ⟨d, by rw [ht, Nat.mul_comm]⟩ (by omega)
  have := Nat.mul_le_mul a1 a2
  omega

theorem pr103 : Pr 103 := small_pr 9 (by decide) (by decide) (by decide)
theorem pr127 : Pr 127 := small_pr 10 (by decide) (by decide) (by decide)
theorem pr991 : Pr 991 := small_pr 30 (by decide) (by decide) (by decide)
theorem pr4153 : Pr 4153 := small_pr 63 (by decide) (by decide) (by kernel_rfl)
theorem pr430751 : Pr 430751 := small_pr 655 (by decide) (by decide) (by kernel_rfl)
theorem pr569003 : Pr 569003 := small_pr 753 (by decide) (by decide) (by kernel_rfl)
theorem pr8574133 : Pr 8574133 := pock2 (N := 8574133) 2 991 103 (by decide) (by decide) (by kernel_rfl) ⟨pr991, by decide, by kernel_rfl⟩ ⟨pr103, by decide, by kernel_rfl⟩ (by decide) (by decide)
theorem pr2773320623 : Pr 2773320623 := pock1 (N := 2773320623) 2 569003 (by decide) (by decide) (by kernel_rfl) ⟨pr569003, by decide, by kernel_rfl⟩ (by decide)
theorem pr72106336199 : Pr 72106336199 := pock1 (N := 72106336199) 2 2773320623 (by decide) (by decide) (by kernel_rfl) ⟨pr2773320623, by decide, by kernel_rfl⟩ (by decide)
theorem pr1919519569386763 : Pr 1919519569386763 := pock2 (N := 1919519569386763) 2 8574133 127 (by decide) (by decide) (by kernel_rfl) ⟨pr8574133, by decide, by kernel_rfl⟩ ⟨pr127, by decide, by kernel_rfl⟩ (by decide) (by decide)
theorem pr31757755568855353 : Pr 31757755568855353 := pock2 (N := 31757755568855353) 2 430751 4153 (by decide) (by decide) (by kernel_rfl) ⟨pr430751, by decide, by kernel_rfl⟩ ⟨pr4153, by decide, by kernel_rfl⟩ (by decide) (by decide)
theorem pr7544 : Pr 75445702479781427272750846543864801 := pock2 (N := 75445702479781427272750846543864801) 2 1919519569386763 72106336199 (by decide) (by decide) (by kernel_rfl) ⟨pr1919519569386763, by decide, by kernel_rfl⟩ ⟨pr72106336199, by decide, by kernel_rfl⟩ (by decide) (by decide)
theorem pr7405 : Pr 74058212732561358302231226437062788676166966415465897661863160754340907 := pock2 (N := 74058212732561358302231226437062788676166966415465897661863160754340907) 2 75445702479781427272750846543864801 31757755568855353 (by decide) (by decide) (by kernel_rfl) ⟨pr7544, by decide, by kernel_rfl⟩ ⟨pr31757755568855353, by decide, by kernel_rfl⟩ (by decide) (by decide)
end Go.Cab

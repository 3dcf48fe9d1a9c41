/- Part 12 of what the proof stands on: P1, P2, N1, L1. -/
import Derived.ProofKit
import Derived.Test.YtmiampioooejdaaCab04
import Derived.Test.YtmiampioooejdaaCab10
import Derived.Test.YtmiampioooejdaaCab11
set_option linter.unusedSimpArgs false
set_option linter.unusedVariables false
set_option linter.unusedSectionVars false
/- Primes: powers modulo a number, and Pocklington's way. -/
namespace Go.Cab

/-- A power modulo 'n', by squares: the exponent's bits, the highest first. -/
def pwm (n a : Nat) : Nat → Nat → Nat
  | 0, _ => 1 % n
  | k + 1, e => if e = 0 then 1 % n else if e % 2 = 0 then pwm n (a * a % n) k (e / 2) else a * pwm n (a * a % n) k (e / 2) % n

theorem pwm_eq (n : Nat) : ∀ (k a e : Nat), e < 2 ^ k → pwm n a k e = a ^ e % n
  | 0, a, e, h => by
    have : e = 0 := by omega
    subst this; simp [pwm]
  | k + 1, a, e, h => by
    have hk : e / 2 < 2 ^ k := by rw [Nat.pow_succ] at h; omega
    unfold pwm
    by_cases h0 : e = 0
    · subst h0; simp
    rw [if_neg h0]
    have hp : ∀ m, (a * a % n) ^ m % n = a ^ (2 * m) % n := fun m => by rw [Nat.pow_mul, Nat.pow_two, ← Nat.pow_mod]
    by_cases h2 : e % 2 = 0
    · rw [if_pos h2, pwm_eq n k _ _ hk, hp]
      congr 2; omega
    · rw [if_neg h2, pwm_eq n k _ _ hk, hp]
      have e1 : e = 2 * (e / 2) + 1 := by omega
      conv => rhs; rw [e1, Nat.pow_succ]
      rw [Nat.mul_mod, Nat.mod_mod, ← Nat.mul_mod, Nat.mul_comm]

/-- The least exponent above 0 that gives 1. -/
theorem least_exp {d a n : Nat} (hn : 0 < n) (h : a ^ n % d = 1) : ∃ m, 0 < m ∧ a ^ m % d = 1 ∧ ∀ j, 0 < j → j < m → a ^ j % d ≠ 1 := by
  induction n using Nat.strongRecOn with
  | ind n ih =>
    by_cases hx : ∃ j, 0 < j ∧ j < n ∧ a ^ j % d = 1
    · obtain ⟨j, h1, h2, h3⟩ := hx
      exact ih j h2 h1 h3
    · exact ⟨n, hn, h, fun j h1 h2 h3 => hx ⟨j, h1, h2, h3⟩⟩

theorem exp_dvd {d a m n : Nat} (h1 : a ^ m % d = 1) (hl : ∀ j, 0 < j → j < m → a ^ j % d ≠ 1) (hm : 0 < m) (h : a ^ n % d = 1) : m ∣ n := by
  have e : a ^ n % d = a ^ (n % m) % d := by
    have e1 : n = m * (n / m) + n % m := (Nat.div_add_mod n m).symm
    have hd : 1 % d = 1 := by rw [← h1, Nat.mod_mod]
    have e2 : (a ^ m) ^ (n / m) % d = 1 := by rw [Nat.pow_mod, h1, Nat.one_pow, hd]
    conv => lhs; rw [e1, Nat.pow_add, Nat.pow_mul, Nat.mul_mod, e2, Nat.one_mul, Nat.mod_mod]
  by_cases h0 : n % m = 0
  · exact Nat.dvd_of_mod_eq_zero h0
  · exact absurd (e ▸ h) (hl _ (by omega) (Nat.mod_lt _ hm))

/-- A list of unlike numbers below 'n' has no more than 'n'. -/
theorem card_le : ∀ (n : Nat) (l : List Nat), l.Nodup → (∀ x ∈ l, x < n) → l.length ≤ n
  | 0, l, _, h => by
    cases l with
    | nil => simp
    | cons a l => exact absurd (h a (by simp)) (by omega)
  | n + 1, l, hd, h => by
    have h1 := card_le n (l.erase n) (hd.erase n) (fun x hx => by
      have h2 := (hd.mem_erase_iff).1 hx
      have := h x h2.2
      omega)
    have h3 := List.length_erase (a := n) (l := l)
    split at h3 <;> omega

/-- What divides 'r' by no number but 1 and 'r'. -/
def Pr (r : Nat) : Prop := 1 < r ∧ ∀ d, d ∣ r → d = 1 ∨ d = r

theorem Pr.coprime {r k : Nat} (h : Pr r) (hk : ¬ r ∣ k) : Nat.Coprime r k := by
  rcases h.2 _ (Nat.gcd_dvd_left r k) with h1 | h1
  · exact h1
  · exact absurd (h1 ▸ Nat.gcd_dvd_right r k) hk

/-- A prime that divides N, but not the rest. -/
theorem dvd_order {r m N e : Nat} (hr : Pr r) (hm : m ∣ N) (hn : ¬ m ∣ N / r) (hd : r ^ e ∣ N) (hr1 : r ∣ N) : r ^ e ∣ m := by
  obtain ⟨k, rfl⟩ := hm
  have hk : ¬ r ∣ k := fun ⟨t, ht⟩ => by
    subst ht
    apply hn
    rw [show m * (r * t) = r * (m * t) by rw [Nat.mul_left_comm], Nat.mul_div_cancel_left _ (by have := hr.1; omega)]
    exact Nat.dvd_mul_right _ _
  exact Nat.Coprime.dvd_of_dvd_mul_right (Nat.Coprime.pow_left e (hr.coprime hk)) hd

/-- The powers below the order are unlike. -/
theorem powers_nodup {d a m : Nat} (hd : 1 < d) (h1 : a ^ m % d = 1) (hl : ∀ j, 0 < j → j < m → a ^ j % d ≠ 1) : ((List.range m).map fun i => a ^ i % d).Nodup := by
  rw [List.nodup_iff_pairwise_ne, List.pairwise_map]
  refine List.Pairwise.imp_of_mem ?_ (List.nodup_range (n := m))
  intro i j hi hj hne heq
  have hi' : i < m := by simpa using hi
  have hj' : j < m := by simpa using hj
  -- the lower one, then the rest to m
  have key : ∀ i j, i < j → j < m → a ^ i % d = a ^ j % d → False := by
    intro i j hij hjm h
    have e1 : a ^ (i + (m - j)) % d = 1 := by
      rw [Nat.pow_add, Nat.mul_mod, h, ← Nat.mul_mod, ← Nat.pow_add, show j + (m - j) = m by omega]; exact h1
    exact hl _ (by omega) (by omega) e1
  rcases Nat.lt_or_gt_of_ne hne with h | h
  · exact key i j h hj' heq
  · exact key j i h hi' heq.symm

theorem power_pos {d a m i : Nat} (hd : 1 < d) (h1 : a ^ m % d = 1) (hi : i < m) : a ^ i % d ≠ 0 := fun h => by
  have e1 : a ^ m % d = 0 := by
    rw [show m = i + (m - i) by omega, Nat.pow_add, Nat.mul_mod, h, Nat.zero_mul, Nat.zero_mod]
  omega

/-- The order is below the modulus. -/
theorem order_lt {d a m : Nat} (hd : 1 < d) (h1 : a ^ m % d = 1) (hl : ∀ j, 0 < j → j < m → a ^ j % d ≠ 1) : m < d := by
  have h2 := card_le d (0 :: (List.range m).map fun i => a ^ i % d) (List.nodup_cons.2 ⟨fun h => by
    obtain ⟨i, hi, e⟩ := List.mem_map.1 h
    exact power_pos hd h1 (by simpa using hi) e, powers_nodup hd h1 hl⟩) (fun x hx => by
    rcases List.mem_cons.1 hx with rfl | hx
    · omega
    · obtain ⟨i, _, rfl⟩ := List.mem_map.1 hx; exact Nat.mod_lt _ (by omega))
  simp at h2
  omega

/-- What a witness for one prime says: of each divisor, the order is a multiple of that prime. -/
def Wit (N a r : Nat) : Prop := Pr r ∧ r ∣ N - 1 ∧ Nat.gcd (pwm N a 256 ((N - 1) / r) + N - 1) N = 1

theorem wit_dvd {N a r d m : Nat} (hN : 1 < N) (hN2 : N < 2 ^ 256) (hd : d ∣ N) (hd1 : 1 < d) (hw : Wit N a r) (h1 : a ^ m % d = 1) (hm : m ∣ N - 1) : r ∣ m := by
  obtain ⟨hr, hrd, hg⟩ := hw
  have hlt : (N - 1) / r < 2 ^ 256 := Nat.lt_of_le_of_lt (Nat.div_le_self _ _) (by omega)
  rw [pwm_eq N 256 _ _ hlt] at hg
  have h := dvd_order (e := 1) hr hm (fun ⟨t, ht⟩ => ?_) (by simpa using hrd) hrd
  · simpa using h
  · have e1 : a ^ ((N - 1) / r) % d = 1 := by
      have hd0 : 1 % d = 1 := Nat.mod_eq_of_lt hd1
      rw [ht, Nat.pow_mul, Nat.pow_mod, h1, Nat.one_pow, hd0]
    have e2 : a ^ ((N - 1) / r) % N % d = 1 := by rw [Nat.mod_mod_of_dvd _ hd]; exact e1
    have e3 : d ∣ a ^ ((N - 1) / r) % N + N - 1 := by
      obtain ⟨t, rfl⟩ := hd
      generalize a ^ ((d * t - 1) / r) % (d * t) = x at *
      have hx : x = d * (x / d) + 1 := by have := Nat.div_add_mod x d; omega
      refine ⟨x / d + t, ?_⟩
      rw [Nat.mul_add]; omega
    have e4 := Nat.dvd_gcd e3 hd
    rw [hg] at e4
    have := Nat.le_of_dvd (by decide) e4
    omega

/-- Pocklington's way, with two primes. -/
theorem pock2 {N : Nat} (a r s : Nat) (hN : 1 < N) (hN2 : N < 2 ^ 256) (h1 : pwm N a 256 (N - 1) = 1) (hr : Wit N a r) (hs : Wit N a s) (hrs : r ≠ s) (hF : N < (r * s) * (r * s)) : Pr N := by
  have hord : ∀ d, d ∣ N → 1 < d → r * s < d := by
    intro d hd hd1
    rw [pwm_eq N 256 _ _ (by omega)] at h1
    have e1 : a ^ (N - 1) % d = 1 := by
      rw [← Nat.mod_mod_of_dvd _ hd, h1]; exact Nat.mod_eq_of_lt hd1
    obtain ⟨m, hm0, hm1, hml⟩ := least_exp (by omega) e1
    have hmd := exp_dvd hm1 hml hm0 e1
    have q1 := wit_dvd hN hN2 hd hd1 hr hm1 hmd
    have q2 := wit_dvd hN hN2 hd hd1 hs hm1 hmd
    have hc : Nat.Coprime r s := hr.1.coprime fun hx => by
      rcases hs.1.2 r hx with h | h
      · have := hr.1.1; omega
      · exact hrs h
    have q3 : r * s ∣ m := Nat.Coprime.mul_dvd_of_dvd_of_dvd hc q1 q2
    have := Nat.le_of_dvd hm0 q3
    have := order_lt hd1 hm1 hml
    omega
  refine ⟨hN, fun d hd => ?_⟩
  have hd0 : 0 < d := Nat.pos_of_dvd_of_pos hd (by omega)
  by_cases h2 : d = 1
  · exact .inl h2
  obtain ⟨t, ht⟩ := hd
  by_cases h3 : t = 1
  · exact .inr (by rw [ht, h3, Nat.mul_one])
  have ht0 : 0 < t := by
    rcases Nat.eq_zero_or_pos t with h | h
    · rw [h] at ht; omega
    · exact h
  have a1 := hord d ⟨t, ht⟩ (by omega)
  have a2 := hord t ⟨d, by rw [ht, Nat.mul_comm]⟩ (by omega)
  have := Nat.mul_lt_mul'' a1 a2
  omega

/-- .. with one. -/
theorem pock1 {N : Nat} (a r : Nat) (hN : 1 < N) (hN2 : N < 2 ^ 256) (h1 : pwm N a 256 (N - 1) = 1) (hr : Wit N a r) (hF : N < r * r) : Pr N := by
  have hord : ∀ d, d ∣ N → 1 < d → r < d := by
    intro d hd hd1
    rw [pwm_eq N 256 _ _ (by omega)] at h1
    have e1 : a ^ (N - 1) % d = 1 := by
      rw [← Nat.mod_mod_of_dvd _ hd, h1]; exact Nat.mod_eq_of_lt hd1
    obtain ⟨m, hm0, hm1, hml⟩ := least_exp (by omega) e1
    have hmd := exp_dvd hm1 hml hm0 e1
    have q1 := wit_dvd hN hN2 hd hd1 hr hm1 hmd
    have := Nat.le_of_dvd hm0 q1
    have := order_lt hd1 hm1 hml
    omega
  refine ⟨hN, fun d hd => ?_⟩
  have hd0 : 0 < d := Nat.pos_of_dvd_of_pos hd (by omega)
  by_cases h2 : d = 1
  · exact .inl h2
  obtain ⟨t, ht⟩ := hd
  by_cases h3 : t = 1
  · exact .inr (by rw [ht, h3, Nat.mul_one])
  have ht0 : 0 < t := by
    rcases Nat.eq_zero_or_pos t with h | h
    · rw [h] at ht; omega
    · exact h
  have a1 := hord d ⟨t, ht⟩ (by omega)
  have a2 := hord t ⟨d, by rw [ht, Nat.mul_comm]⟩ (by omega)
  have := Nat.mul_lt_mul'' a1 a2
  omega

/-- Small ones: no divisor up to the root. -/
def noDiv (n : Nat) : Nat → Nat → Bool
  | 0, _ => true
  | k + 1, d => (n % d != 0) && noDiv n k (d + 1)
theorem noDiv_eq {n : Nat} : ∀ {k d : Nat}, noDiv n k d = true → ∀ x, d ≤ x → x < d + k → ¬ x ∣ n
  | 0, d, _, x, h1, h2 => by omega
  | k + 1, d, h, x, h1, h2 => by
    simp only [noDiv, Bool.and_eq_true, bne_iff_ne] at h
    by_cases hx : x = d
    · subst hx; exact fun hd => h.1 (Nat.mod_eq_zero_of_dvd hd)
    · exact noDiv_eq h.2 x (by omega) (by omega)
theorem small_pr {n : Nat} (k : Nat) (h1 : 1 < n) (hk : n < (k + 2) * (k + 2)) (h : noDiv n k 2 = true) : Pr n := by
  have key : ∀ x, x ∣ n → 1 < x → k + 2 ≤ x := fun x hx h1 => by
    rcases Nat.lt_or_ge x (k + 2) with h2 | h2
    · exact absurd hx (noDiv_eq h x (by omega) (by omega))
    · exact h2
  refine ⟨h1, fun d hd => ?_⟩
  have hd0 : 0 < d := Nat.pos_of_dvd_of_pos hd (by omega)
  by_cases h2 : d = 1
  · exact .inl h2
  obtain ⟨t, ht⟩ := hd
  by_cases h3 : t = 1
  · exact .inr (by rw [ht, h3, Nat.mul_one])
  have ht0 : 0 < t := by
    rcases Nat.eq_zero_or_pos t with h | h
    · rw [h] at ht; omega
    · exact h
  have a1 := key d ⟨t, ht⟩ (by omega)
  have a2 := key t ⟨d, by rw [ht, Nat.mul_comm]⟩ (by omega)
  have := Nat.mul_le_mul a1 a2
  omega

theorem pr103 : Pr 103 := small_pr 9 (by decide) (by decide) (by decide)
theorem pr127 : Pr 127 := small_pr 10 (by decide) (by decide) (by decide)
theorem pr991 : Pr 991 := small_pr 30 (by decide) (by decide) (by decide)
theorem pr4153 : Pr 4153 := small_pr 63 (by decide) (by decide) (by kernel_rfl)
theorem pr430751 : Pr 430751 := small_pr 655 (by decide) (by decide) (by kernel_rfl)
theorem pr569003 : Pr 569003 := small_pr 753 (by decide) (by decide) (by kernel_rfl)
theorem pr8574133 : Pr 8574133 := pock2 (N := 8574133) 2 991 103 (by decide) (by decide) (by kernel_rfl) ⟨pr991, by decide, by kernel_rfl⟩ ⟨pr103, by decide, by kernel_rfl⟩ (by decide) (by decide)
theorem pr2773320623 : Pr 2773320623 := pock1 (N := 2773320623) 2 569003 (by decide) (by decide) (by kernel_rfl) ⟨pr569003, by decide, by kernel_rfl⟩ (by decide)
theorem pr72106336199 : Pr 72106336199 := pock1 (N := 72106336199) 2 2773320623 (by decide) (by decide) (by kernel_rfl) ⟨pr2773320623, by decide, by kernel_rfl⟩ (by decide)
theorem pr1919519569386763 : Pr 1919519569386763 := pock2 (N := 1919519569386763) 2 8574133 127 (by decide) (by decide) (by kernel_rfl) ⟨pr8574133, by decide, by kernel_rfl⟩ ⟨pr127, by decide, by kernel_rfl⟩ (by decide) (by decide)
theorem pr31757755568855353 : Pr 31757755568855353 := pock2 (N := 31757755568855353) 2 430751 4153 (by decide) (by decide) (by kernel_rfl) ⟨pr430751, by decide, by kernel_rfl⟩ ⟨pr4153, by decide, by kernel_rfl⟩ (by decide) (by decide)
theorem pr7544 : Pr 75445702479781427272750846543864801 := pock2 (N := 75445702479781427272750846543864801) 2 1919519569386763 72106336199 (by decide) (by decide) (by kernel_rfl) ⟨pr1919519569386763, by decide, by kernel_rfl⟩ ⟨pr72106336199, by decide, by kernel_rfl⟩ (by decide) (by decide)
theorem pr7405 : Pr 74058212732561358302231226437062788676166966415465897661863160754340907 := pock2 (N := 74058212732561358302231226437062788676166966415465897661863160754340907) 2 75445702479781427272750846543864801 31757755568855353 (by decide) (by decide) (by kernel_rfl) ⟨pr7544, by decide, by kernel_rfl⟩ ⟨pr31757755568855353, by decide, by kernel_rfl⟩ (by decide) (by decide)
end Go.Cab

/- Powers modulo the modulus: what isn't 0, to the power of the modulus less 1, is 1. -/
namespace Go.Cab

theorem fermat_gen {p g a : Nat} (hp : 1 < p) (h1 : g ^ (p - 1) % p = 1) (hl : ∀ j, 0 < j → j < p - 1 → g ^ j % p ≠ 1) (ha : a % p ≠ 0) : a ^ (p - 1) % p = 1 := by
  have hd0 : 1 % p = 1 := Nat.mod_eq_of_lt hp
  have hmem : a % p ∈ (List.range (p - 1)).map fun i => g ^ i % p := by
    refine Classical.byContradiction fun hx => ?_
    have h2 := card_le p (0 :: a % p :: (List.range (p - 1)).map fun i => g ^ i % p) (List.nodup_cons.2 ⟨fun h => by
      rcases List.mem_cons.1 h with h | h
      · exact ha h.symm
      · obtain ⟨i, hi, e⟩ := List.mem_map.1 h
        exact power_pos hp h1 (by simpa using hi) e, List.nodup_cons.2 ⟨hx, powers_nodup hp h1 hl⟩⟩) (fun x hx => by
      rcases List.mem_cons.1 hx with rfl | hx
      · omega
      · rcases List.mem_cons.1 hx with rfl | hx
        · exact Nat.mod_lt _ (by omega)
        · obtain ⟨i, _, rfl⟩ := List.mem_map.1 hx; exact Nat.mod_lt _ (by omega))
    simp only [List.length_cons, List.length_map, List.length_range] at h2
    omega
  obtain ⟨i, _, e⟩ := List.mem_map.1 hmem
  rw [Nat.pow_mod, ← e, ← Nat.pow_mod, ← Nat.pow_mul, Nat.mul_comm, Nat.pow_mul, Nat.pow_mod, h1, Nat.one_pow, hd0]

theorem pr2 : Pr 2 := small_pr 0 (by decide) (by decide) (by decide)
theorem pr3 : Pr 3 := small_pr 0 (by decide) (by decide) (by decide)
theorem pr65147 : Pr 65147 := small_pr 254 (by decide) (by decide) (by kernel_rfl)

/-- A prime whose share the order has. -/
theorem share {g m r e N p : Nat} (hp : 1 < p) (hp2 : N / r < 2 ^ 256) (hr : Pr r) (h1 : g ^ m % p = 1) (hm : m ∣ N) (hd : r ^ e ∣ N) (hr1 : r ∣ N) (hne : pwm p g 256 (N / r) ≠ 1) : r ^ e ∣ m := by
  refine dvd_order hr hm (fun ⟨t, ht⟩ => hne ?_) hd hr1
  rw [pwm_eq p 256 _ _ hp2, ht, Nat.pow_mul, Nat.pow_mod, h1, Nat.one_pow]
  exact Nat.mod_eq_of_lt hp

theorem two_order : ∀ j, 0 < j → j < pp - 1 → 2 ^ j % pp ≠ 1 := by
  have hp : 1 < pp := by decide
  have e1 : 2 ^ (pp - 1) % pp = 1 := by
    rw [← pwm_eq pp 256 2 (pp - 1) (by decide)]; kernel_rfl
  obtain ⟨m, hm0, hm1, hml⟩ := least_exp (by decide) e1
  have hmd := exp_dvd hm1 hml hm0 e1
  have s1 := share (e := 2) hp (by decide) pr2 hm1 hmd (by decide) (by decide) (fun h => absurd (show (pwm pp 2 256 ((pp - 1) / 2) == 1) = false by kernel_rfl) (by rw [h]; decide))
  have s2 := share (e := 1) hp (by decide) pr3 hm1 hmd (by decide) (by decide) (fun h => absurd (show (pwm pp 2 256 ((pp - 1) / 3) == 1) = false by kernel_rfl) (by rw [h]; decide))
  have s3 := share (e := 1) hp (by decide) pr65147 hm1 hmd (by decide) (by decide) (fun h => absurd (show (pwm pp 2 256 ((pp - 1) / 65147) == 1) = false by kernel_rfl) (by rw [h]; decide))
  have s4 := share (e := 1) hp (by decide) pr7405 hm1 hmd (by decide) (by decide) (fun h => absurd (show (pwm pp 2 256 ((pp - 1) / 74058212732561358302231226437062788676166966415465897661863160754340907) == 1) = false by kernel_rfl) (by rw [h]; decide))
  have t1 := Nat.Coprime.mul_dvd_of_dvd_of_dvd (by decide) s1 s2
  have t2 := Nat.Coprime.mul_dvd_of_dvd_of_dvd (by decide) t1 s3
  have t3 := Nat.Coprime.mul_dvd_of_dvd_of_dvd (by decide) t2 s4
  have e2 : 2 ^ 2 * 3 ^ 1 * 65147 ^ 1 * 74058212732561358302231226437062788676166966415465897661863160754340907 ^ 1 = pp - 1 := by decide
  rw [e2] at t3
  have : m = pp - 1 := Nat.dvd_antisymm hmd t3
  rw [← this]
  exact hml

/-- What isn't 0. -/
theorem fermat {a : Nat} (ha : a % pp ≠ 0) : a ^ (pp - 1) % pp = 1 :=
  fermat_gen (by decide) (by rw [← pwm_eq pp 256 2 (pp - 1) (by decide)]; kernel_rfl) two_order ha

end Go.Cab

/- Field: the inverse. -/
namespace Go.Cab
def fb32 : AC := (.seq (.reg [⟨(.some 1), .none, (.box 5 (.tmp 0)), [], .none⟩, ⟨(.some 2), .none, (.alloc 5 (.st [5] [(.arr 1 (List.replicate 5 (.lit (un 0))))])), [], .none⟩]) (.seq (.reg [⟨(.some 5), .none, (.call 13 [(.const (wn 1))]), [], .none⟩, ⟨(.some 3), .none, (.alloc 5 (.st [5] [(.arr 1 (List.replicate 5 (.lit (un 0))))])), [], .none⟩, ⟨.none, .none, (.store 5 (.tmp 3) (.tmp 5)), [], .none⟩]) (.seq (.reg [⟨(.some 6), .none, (.load .true 5 (.tmp 1)), [], .none⟩, ⟨(.some 7), .none, (.call 30 [(.tmp 6)]), [], .none⟩, ⟨.none, .none, (.store 5 (.tmp 1) (.tmp 7)), [], .none⟩]) (.seq (.seq (.reg [⟨(.some 4), .none, (.mov (.const (jn 254))), [], .none⟩]) (.block 0 (.loop (.seq (.seq (.reg [⟨(.some 8), .none, (.mov (.tmp 4)), [], .none⟩, ⟨(.some 9), .none, (.bin .geq (.tmp 8) (.const (jn 0))), [], .none⟩]) (.cond (.tmp 9) .skip (.exit 0))) (.seq (.block 1 (.seq (.reg [⟨(.some 12), .none, (.load .true 5 (.tmp 3)), [], .none⟩, ⟨(.some 13), .none, (.load .true 5 (.tmp 3)), [], .none⟩, ⟨(.some 14), .none, (.call 31 [(.tmp 12), (.tmp 13)]), [], .none⟩, ⟨.none, .none, (.store 5 (.tmp 3) (.tmp 14)), [], .none⟩]) (.seq (.reg [⟨(.some 15), .none, (.mov (.tmp 4)), [], .none⟩, ⟨(.some 16), .none, (.bin .neq (.tmp 15) (.const (jn 2))), [], .none⟩, ⟨(.some 17), .none, (.mov (.tmp 16)), [], .none⟩, ⟨(.some 18), (.some (17, .true)), (.mov (.tmp 4)), [], .none⟩, ⟨(.some 19), (.some (17, .true)), (.bin .neq (.tmp 18) (.const (jn 4))), [], .none⟩, ⟨(.some 20), .none, (.pick (.tmp 17) (.tmp 19) (.const (.bool .false))), [], .none⟩]) (.cond (.tmp 20) (.reg [⟨(.some 21), .none, (.load .true 5 (.tmp 3)), [], .none⟩, ⟨(.some 22), .none, (.load .true 5 (.tmp 1)), [], .none⟩, ⟨(.some 23), .none, (.call 31 [(.tmp 21), (.tmp 22)]), [], .none⟩, ⟨.none, .none, (.store 5 (.tmp 3) (.tmp 23)), [], .none⟩]) .skip)))) (.reg [⟨(.some 10), .none, (.mov (.tmp 4)), [], .none⟩, ⟨(.some 11), .none, (.bin .sub (.tmp 10) (.const (jn 1))), [], .none⟩, ⟨(.some 4), .none, (.mov (.tmp 11)), [], .none⟩])))))) (.seq (.reg [⟨(.some 24), .none, (.load .true 5 (.tmp 3)), [], .none⟩, ⟨.none, .none, (.store 5 (.tmp 2) (.tmp 24)), [], .none⟩]) .ret)))))
def fc32 : FC := ⟨1, 25, [(.cell 2 .true 5)], fb32⟩
theorem fc32_eq : compF Go.Proofs.Try.prog 38 = some fc32 := by kernel_rfl

/-- The counter, which runs to -1. -/
def cnt (k : Nat) : Value := .int .i64 (254 - (k : Int))
theorem cnt_zero : jn 254 = cnt 0 := rfl
theorem cnt_ge (k : Nat) : binVal .geq (cnt k) (jn 0) = some (.bool (decide (k ≤ 254))) := by
  simp only [binVal, cnt, jn, ne_eq, not_true_eq_false, if_false, Option.some.injEq, Value.bool.injEq]
  rw [Bool.eq_iff_iff]; simp; omega
theorem cnt_sub {k : Nat} (h : k < 1000) : binVal .sub (cnt k) (jn 1) = some (cnt (k + 1)) := by
  simp only [binVal, cnt, jn, ne_eq, not_true_eq_false, if_false]
  have e : (254 - (k : Int)) - ((1 : Nat) : Int) = 254 - ((k + 1 : Nat) : Int) := by omega
  rw [wrap_i64 (by omega) (by omega), e]
theorem cnt_ne2 (k : Nat) : binVal .neq (cnt k) (jn 2) = some (.bool (decide (k ≠ 252))) := by
  simp only [binVal, cnt, jn, ne_eq, not_true_eq_false, if_false, Option.some.injEq, Value.bool.injEq]
  rw [Bool.eq_iff_iff]; simp; omega
theorem cnt_ne4 (k : Nat) : binVal .neq (cnt k) (jn 4) = some (.bool (decide (k ≠ 250))) := by
  simp only [binVal, cnt, jn, ne_eq, not_true_eq_false, if_false, Option.some.injEq, Value.bool.injEq]
  rw [Bool.eq_iff_iff]; simp; omega

/-- A step of the power. -/
def invStep (a o : L5) (k : Nat) : L5 := if k = 252 ∨ k = 250 then o.mul o else (o.mul o).mul a
def invI (a : L5) : Nat → L5
  | 0 => ⟨1, 0, 0, 0, 0⟩
  | k + 1 => invStep a (invI a k) k
def exI : Nat → Nat
  | 0 => 0
  | k + 1 => 2 * exI k + (if k = 252 ∨ k = 250 then 0 else 1)
theorem exI_all : exI 255 = pp - 2 := by kernel_rfl
theorem invI_ok {a : L5} (ha : a.ok) : ∀ k, (invI a k).ok
  | 0 => small_ok (n := 1) (by decide)
  | k + 1 => by
    have h := invI_ok ha k
    show (invStep a (invI a k) k).ok
    unfold invStep
    split
    · exact L5.mul_ok h h
    · exact L5.mul_ok (L5.mul_ok h h) ha
theorem invI_E (a : L5) : ∀ k, E (invI a k).val (a.val ^ exI k)
  | 0 => by show E (L5.mk 1 0 0 0 0).val _; rw [small_val]; exact rfl
  | k + 1 => by
    have h := invI_E a k
    have h2 : E ((invI a k).mul (invI a k)).val (a.val ^ (2 * exI k)) := (E_mul _ _).trans ((h.mul h).trans (E.of (by rw [← Nat.pow_add]; congr 1; omega)))
    show E (invStep a (invI a k) k).val (a.val ^ (2 * exI k + (if k = 252 ∨ k = 250 then 0 else 1)))
    unfold invStep
    split
    · exact h2
    · exact (E_mul _ _).trans (h2.mul (E.rfl' _))

set_option maxHeartbeats 8000000 in
set_option maxRecDepth 20000 in
theorem inverse_P {l : L5} (hl : l.ok) : PCall Go.Proofs.Try.prog 38 [l.av] (.val (invI l.carry 255).av) := by
  have hs : PCall Go.Proofs.Try.prog 13 [.lit (wn 1)] (.val (L5.mk 1 0 0 0 0).av) := small_L fc28_eq (by decide)
  have hc := carry_L fc79_eq hl.lim63
  have hco := hl.carry
  generalize l.carry = c at *
  have h32 := fc32_eq
  refine PCall.of h32 rfl ?_; show AC.wp _ fb32 (AS.init [l.av] 1 25) (fun x s => match x with | .exit _ => False | _ => Fin [(.cell 2 .true 5)] s _); unfold fb32 AS.init
  refine wp_sg (areg_bx rfl rfl fun l1 => areg_al fun l2 => areg_nil ?_)
  simp only [L5.av, elem] at hs hc
  refine wp_sg (areg_ca (by simp [AS.ev, AS.coe] <;> exact rfl) hs (areg_al fun l3 => areg_end (by simp [runPre, AOp.ex, AOp.ex0, ex_mov, ex_bin, binA_lit, ex_cvt, ex_iaddrA, ex_iaddrS, ex_faddr, ex_load, ldA, ex_ext, ex_add64, add64A_un, ex_pick, ex_beq, ex_un, ex_len, lenA_sl, lenA_nil, lenA_str, lenA_own, lenRow_row, elA_own, elA_sl, elRow_row, ex_nilc, ex_build, ex_bslice, ex_fieldv, AOp.ro, AS.ev, AS.put, AS.fieldAddr, idxA_ptr, idxA_cptr, AS.peek, AS.poke, AS.blk, AS.setBlk, AV.nav, AV.upd, Blk.loc, Blk.cont, Blk.n, Blk.may, Blk.upd, AV.isAgg, AV.isTup, AV.sz, unVal, ownOk, fillAV, AV.sub, cvt_64j, cvt_64b, cvt_64w, cvt_8u, cvt_8w, bin_add64, bin_mul64, bin_sub64, bin_and51, bin_and32, bin_and1, bin_and8_1, bin_or64, bin_xor64, bin_or8, bin_shl64, bin_shl64j, bin_shr64, bin_shr64j, bin_shl8j, bin_shr8j, bin_quo64, bin_rem64, bin_quo32, bin_rem32, bin_addj, bin_subj, bin_quoj, bin_remj, bin_eqlj, bin_neqj, bin_lssj, bin_leqj, bin_gtrj, bin_geqj, bin_eql64, bin_lss64, bin_gtr64, bin_eql8, bin_rem8]; exact rfl) ?_))
  refine wp_sg (areg_run 1 (by simp [runPre, AOp.ex, AOp.ex0, ex_mov, ex_bin, binA_lit, ex_cvt, ex_iaddrA, ex_iaddrS, ex_faddr, ex_load, ldA, ex_ext, ex_add64, add64A_un, ex_pick, ex_beq, ex_un, ex_len, lenA_sl, lenA_nil, lenA_str, lenA_own, lenRow_row, elA_own, elA_sl, elRow_row, ex_nilc, ex_build, ex_bslice, ex_fieldv, AOp.ro, AS.ev, AS.put, AS.fieldAddr, idxA_ptr, idxA_cptr, AS.peek, AS.poke, AS.blk, AS.setBlk, AV.nav, AV.upd, Blk.loc, Blk.cont, Blk.n, Blk.may, Blk.upd, AV.isAgg, AV.isTup, AV.sz, unVal, ownOk, fillAV, AV.sub, cvt_64j, cvt_64b, cvt_64w, cvt_8u, cvt_8w, bin_add64, bin_mul64, bin_sub64, bin_and51, bin_and32, bin_and1, bin_and8_1, bin_or64, bin_xor64, bin_or8, bin_shl64, bin_shl64j, bin_shr64, bin_shr64j, bin_shl8j, bin_shr8j, bin_quo64, bin_rem64, bin_quo32, bin_rem32, bin_addj, bin_subj, bin_quoj, bin_remj, bin_eqlj, bin_neqj, bin_lssj, bin_leqj, bin_gtrj, bin_geqj, bin_eql64, bin_lss64, bin_gtr64, bin_eql8, bin_rem8, L5.av, elem]; exact rfl) (areg_ca (by simp [AS.ev, AS.coe] <;> exact rfl) hc (areg_end (by simp [runPre, AOp.ex, AOp.ex0, ex_mov, ex_bin, binA_lit, ex_cvt, ex_iaddrA, ex_iaddrS, ex_faddr, ex_load, ldA, ex_ext, ex_add64, add64A_un, ex_pick, ex_beq, ex_un, ex_len, lenA_sl, lenA_nil, lenA_str, lenA_own, lenRow_row, elA_own, elA_sl, elRow_row, ex_nilc, ex_build, ex_bslice, ex_fieldv, AOp.ro, AS.ev, AS.put, AS.fieldAddr, idxA_ptr, idxA_cptr, AS.peek, AS.poke, AS.blk, AS.setBlk, AV.nav, AV.upd, Blk.loc, Blk.cont, Blk.n, Blk.may, Blk.upd, AV.isAgg, AV.isTup, AV.sz, unVal, ownOk, fillAV, AV.sub, cvt_64j, cvt_64b, cvt_64w, cvt_8u, cvt_8w, bin_add64, bin_mul64, bin_sub64, bin_and51, bin_and32, bin_and1, bin_and8_1, bin_or64, bin_xor64, bin_or8, bin_shl64, bin_shl64j, bin_shr64, bin_shr64j, bin_shl8j, bin_shr8j, bin_quo64, bin_rem64, bin_quo32, bin_rem32, bin_addj, bin_subj, bin_quoj, bin_remj, bin_eqlj, bin_neqj, bin_lssj, bin_leqj, bin_gtrj, bin_geqj, bin_eql64, bin_lss64, bin_gtr64, bin_eql8, bin_rem8, L5.av, elem]; exact rfl) ?_)))
  refine wp_seq' (wp_seq' (wp_r (by simp [runPre, AOp.ex, AOp.ex0, ex_mov, ex_bin, binA_lit, ex_cvt, ex_iaddrA, ex_iaddrS, ex_faddr, ex_load, ldA, ex_ext, ex_add64, add64A_un, ex_pick, ex_beq, ex_un, ex_len, lenA_sl, lenA_nil, lenA_str, lenA_own, lenRow_row, elA_own, elA_sl, elRow_row, ex_nilc, ex_build, ex_bslice, ex_fieldv, AOp.ro, AS.ev, AS.put, AS.fieldAddr, idxA_ptr, idxA_cptr, AS.peek, AS.poke, AS.blk, AS.setBlk, AV.nav, AV.upd, Blk.loc, Blk.cont, Blk.n, Blk.may, Blk.upd, AV.isAgg, AV.isTup, AV.sz, unVal, ownOk, fillAV, AV.sub, cvt_64j, cvt_64b, cvt_64w, cvt_8u, cvt_8w, bin_add64, bin_mul64, bin_sub64, bin_and51, bin_and32, bin_and1, bin_and8_1, bin_or64, bin_xor64, bin_or8, bin_shl64, bin_shl64j, bin_shr64, bin_shr64j, bin_shl8j, bin_shr8j, bin_quo64, bin_rem64, bin_quo32, bin_rem32, bin_addj, bin_subj, bin_quoj, bin_remj, bin_eqlj, bin_neqj, bin_lssj, bin_leqj, bin_gtrj, bin_geqj, bin_eql64, bin_lss64, bin_gtr64, bin_eql8, bin_rem8]; exact rfl) (wp_block' (wp_loop_to 255 (fun k => ⟨0, [.any, .ptr 1 l1 0 [], .ptr 2 l2 0 [], .ptr 3 l3 0 [], .lit (cnt k)] ++ List.replicate 20 .any, [none, some (.box l1 5 c.av), some (.box l2 5 (.st [5] [.arr 1 (List.replicate 5 (.lit (un 0)))])), some (.box l3 5 (invI c k).av)] ++ List.replicate 21 none⟩) ?_ ?_ ?_))))
  · exact Le.mk rfl (by simp [leT, cnt_zero]) (by simp [leH, L5.av, elem, invI])
  · intro k hk
    have ho := invI_ok hco k
    have e : invI c (k + 1) = invStep c (invI c k) k := rfl
    simp only [e]
    generalize invI c k = o at *
    have p1 := product_P ho ho
    have p2 := product_P (L5.mul_ok ho ho) hco
    have q1 := cnt_sub (k := k) (by omega)
    have k1 : k ≤ 254 := by omega
    by_cases x1 : k = 252
    · have x3 : (k = 252) = True := eq_true x1
      have es : invStep c o k = o.mul o := if_pos (.inl x1)
      simp only [es]
      generalize o.mul o = w at *
      simp only [L5.av, elem] at p1 p2
      refine wp_seq' (wp_sr (by simp [runPre, AOp.ex, AOp.ex0, ex_mov, ex_bin, binA_lit, ex_cvt, ex_iaddrA, ex_iaddrS, ex_faddr, ex_load, ldA, ex_ext, ex_add64, add64A_un, ex_pick, ex_beq, ex_un, ex_len, lenA_sl, lenA_nil, lenA_str, lenA_own, lenRow_row, elA_own, elA_sl, elRow_row, ex_nilc, ex_build, ex_bslice, ex_fieldv, AOp.ro, AS.ev, AS.put, AS.fieldAddr, idxA_ptr, idxA_cptr, AS.peek, AS.poke, AS.blk, AS.setBlk, AV.nav, AV.upd, Blk.loc, Blk.cont, Blk.n, Blk.may, Blk.upd, AV.isAgg, AV.isTup, AV.sz, unVal, ownOk, fillAV, AV.sub, cvt_64j, cvt_64b, cvt_64w, cvt_8u, cvt_8w, bin_add64, bin_mul64, bin_sub64, bin_and51, bin_and32, bin_and1, bin_and8_1, bin_or64, bin_xor64, bin_or8, bin_shl64, bin_shl64j, bin_shr64, bin_shr64j, bin_shl8j, bin_shr8j, bin_quo64, bin_rem64, bin_quo32, bin_rem32, bin_addj, bin_subj, bin_quoj, bin_remj, bin_eqlj, bin_neqj, bin_lssj, bin_leqj, bin_gtrj, bin_geqj, bin_eql64, bin_lss64, bin_gtr64, bin_eql8, bin_rem8, cnt_ge, k1]; exact rfl) ?_)
      refine wp_cond_t (by simp [AS.ev]) (wp_skip' ?_)
      refine wp_seq' (wp_block' (wp_sg (areg_run 2 (by simp [runPre, AOp.ex, AOp.ex0, ex_mov, ex_bin, binA_lit, ex_cvt, ex_iaddrA, ex_iaddrS, ex_faddr, ex_load, ldA, ex_ext, ex_add64, add64A_un, ex_pick, ex_beq, ex_un, ex_len, lenA_sl, lenA_nil, lenA_str, lenA_own, lenRow_row, elA_own, elA_sl, elRow_row, ex_nilc, ex_build, ex_bslice, ex_fieldv, AOp.ro, AS.ev, AS.put, AS.fieldAddr, idxA_ptr, idxA_cptr, AS.peek, AS.poke, AS.blk, AS.setBlk, AV.nav, AV.upd, Blk.loc, Blk.cont, Blk.n, Blk.may, Blk.upd, AV.isAgg, AV.isTup, AV.sz, unVal, ownOk, fillAV, AV.sub, cvt_64j, cvt_64b, cvt_64w, cvt_8u, cvt_8w, bin_add64, bin_mul64, bin_sub64, bin_and51, bin_and32, bin_and1, bin_and8_1, bin_or64, bin_xor64, bin_or8, bin_shl64, bin_shl64j, bin_shr64, bin_shr64j, bin_shl8j, bin_shr8j, bin_quo64, bin_rem64, bin_quo32, bin_rem32, bin_addj, bin_subj, bin_quoj, bin_remj, bin_eqlj, bin_neqj, bin_lssj, bin_leqj, bin_gtrj, bin_geqj, bin_eql64, bin_lss64, bin_gtr64, bin_eql8, bin_rem8, L5.av, elem]; exact rfl) (areg_ca (by simp [AS.ev, AS.coe] <;> exact rfl) p1 (areg_end (by simp [runPre, AOp.ex, AOp.ex0, ex_mov, ex_bin, binA_lit, ex_cvt, ex_iaddrA, ex_iaddrS, ex_faddr, ex_load, ldA, ex_ext, ex_add64, add64A_un, ex_pick, ex_beq, ex_un, ex_len, lenA_sl, lenA_nil, lenA_str, lenA_own, lenRow_row, elA_own, elA_sl, elRow_row, ex_nilc, ex_build, ex_bslice, ex_fieldv, AOp.ro, AS.ev, AS.put, AS.fieldAddr, idxA_ptr, idxA_cptr, AS.peek, AS.poke, AS.blk, AS.setBlk, AV.nav, AV.upd, Blk.loc, Blk.cont, Blk.n, Blk.may, Blk.upd, AV.isAgg, AV.isTup, AV.sz, unVal, ownOk, fillAV, AV.sub, cvt_64j, cvt_64b, cvt_64w, cvt_8u, cvt_8w, bin_add64, bin_mul64, bin_sub64, bin_and51, bin_and32, bin_and1, bin_and8_1, bin_or64, bin_xor64, bin_or8, bin_shl64, bin_shl64j, bin_shr64, bin_shr64j, bin_shl8j, bin_shr8j, bin_quo64, bin_rem64, bin_quo32, bin_rem32, bin_addj, bin_subj, bin_quoj, bin_remj, bin_eqlj, bin_neqj, bin_lssj, bin_leqj, bin_gtrj, bin_geqj, bin_eql64, bin_lss64, bin_gtr64, bin_eql8, bin_rem8, L5.av, elem]; exact rfl) ?_)))))
      refine wp_sr (by simp [runPre, AOp.ex, AOp.ex0, ex_mov, ex_bin, binA_lit, ex_cvt, ex_iaddrA, ex_iaddrS, ex_faddr, ex_load, ldA, ex_ext, ex_add64, add64A_un, ex_pick, ex_beq, ex_un, ex_len, lenA_sl, lenA_nil, lenA_str, lenA_own, lenRow_row, elA_own, elA_sl, elRow_row, ex_nilc, ex_build, ex_bslice, ex_fieldv, AOp.ro, AS.ev, AS.put, AS.fieldAddr, idxA_ptr, idxA_cptr, AS.peek, AS.poke, AS.blk, AS.setBlk, AV.nav, AV.upd, Blk.loc, Blk.cont, Blk.n, Blk.may, Blk.upd, AV.isAgg, AV.isTup, AV.sz, unVal, ownOk, fillAV, AV.sub, cvt_64j, cvt_64b, cvt_64w, cvt_8u, cvt_8w, bin_add64, bin_mul64, bin_sub64, bin_and51, bin_and32, bin_and1, bin_and8_1, bin_or64, bin_xor64, bin_or8, bin_shl64, bin_shl64j, bin_shr64, bin_shr64j, bin_shl8j, bin_shr8j, bin_quo64, bin_rem64, bin_quo32, bin_rem32, bin_addj, bin_subj, bin_quoj, bin_remj, bin_eqlj, bin_neqj, bin_lssj, bin_leqj, bin_gtrj, bin_geqj, bin_eql64, bin_lss64, bin_gtr64, bin_eql8, bin_rem8, cnt_ne2, cnt_ne4, x3]; exact rfl) ?_
      refine wp_cond_f (by simp [AS.ev]) (wp_skip' ?_)
      refine wp_r (by simp [runPre, AOp.ex, AOp.ex0, ex_mov, ex_bin, binA_lit, ex_cvt, ex_iaddrA, ex_iaddrS, ex_faddr, ex_load, ldA, ex_ext, ex_add64, add64A_un, ex_pick, ex_beq, ex_un, ex_len, lenA_sl, lenA_nil, lenA_str, lenA_own, lenRow_row, elA_own, elA_sl, elRow_row, ex_nilc, ex_build, ex_bslice, ex_fieldv, AOp.ro, AS.ev, AS.put, AS.fieldAddr, idxA_ptr, idxA_cptr, AS.peek, AS.poke, AS.blk, AS.setBlk, AV.nav, AV.upd, Blk.loc, Blk.cont, Blk.n, Blk.may, Blk.upd, AV.isAgg, AV.isTup, AV.sz, unVal, ownOk, fillAV, AV.sub, cvt_64j, cvt_64b, cvt_64w, cvt_8u, cvt_8w, bin_add64, bin_mul64, bin_sub64, bin_and51, bin_and32, bin_and1, bin_and8_1, bin_or64, bin_xor64, bin_or8, bin_shl64, bin_shl64j, bin_shr64, bin_shr64j, bin_shl8j, bin_shr8j, bin_quo64, bin_rem64, bin_quo32, bin_rem32, bin_addj, bin_subj, bin_quoj, bin_remj, bin_eqlj, bin_neqj, bin_lssj, bin_leqj, bin_gtrj, bin_geqj, bin_eql64, bin_lss64, bin_gtr64, bin_eql8, bin_rem8, q1]; exact rfl) ?_
      exact Le.mk rfl (by simp [leT]) (by simp [leH, L5.av, elem])
    by_cases x2 : k = 250
    · have x3 : (k = 250) = True := eq_true x2
      have es : invStep c o k = o.mul o := if_pos (.inr x2)
      simp only [es]
      generalize o.mul o = w at *
      simp only [L5.av, elem] at p1 p2
      refine wp_seq' (wp_sr (by simp [runPre, AOp.ex, AOp.ex0, ex_mov, ex_bin, binA_lit, ex_cvt, ex_iaddrA, ex_iaddrS, ex_faddr, ex_load, ldA, ex_ext, ex_add64, add64A_un, ex_pick, ex_beq, ex_un, ex_len, lenA_sl, lenA_nil, lenA_str, lenA_own, lenRow_row, elA_own, elA_sl, elRow_row, ex_nilc, ex_build, ex_bslice, ex_fieldv, AOp.ro, AS.ev, AS.put, AS.fieldAddr, idxA_ptr, idxA_cptr, AS.peek, AS.poke, AS.blk, AS.setBlk, AV.nav, AV.upd, Blk.loc, Blk.cont, Blk.n, Blk.may, Blk.upd, AV.isAgg, AV.isTup, AV.sz, unVal, ownOk, fillAV, AV.sub, cvt_64j, cvt_64b, cvt_64w, cvt_8u, cvt_8w, bin_add64, bin_mul64, bin_sub64, bin_and51, bin_and32, bin_and1, bin_and8_1, bin_or64, bin_xor64, bin_or8, bin_shl64, bin_shl64j, bin_shr64, bin_shr64j, bin_shl8j, bin_shr8j, bin_quo64, bin_rem64, bin_quo32, bin_rem32, bin_addj, bin_subj, bin_quoj, bin_remj, bin_eqlj, bin_neqj, bin_lssj, bin_leqj, bin_gtrj, bin_geqj, bin_eql64, bin_lss64, bin_gtr64, bin_eql8, bin_rem8, cnt_ge, k1]; exact rfl) ?_)
      refine wp_cond_t (by simp [AS.ev]) (wp_skip' ?_)
      refine wp_seq' (wp_block' (wp_sg (areg_run 2 (by simp [runPre, AOp.ex, AOp.ex0, ex_mov, ex_bin, binA_lit, ex_cvt, ex_iaddrA, ex_iaddrS, ex_faddr, ex_load, ldA, ex_ext, ex_add64, add64A_un, ex_pick, ex_beq, ex_un, ex_len, lenA_sl, lenA_nil, lenA_str, lenA_own, lenRow_row, elA_own, elA_sl, elRow_row, ex_nilc, ex_build, ex_bslice, ex_fieldv, AOp.ro, AS.ev, AS.put, AS.fieldAddr, idxA_ptr, idxA_cptr, AS.peek, AS.poke, AS.blk, AS.setBlk, AV.nav, AV.upd, Blk.loc, Blk.cont, Blk.n, Blk.may, Blk.upd, AV.isAgg, AV.isTup, AV.sz, unVal, ownOk, fillAV, AV.sub, cvt_64j, cvt_64b, cvt_64w, cvt_8u, cvt_8w, bin_add64, bin_mul64, bin_sub64, bin_and51, bin_and32, bin_and1, bin_and8_1, bin_or64, bin_xor64, bin_or8, bin_shl64, bin_shl64j, bin_shr64, bin_shr64j, bin_shl8j, bin_shr8j, bin_quo64, bin_rem64, bin_quo32, bin_rem32, bin_addj, bin_subj, bin_quoj, bin_remj, bin_eqlj, bin_neqj, bin_lssj, bin_leqj, bin_gtrj, bin_geqj, bin_eql64, bin_lss64, bin_gtr64, bin_eql8, bin_rem8, L5.av, elem]; exact rfl) (areg_ca (by simp [AS.ev, AS.coe] <;> exact rfl) p1 (areg_end (by simp [runPre, AOp.ex, AOp.ex0, ex_mov, ex_bin, binA_lit, ex_cvt, ex_iaddrA, ex_iaddrS, ex_faddr, ex_load, ldA, ex_ext, ex_add64, add64A_un, ex_pick, ex_beq, ex_un, ex_len, lenA_sl, lenA_nil, lenA_str, lenA_own, lenRow_row, elA_own, elA_sl, elRow_row, ex_nilc, ex_build, ex_bslice, ex_fieldv, AOp.ro, AS.ev, AS.put, AS.fieldAddr, idxA_ptr, idxA_cptr, AS.peek, AS.poke, AS.blk, AS.setBlk, AV.nav, AV.upd, Blk.loc, Blk.cont, Blk.n, Blk.may, Blk.upd, AV.isAgg, AV.isTup, AV.sz, unVal, ownOk, fillAV, AV.sub, cvt_64j, cvt_64b, cvt_64w, cvt_8u, cvt_8w, bin_add64, bin_mul64, bin_sub64, bin_and51, bin_and32, bin_and1, bin_and8_1, bin_or64, bin_xor64, bin_or8, bin_shl64, bin_shl64j, bin_shr64, bin_shr64j, bin_shl8j, bin_shr8j, bin_quo64, bin_rem64, bin_quo32, bin_rem32, bin_addj, bin_subj, bin_quoj, bin_remj, bin_eqlj, bin_neqj, bin_lssj, bin_leqj, bin_gtrj, bin_geqj, bin_eql64, bin_lss64, bin_gtr64, bin_eql8, bin_rem8, L5.av, elem]; exact rfl) ?_)))))
      refine wp_sr (by simp [runPre, AOp.ex, AOp.ex0, ex_mov, ex_bin, binA_lit, ex_cvt, ex_iaddrA, ex_iaddrS, ex_faddr, ex_load, ldA, ex_ext, ex_add64, add64A_un, ex_pick, ex_beq, ex_un, ex_len, lenA_sl, lenA_nil, lenA_str, lenA_own, lenRow_row, elA_own, elA_sl, elRow_row, ex_nilc, ex_build, ex_bslice, ex_fieldv, AOp.ro, AS.ev, AS.put, AS.fieldAddr, idxA_ptr, idxA_cptr, AS.peek, AS.poke, AS.blk, AS.setBlk, AV.nav, AV.upd, Blk.loc, Blk.cont, Blk.n, Blk.may, Blk.upd, AV.isAgg, AV.isTup, AV.sz, unVal, ownOk, fillAV, AV.sub, cvt_64j, cvt_64b, cvt_64w, cvt_8u, cvt_8w, bin_add64, bin_mul64, bin_sub64, bin_and51, bin_and32, bin_and1, bin_and8_1, bin_or64, bin_xor64, bin_or8, bin_shl64, bin_shl64j, bin_shr64, bin_shr64j, bin_shl8j, bin_shr8j, bin_quo64, bin_rem64, bin_quo32, bin_rem32, bin_addj, bin_subj, bin_quoj, bin_remj, bin_eqlj, bin_neqj, bin_lssj, bin_leqj, bin_gtrj, bin_geqj, bin_eql64, bin_lss64, bin_gtr64, bin_eql8, bin_rem8, cnt_ne2, cnt_ne4, x3, x1]; exact rfl) ?_
      refine wp_cond_f (by simp [AS.ev]) (wp_skip' ?_)
      refine wp_r (by simp [runPre, AOp.ex, AOp.ex0, ex_mov, ex_bin, binA_lit, ex_cvt, ex_iaddrA, ex_iaddrS, ex_faddr, ex_load, ldA, ex_ext, ex_add64, add64A_un, ex_pick, ex_beq, ex_un, ex_len, lenA_sl, lenA_nil, lenA_str, lenA_own, lenRow_row, elA_own, elA_sl, elRow_row, ex_nilc, ex_build, ex_bslice, ex_fieldv, AOp.ro, AS.ev, AS.put, AS.fieldAddr, idxA_ptr, idxA_cptr, AS.peek, AS.poke, AS.blk, AS.setBlk, AV.nav, AV.upd, Blk.loc, Blk.cont, Blk.n, Blk.may, Blk.upd, AV.isAgg, AV.isTup, AV.sz, unVal, ownOk, fillAV, AV.sub, cvt_64j, cvt_64b, cvt_64w, cvt_8u, cvt_8w, bin_add64, bin_mul64, bin_sub64, bin_and51, bin_and32, bin_and1, bin_and8_1, bin_or64, bin_xor64, bin_or8, bin_shl64, bin_shl64j, bin_shr64, bin_shr64j, bin_shl8j, bin_shr8j, bin_quo64, bin_rem64, bin_quo32, bin_rem32, bin_addj, bin_subj, bin_quoj, bin_remj, bin_eqlj, bin_neqj, bin_lssj, bin_leqj, bin_gtrj, bin_geqj, bin_eql64, bin_lss64, bin_gtr64, bin_eql8, bin_rem8, q1]; exact rfl) ?_
      exact Le.mk rfl (by simp [leT]) (by simp [leH, L5.av, elem])
    · have x3 : ¬ (k = 252 ∨ k = 250) := by omega
      have es : invStep c o k = (o.mul o).mul c := if_neg x3
      simp only [es]
      generalize (o.mul o).mul c = z at *
      generalize o.mul o = w at *
      simp only [L5.av, elem] at p1 p2
      refine wp_seq' (wp_sr (by simp [runPre, AOp.ex, AOp.ex0, ex_mov, ex_bin, binA_lit, ex_cvt, ex_iaddrA, ex_iaddrS, ex_faddr, ex_load, ldA, ex_ext, ex_add64, add64A_un, ex_pick, ex_beq, ex_un, ex_len, lenA_sl, lenA_nil, lenA_str, lenA_own, lenRow_row, elA_own, elA_sl, elRow_row, ex_nilc, ex_build, ex_bslice, ex_fieldv, AOp.ro, AS.ev, AS.put, AS.fieldAddr, idxA_ptr, idxA_cptr, AS.peek, AS.poke, AS.blk, AS.setBlk, AV.nav, AV.upd, Blk.loc, Blk.cont, Blk.n, Blk.may, Blk.upd, AV.isAgg, AV.isTup, AV.sz, unVal, ownOk, fillAV, AV.sub, cvt_64j, cvt_64b, cvt_64w, cvt_8u, cvt_8w, bin_add64, bin_mul64, bin_sub64, bin_and51, bin_and32, bin_and1, bin_and8_1, bin_or64, bin_xor64, bin_or8, bin_shl64, bin_shl64j, bin_shr64, bin_shr64j, bin_shl8j, bin_shr8j, bin_quo64, bin_rem64, bin_quo32, bin_rem32, bin_addj, bin_subj, bin_quoj, bin_remj, bin_eqlj, bin_neqj, bin_lssj, bin_leqj, bin_gtrj, bin_geqj, bin_eql64, bin_lss64, bin_gtr64, bin_eql8, bin_rem8, cnt_ge, k1]; exact rfl) ?_)
      refine wp_cond_t (by simp [AS.ev]) (wp_skip' ?_)
      refine wp_seq' (wp_block' (wp_sg (areg_run 2 (by simp [runPre, AOp.ex, AOp.ex0, ex_mov, ex_bin, binA_lit, ex_cvt, ex_iaddrA, ex_iaddrS, ex_faddr, ex_load, ldA, ex_ext, ex_add64, add64A_un, ex_pick, ex_beq, ex_un, ex_len, lenA_sl, lenA_nil, lenA_str, lenA_own, lenRow_row, elA_own, elA_sl, elRow_row, ex_nilc, ex_build, ex_bslice, ex_fieldv, AOp.ro, AS.ev, AS.put, AS.fieldAddr, idxA_ptr, idxA_cptr, AS.peek, AS.poke, AS.blk, AS.setBlk, AV.nav, AV.upd, Blk.loc, Blk.cont, Blk.n, Blk.may, Blk.upd, AV.isAgg, AV.isTup, AV.sz, unVal, ownOk, fillAV, AV.sub, cvt_64j, cvt_64b, cvt_64w, cvt_8u, cvt_8w, bin_add64, bin_mul64, bin_sub64, bin_and51, bin_and32, bin_and1, bin_and8_1, bin_or64, bin_xor64, bin_or8, bin_shl64, bin_shl64j, bin_shr64, bin_shr64j, bin_shl8j, bin_shr8j, bin_quo64, bin_rem64, bin_quo32, bin_rem32, bin_addj, bin_subj, bin_quoj, bin_remj, bin_eqlj, bin_neqj, bin_lssj, bin_leqj, bin_gtrj, bin_geqj, bin_eql64, bin_lss64, bin_gtr64, bin_eql8, bin_rem8, L5.av, elem]; exact rfl) (areg_ca (by simp [AS.ev, AS.coe] <;> exact rfl) p1 (areg_end (by simp [runPre, AOp.ex, AOp.ex0, ex_mov, ex_bin, binA_lit, ex_cvt, ex_iaddrA, ex_iaddrS, ex_faddr, ex_load, ldA, ex_ext, ex_add64, add64A_un, ex_pick, ex_beq, ex_un, ex_len, lenA_sl, lenA_nil, lenA_str, lenA_own, lenRow_row, elA_own, elA_sl, elRow_row, ex_nilc, ex_build, ex_bslice, ex_fieldv, AOp.ro, AS.ev, AS.put, AS.fieldAddr, idxA_ptr, idxA_cptr, AS.peek, AS.poke, AS.blk, AS.setBlk, AV.nav, AV.upd, Blk.loc, Blk.cont, Blk.n, Blk.may, Blk.upd, AV.isAgg, AV.isTup, AV.sz, unVal, ownOk, fillAV, AV.sub, cvt_64j, cvt_64b, cvt_64w, cvt_8u, cvt_8w, bin_add64, bin_mul64, bin_sub64, bin_and51, bin_and32, bin_and1, bin_and8_1, bin_or64, bin_xor64, bin_or8, bin_shl64, bin_shl64j, bin_shr64, bin_shr64j, bin_shl8j, bin_shr8j, bin_quo64, bin_rem64, bin_quo32, bin_rem32, bin_addj, bin_subj, bin_quoj, bin_remj, bin_eqlj, bin_neqj, bin_lssj, bin_leqj, bin_gtrj, bin_geqj, bin_eql64, bin_lss64, bin_gtr64, bin_eql8, bin_rem8, L5.av, elem]; exact rfl) ?_)))))
      refine wp_sr (by simp [runPre, AOp.ex, AOp.ex0, ex_mov, ex_bin, binA_lit, ex_cvt, ex_iaddrA, ex_iaddrS, ex_faddr, ex_load, ldA, ex_ext, ex_add64, add64A_un, ex_pick, ex_beq, ex_un, ex_len, lenA_sl, lenA_nil, lenA_str, lenA_own, lenRow_row, elA_own, elA_sl, elRow_row, ex_nilc, ex_build, ex_bslice, ex_fieldv, AOp.ro, AS.ev, AS.put, AS.fieldAddr, idxA_ptr, idxA_cptr, AS.peek, AS.poke, AS.blk, AS.setBlk, AV.nav, AV.upd, Blk.loc, Blk.cont, Blk.n, Blk.may, Blk.upd, AV.isAgg, AV.isTup, AV.sz, unVal, ownOk, fillAV, AV.sub, cvt_64j, cvt_64b, cvt_64w, cvt_8u, cvt_8w, bin_add64, bin_mul64, bin_sub64, bin_and51, bin_and32, bin_and1, bin_and8_1, bin_or64, bin_xor64, bin_or8, bin_shl64, bin_shl64j, bin_shr64, bin_shr64j, bin_shl8j, bin_shr8j, bin_quo64, bin_rem64, bin_quo32, bin_rem32, bin_addj, bin_subj, bin_quoj, bin_remj, bin_eqlj, bin_neqj, bin_lssj, bin_leqj, bin_gtrj, bin_geqj, bin_eql64, bin_lss64, bin_gtr64, bin_eql8, bin_rem8, cnt_ne2, cnt_ne4, x1, x2]; exact rfl) ?_
      refine wp_cond_t (by simp [AS.ev]) ?_
      refine wp_rg (areg_run 2 (by simp [runPre, AOp.ex, AOp.ex0, ex_mov, ex_bin, binA_lit, ex_cvt, ex_iaddrA, ex_iaddrS, ex_faddr, ex_load, ldA, ex_ext, ex_add64, add64A_un, ex_pick, ex_beq, ex_un, ex_len, lenA_sl, lenA_nil, lenA_str, lenA_own, lenRow_row, elA_own, elA_sl, elRow_row, ex_nilc, ex_build, ex_bslice, ex_fieldv, AOp.ro, AS.ev, AS.put, AS.fieldAddr, idxA_ptr, idxA_cptr, AS.peek, AS.poke, AS.blk, AS.setBlk, AV.nav, AV.upd, Blk.loc, Blk.cont, Blk.n, Blk.may, Blk.upd, AV.isAgg, AV.isTup, AV.sz, unVal, ownOk, fillAV, AV.sub, cvt_64j, cvt_64b, cvt_64w, cvt_8u, cvt_8w, bin_add64, bin_mul64, bin_sub64, bin_and51, bin_and32, bin_and1, bin_and8_1, bin_or64, bin_xor64, bin_or8, bin_shl64, bin_shl64j, bin_shr64, bin_shr64j, bin_shl8j, bin_shr8j, bin_quo64, bin_rem64, bin_quo32, bin_rem32, bin_addj, bin_subj, bin_quoj, bin_remj, bin_eqlj, bin_neqj, bin_lssj, bin_leqj, bin_gtrj, bin_geqj, bin_eql64, bin_lss64, bin_gtr64, bin_eql8, bin_rem8, L5.av, elem]; exact rfl) (areg_ca (by simp [AS.ev, AS.coe] <;> exact rfl) p2 (areg_end (by simp [runPre, AOp.ex, AOp.ex0, ex_mov, ex_bin, binA_lit, ex_cvt, ex_iaddrA, ex_iaddrS, ex_faddr, ex_load, ldA, ex_ext, ex_add64, add64A_un, ex_pick, ex_beq, ex_un, ex_len, lenA_sl, lenA_nil, lenA_str, lenA_own, lenRow_row, elA_own, elA_sl, elRow_row, ex_nilc, ex_build, ex_bslice, ex_fieldv, AOp.ro, AS.ev, AS.put, AS.fieldAddr, idxA_ptr, idxA_cptr, AS.peek, AS.poke, AS.blk, AS.setBlk, AV.nav, AV.upd, Blk.loc, Blk.cont, Blk.n, Blk.may, Blk.upd, AV.isAgg, AV.isTup, AV.sz, unVal, ownOk, fillAV, AV.sub, cvt_64j, cvt_64b, cvt_64w, cvt_8u, cvt_8w, bin_add64, bin_mul64, bin_sub64, bin_and51, bin_and32, bin_and1, bin_and8_1, bin_or64, bin_xor64, bin_or8, bin_shl64, bin_shl64j, bin_shr64, bin_shr64j, bin_shl8j, bin_shr8j, bin_quo64, bin_rem64, bin_quo32, bin_rem32, bin_addj, bin_subj, bin_quoj, bin_remj, bin_eqlj, bin_neqj, bin_lssj, bin_leqj, bin_gtrj, bin_geqj, bin_eql64, bin_lss64, bin_gtr64, bin_eql8, bin_rem8, L5.av, elem]; exact rfl) ?_)))
      refine wp_r (by simp [runPre, AOp.ex, AOp.ex0, ex_mov, ex_bin, binA_lit, ex_cvt, ex_iaddrA, ex_iaddrS, ex_faddr, ex_load, ldA, ex_ext, ex_add64, add64A_un, ex_pick, ex_beq, ex_un, ex_len, lenA_sl, lenA_nil, lenA_str, lenA_own, lenRow_row, elA_own, elA_sl, elRow_row, ex_nilc, ex_build, ex_bslice, ex_fieldv, AOp.ro, AS.ev, AS.put, AS.fieldAddr, idxA_ptr, idxA_cptr, AS.peek, AS.poke, AS.blk, AS.setBlk, AV.nav, AV.upd, Blk.loc, Blk.cont, Blk.n, Blk.may, Blk.upd, AV.isAgg, AV.isTup, AV.sz, unVal, ownOk, fillAV, AV.sub, cvt_64j, cvt_64b, cvt_64w, cvt_8u, cvt_8w, bin_add64, bin_mul64, bin_sub64, bin_and51, bin_and32, bin_and1, bin_and8_1, bin_or64, bin_xor64, bin_or8, bin_shl64, bin_shl64j, bin_shr64, bin_shr64j, bin_shl8j, bin_shr8j, bin_quo64, bin_rem64, bin_quo32, bin_rem32, bin_addj, bin_subj, bin_quoj, bin_remj, bin_eqlj, bin_neqj, bin_lssj, bin_leqj, bin_gtrj, bin_geqj, bin_eql64, bin_lss64, bin_gtr64, bin_eql8, bin_rem8, q1]; exact rfl) ?_
      exact Le.mk rfl (by simp [leT]) (by simp [leH, L5.av, elem])
  · have ho := invI_ok hco 255
    generalize invI c 255 = o at *
    refine wp_seq' (wp_sr (by simp [runPre, AOp.ex, AOp.ex0, ex_mov, ex_bin, binA_lit, ex_cvt, ex_iaddrA, ex_iaddrS, ex_faddr, ex_load, ldA, ex_ext, ex_add64, add64A_un, ex_pick, ex_beq, ex_un, ex_len, lenA_sl, lenA_nil, lenA_str, lenA_own, lenRow_row, elA_own, elA_sl, elRow_row, ex_nilc, ex_build, ex_bslice, ex_fieldv, AOp.ro, AS.ev, AS.put, AS.fieldAddr, idxA_ptr, idxA_cptr, AS.peek, AS.poke, AS.blk, AS.setBlk, AV.nav, AV.upd, Blk.loc, Blk.cont, Blk.n, Blk.may, Blk.upd, AV.isAgg, AV.isTup, AV.sz, unVal, ownOk, fillAV, AV.sub, cvt_64j, cvt_64b, cvt_64w, cvt_8u, cvt_8w, bin_add64, bin_mul64, bin_sub64, bin_and51, bin_and32, bin_and1, bin_and8_1, bin_or64, bin_xor64, bin_or8, bin_shl64, bin_shl64j, bin_shr64, bin_shr64j, bin_shl8j, bin_shr8j, bin_quo64, bin_rem64, bin_quo32, bin_rem32, bin_addj, bin_subj, bin_quoj, bin_remj, bin_eqlj, bin_neqj, bin_lssj, bin_leqj, bin_gtrj, bin_geqj, bin_eql64, bin_lss64, bin_gtr64, bin_eql8, bin_rem8, cnt_ge]; exact rfl) ?_)
    refine wp_cond_f (by simp [AS.ev]) (wp_exit' (if_hit rfl ?_))
    repeat (first | (with_reducible apply wp_sr); focus (simp [runPre, AOp.ex, AOp.ex0, ex_mov, ex_bin, binA_lit, ex_cvt, ex_iaddrA, ex_iaddrS, ex_faddr, ex_load, ldA, ex_ext, ex_add64, add64A_un, ex_pick, ex_beq, ex_un, ex_len, lenA_sl, lenA_nil, lenA_str, lenA_own, lenRow_row, elA_own, elA_sl, elRow_row, ex_nilc, ex_build, ex_bslice, ex_fieldv, AOp.ro, AS.ev, AS.put, AS.fieldAddr, idxA_ptr, idxA_cptr, AS.peek, AS.poke, AS.blk, AS.setBlk, AV.nav, AV.upd, Blk.loc, Blk.cont, Blk.n, Blk.may, Blk.upd, AV.isAgg, AV.isTup, AV.sz, unVal, ownOk, fillAV, AV.sub, cvt_64j, cvt_64b, cvt_64w, cvt_8u, cvt_8w, bin_add64, bin_mul64, bin_sub64, bin_and51, bin_and32, bin_and1, bin_and8_1, bin_or64, bin_xor64, bin_or8, bin_shl64, bin_shl64j, bin_shr64, bin_shr64j, bin_shl8j, bin_shr8j, bin_quo64, bin_rem64, bin_quo32, bin_rem32, bin_addj, bin_subj, bin_quoj, bin_remj, bin_eqlj, bin_neqj, bin_lssj, bin_leqj, bin_gtrj, bin_geqj, bin_eql64, bin_lss64, bin_gtr64, bin_eql8, bin_rem8, L5.av, elem]; exact rfl) | (with_reducible apply wp_r); focus (simp [runPre, AOp.ex, AOp.ex0, ex_mov, ex_bin, binA_lit, ex_cvt, ex_iaddrA, ex_iaddrS, ex_faddr, ex_load, ldA, ex_ext, ex_add64, add64A_un, ex_pick, ex_beq, ex_un, ex_len, lenA_sl, lenA_nil, lenA_str, lenA_own, lenRow_row, elA_own, elA_sl, elRow_row, ex_nilc, ex_build, ex_bslice, ex_fieldv, AOp.ro, AS.ev, AS.put, AS.fieldAddr, idxA_ptr, idxA_cptr, AS.peek, AS.poke, AS.blk, AS.setBlk, AV.nav, AV.upd, Blk.loc, Blk.cont, Blk.n, Blk.may, Blk.upd, AV.isAgg, AV.isTup, AV.sz, unVal, ownOk, fillAV, AV.sub, cvt_64j, cvt_64b, cvt_64w, cvt_8u, cvt_8w, bin_add64, bin_mul64, bin_sub64, bin_and51, bin_and32, bin_and1, bin_and8_1, bin_or64, bin_xor64, bin_or8, bin_shl64, bin_shl64j, bin_shr64, bin_shr64j, bin_shl8j, bin_shr8j, bin_quo64, bin_rem64, bin_quo32, bin_rem32, bin_addj, bin_subj, bin_quoj, bin_remj, bin_eqlj, bin_neqj, bin_lssj, bin_leqj, bin_gtrj, bin_geqj, bin_eql64, bin_lss64, bin_gtr64, bin_eql8, bin_rem8, L5.av, elem]; exact rfl) | (with_reducible refine wp_seq' (wp_cond_t ?_ ?_)); focus (simp [AS.ev]; done) | (with_reducible refine wp_seq' (wp_cond_f ?_ ?_)); focus (simp [AS.ev]; done) | (with_reducible refine wp_cond_t ?_ ?_); focus (simp [AS.ev]; done) | (with_reducible refine wp_cond_f ?_ ?_); focus (simp [AS.ev]; done) | with_reducible refine wp_seq' ?_ | with_reducible refine wp_block' ?_ | with_reducible refine wp_skip' ?_ | with_reducible refine wp_exit' ?_ | with_reducible refine wp_ret' ?_ | with_reducible refine if_hit rfl ?_ | with_reducible refine loopN_succ ?_)
    refine fin_cell (by simp [RVal, AS.coe, tt, AS.ev, AS.peek, AS.blk, Blk.loc, Blk.cont, Blk.n, AV.nav, AV.isAgg, AV.isTup, L5.av, elem]) (by simp [L5.av, elem])

/-- The inverse, by what it comes to. -/
theorem inv_E {l : L5} : E (invI l.carry 255).val (l.val ^ (pp - 2)) := by
  have h := invI_E l.carry 255
  rw [exI_all] at h
  refine h.trans ?_
  unfold E
  rw [Nat.pow_mod, L5.carry_mod, ← Nat.pow_mod]
end Go.Cab

/- Ladder: numbers. -/
namespace Go.Cab

/-- Two places of the ladder. -/
structure Q4 where
  x2 : Nat
  z2 : Nat
  x3 : Nat
  z3 : Nat

structure Q4.ok (q : Q4) : Prop where
  a : q.x2 < pp
  b : q.z2 < pp
  c : q.x3 < pp
  d : q.z3 < pp

def Q4.sw (b : Bool) (q : Q4) : Q4 := if b then ⟨q.x3, q.z3, q.x2, q.z2⟩ else q
theorem Q4.ok.sw {q : Q4} (h : q.ok) (b : Bool) : (q.sw b).ok := by
  cases b
  · exact h
  · exact ⟨h.c, h.d, h.a, h.b⟩

def stA (q : Q4) : Nat := wP q.x2 q.z2
def stB (q : Q4) : Nat := subN q.x2 q.z2
def stC (q : Q4) : Nat := wP q.x3 q.z3
def stD (q : Q4) : Nat := subN q.x3 q.z3
def stE (q : Q4) : Nat := subN (wT (stA q) (stA q)) (wT (stB q) (stB q))
def stDA (q : Q4) : Nat := wT (stD q) (stA q)
def stCB (q : Q4) : Nat := wT (stC q) (stB q)
def stS (q : Q4) : Nat := wP (stDA q) (stCB q)
def stM (q : Q4) : Nat := subN (stDA q) (stCB q)
/-- A step. -/
def lstep (u : Nat) (q : Q4) : Q4 :=
  ⟨wT (wT (stA q) (stA q)) (wT (stB q) (stB q)), wT (stE q) (wP (wT (stA q) (stA q)) (wT 121665 (stE q))), wT (stS q) (stS q), wT u (wT (stM q) (stM q))⟩
theorem wT_lt (a b : Nat) : wT a b < pp := pp_lt _
theorem wP_lt (a b : Nat) : wP a b < pp := pp_lt _
theorem lstep_ok (u : Nat) (q : Q4) : (lstep u q).ok := ⟨wT_lt _ _, wT_lt _ _, wT_lt _ _, wT_lt _ _⟩

/-- The bit of a scalar. -/
def sbit (n t : Nat) : Bool := if t < 3 then false else if t = 254 then true else n / 2 ^ (8 * (t / 8)) % 256 / 2 ^ (t % 8) % 2 == 1

/-- The ladder behind 'k' steps. -/
def refS (n u : Nat) : Nat → Q4
  | 0 => ⟨1, 0, u, 1⟩
  | k + 1 => (lstep u ((refS n u k).sw (sbit n (254 - k)))).sw (sbit n (254 - k))
theorem refS_ok {n u : Nat} (hu : u < pp) : ∀ k, (refS n u k).ok
  | 0 => ⟨show 1 < pp by decide, show 0 < pp by decide, hu, show 1 < pp by decide⟩
  | k + 1 => (lstep_ok u _).sw _

/-- The power that inverts. -/
def invN (a : Nat) : Nat → Nat
  | 0 => 1
  | k + 1 => if k = 252 ∨ k = 250 then wT (invN a k) (invN a k) else wT (wT (invN a k) (invN a k)) a
theorem invN_lt (a : Nat) : ∀ k, invN a k < pp
  | 0 => show 1 < pp by decide
  | k + 1 => by show (if k = 252 ∨ k = 250 then _ else _) < pp; split <;> exact wT_lt _ _
theorem wT_E {a b : Nat} (ha : a < pp) (hb : b < pp) : E (wT a b) (a * b) := by
  unfold wT; rw [small_pp ha, small_pp hb]; exact E.mod _
theorem wP_E' {a b : Nat} (ha : a < pp) (hb : b < pp) : E (wP a b) (a + b) := by
  have := wP_E ha b; rwa [small_pp hb] at this
theorem subN_E' {a b : Nat} (ha : a < pp) (hb : b < pp) : E (subN a b + b) a := by
  have := subN_E ha b; rwa [small_pp hb] at this
theorem invN_E {a : Nat} (ha : a < pp) : ∀ k, E (invN a k) (a ^ exI k)
  | 0 => rfl
  | k + 1 => by
    have h := invN_E ha k
    have hl := invN_lt a k
    have h2 : E (wT (invN a k) (invN a k)) (a ^ (2 * exI k)) := (wT_E hl hl).trans ((h.mul h).trans (E.of (by rw [← Nat.pow_add]; congr 1; omega)))
    show E (if k = 252 ∨ k = 250 then _ else _) (a ^ (2 * exI k + (if k = 252 ∨ k = 250 then 0 else 1)))
    split
    · exact h2
    · exact (wT_E (wT_lt _ _) ha).trans (h2.mul (E.rfl' _))

/-- What the ladder answers. -/
def ladN (n u : Nat) : Nat := wT (refS n u 255).x2 (invN (refS n u 255).z2 255)
theorem ladN_lt (n u : Nat) : ladN n u < pp := wT_lt _ _

/-- Two places, by limbs. -/
structure L4 where
  a : L5
  b : L5
  c : L5
  d : L5
structure L4.ok (l : L4) : Prop where
  a : l.a.ok
  b : l.b.ok
  c : l.c.ok
  d : l.d.ok
def L4.sw (b : Bool) (l : L4) : L4 := if b then ⟨l.c, l.d, l.a, l.b⟩ else l
theorem L4.ok.sw {l : L4} (h : l.ok) (b : Bool) : (l.sw b).ok := by
  cases b
  · exact h
  · exact ⟨h.c, h.d, h.a, h.b⟩
theorem L4.sw_sw (l : L4) (b c : Bool) : (l.sw b).sw c = l.sw (b != c) := by
  cases b <;> cases c <;> rfl
/-- It stands for the numbers. -/
structure L4.for (l : L4) (q : Q4) : Prop where
  a : E l.a.val q.x2
  b : E l.b.val q.z2
  c : E l.c.val q.x3
  d : E l.d.val q.z3
theorem L4.for.sw {l : L4} {q : Q4} (h : l.for q) (b : Bool) : (l.sw b).for (q.sw b) := by
  cases b
  · exact h
  · exact ⟨h.c, h.d, h.a, h.b⟩

def sA (l : L4) : L5 := l.a.plus l.b
def sB (l : L4) : L5 := l.a.minus l.b
def sC (l : L4) : L5 := l.c.plus l.d
def sD (l : L4) : L5 := l.c.minus l.d
def sAA (l : L4) : L5 := (sA l).carry.tim (sA l)
def sBB (l : L4) : L5 := (sB l).carry.tim (sB l)
def sE (l : L4) : L5 := (sAA l).minus (sBB l)
def sDA (l : L4) : L5 := (sD l).carry.tim (sA l)
def sCB (l : L4) : L5 := (sC l).carry.tim (sB l)
def sS (l : L4) : L5 := (sDA l).plus (sCB l)
def sT (l : L4) : L5 := (sDA l).minus (sCB l)
def sF (l : L4) : L5 := (L5.mk 121665 0 0 0 0).carry.tim (sE l)
def sG (l : L4) : L5 := (sAA l).plus (sF l)
def lstepL (u : L5) (l : L4) : L4 := ⟨(sAA l).carry.tim (sBB l), (sE l).carry.tim (sG l), (sS l).carry.tim (sS l), (u.carry.tim (sT l)).tim (sT l)⟩

section
variable {l : L4} (h : l.ok)
include h
theorem sA_ok : (sA l).ok := L5.plus_ok h.a h.b
theorem sB_ok : (sB l).ok := L5.minus_ok h.a
theorem sC_ok : (sC l).ok := L5.plus_ok h.c h.d
theorem sD_ok : (sD l).ok := L5.minus_ok h.c
theorem sAA_ok : (sAA l).ok := L5.tim_ok (sA_ok h).carry (sA_ok h)
theorem sBB_ok : (sBB l).ok := L5.tim_ok (sB_ok h).carry (sB_ok h)
theorem sE_ok : (sE l).ok := L5.minus_ok (sAA_ok h)
theorem sDA_ok : (sDA l).ok := L5.tim_ok (sD_ok h).carry (sA_ok h)
theorem sCB_ok : (sCB l).ok := L5.tim_ok (sC_ok h).carry (sB_ok h)
theorem sS_ok : (sS l).ok := L5.plus_ok (sDA_ok h) (sCB_ok h)
theorem sT_ok : (sT l).ok := L5.minus_ok (sDA_ok h)
theorem sF_ok : (sF l).ok := L5.tim_ok (small_ok (n := 121665) (by decide)).carry (sE_ok h)
theorem sG_ok : (sG l).ok := L5.plus_ok (sAA_ok h) (sF_ok h)
theorem lstepL_ok {u : L5} (hu : u.ok) : (lstepL u l).ok :=
  ⟨L5.tim_ok (sAA_ok h).carry (sBB_ok h), L5.tim_ok (sE_ok h).carry (sG_ok h), L5.tim_ok (sS_ok h).carry (sS_ok h), L5.tim_ok (L5.tim_ok hu.carry (sT_ok h)) (sT_ok h)⟩
end

theorem plus_for {x y : L5} {a b : Nat} (ha : a < pp) (hb : b < pp) (h : E x.val a) (k : E y.val b) : E (x.plus y).val (wP a b) := (E_plus _ _).trans ((h.add k).trans (wP_E' ha hb).symm)
theorem minus_for {x y : L5} {a b : Nat} (hy : y.ok) (ha : a < pp) (hb : b < pp) (h : E x.val a) (k : E y.val b) : E (x.minus y).val (subN a b) :=
  (((E_minus x y hy).trans (h.trans (subN_E' ha hb).symm)).trans ((E.rfl' _).add k.symm)).cancel
theorem tim_for {x y : L5} {a b : Nat} (ha : a < pp) (hb : b < pp) (h : E x.val a) (k : E y.val b) : E (x.carry.tim y).val (wT a b) := (E_tim _ _).trans ((((E_carry x).trans h).mul k).trans (wT_E ha hb).symm)

theorem lstepL_for {l : L4} {q : Q4} {u : L5} {un : Nat} (h : l.ok) (hq : q.ok) (hun : un < pp) (hu : E u.val un) (f : l.for q) : (lstepL u l).for (lstep un q) := by
  have fA : E (sA l).val (stA q) := plus_for hq.a hq.b f.a f.b
  have fB : E (sB l).val (stB q) := minus_for h.b hq.a hq.b f.a f.b
  have fC : E (sC l).val (stC q) := plus_for hq.c hq.d f.c f.d
  have fD : E (sD l).val (stD q) := minus_for h.d hq.c hq.d f.c f.d
  have lA : stA q < pp := wP_lt _ _
  have lB : stB q < pp := subN_lt _ _
  have lC : stC q < pp := wP_lt _ _
  have lD : stD q < pp := subN_lt _ _
  have fAA : E (sAA l).val (wT (stA q) (stA q)) := tim_for lA lA fA fA
  have fBB : E (sBB l).val (wT (stB q) (stB q)) := tim_for lB lB fB fB
  have fE : E (sE l).val (stE q) := minus_for (sBB_ok h) (wT_lt _ _) (wT_lt _ _) fAA fBB
  have lE : stE q < pp := subN_lt _ _
  have fDA : E (sDA l).val (stDA q) := tim_for lD lA fD fA
  have fCB : E (sCB l).val (stCB q) := tim_for lC lB fC fB
  have lDA : stDA q < pp := wT_lt _ _
  have lCB : stCB q < pp := wT_lt _ _
  have fS : E (sS l).val (stS q) := plus_for lDA lCB fDA fCB
  have fT : E (sT l).val (stM q) := minus_for (sCB_ok h) lDA lCB fDA fCB
  have lS : stS q < pp := wP_lt _ _
  have lM : stM q < pp := subN_lt _ _
  have fF : E (sF l).val (wT 121665 (stE q)) := tim_for (by decide) lE (by rw [small_val]; exact rfl) fE
  have fG : E (sG l).val (wP (wT (stA q) (stA q)) (wT 121665 (stE q))) := plus_for (wT_lt _ _) (wT_lt _ _) fAA fF
  refine ⟨tim_for (wT_lt _ _) (wT_lt _ _) fAA fBB, tim_for lE (wP_lt _ _) fE fG, tim_for lS lS fS fS, ?_⟩
  refine (E_tim _ _).trans ((((E_tim _ _).trans (((E_carry u).trans hu).mul fT)).mul fT).trans ?_)
  refine (E.of (Nat.mul_assoc _ _ _)).trans ?_
  exact (((E.rfl' un).mul (wT_E lM lM).symm)).trans (wT_E hun (wT_lt _ _)).symm

/-- The code's places, behind 'k' steps: they are swapped back by the last bit. -/
def codS (n : Nat) (u : L5) : Nat → L4 × Bool
  | 0 => (⟨⟨1, 0, 0, 0, 0⟩, ⟨0, 0, 0, 0, 0⟩, u, ⟨1, 0, 0, 0, 0⟩⟩, false)
  | k + 1 => (lstepL u ((codS n u k).1.sw (sbit n (254 - k) != (codS n u k).2)), sbit n (254 - k))
theorem codS_ok {n : Nat} {u : L5} (hu : u.ok) : ∀ k, (codS n u k).1.ok
  | 0 => ⟨small_ok (n := 1) (by decide), small_ok (n := 0) (by decide), hu, small_ok (n := 1) (by decide)⟩
  | k + 1 => lstepL_ok ((codS_ok hu k).sw _) hu
theorem codS_for {n un : Nat} {u : L5} (hu : u.ok) (hun : un < pp) (e : E u.val un) : ∀ k, ((codS n u k).1.sw (codS n u k).2).for (refS n un k)
  | 0 => ⟨by show E (L5.mk 1 0 0 0 0).val 1; rw [small_val]; exact rfl, by show E (L5.mk 0 0 0 0 0).val 0; rw [small_val]; exact rfl, e, by show E (L5.mk 1 0 0 0 0).val 1; rw [small_val]; exact rfl⟩
  | k + 1 => by
    have ih := (codS_for (n := n) hu hun e k).sw (sbit n (254 - k))
    rw [L4.sw_sw] at ih
    have e1 : ((codS n u k).2 != sbit n (254 - k)) = (sbit n (254 - k) != (codS n u k).2) := by cases (codS n u k).2 <;> cases sbit n (254 - k) <;> rfl
    rw [e1] at ih
    exact (lstepL_for ((codS_ok hu k).sw _) ((refS_ok hun k).sw _) hun e ih).sw _

/-- What the code answers. -/
theorem cod_val {n un : Nat} {u : L5} (hu : u.ok) (hun : un < pp) (e : E u.val un) {l : L4} (hl : l = (codS n u 255).1.sw (codS n u 255).2) :
    (l.a.carry.tim (invI l.b.carry 255)).val % pp = ladN n un := by
  have f := codS_for (n := n) hu hun e 255
  rw [← hl] at f
  have hq := refS_ok (n := n) hun 255
  have h1 : E (invI l.b.carry 255).val (invN (refS n un 255).z2 255) := (invI_E _ 255).trans (((show E _ _ from by
    unfold E; rw [Nat.pow_mod, L5.carry_mod, ← Nat.pow_mod]) : E (l.b.carry.val ^ exI 255) (l.b.val ^ exI 255)).trans ((show E _ _ from by
    unfold E; rw [Nat.pow_mod, show l.b.val % pp = (refS n un 255).z2 % pp from f.b, ← Nat.pow_mod]) : E (l.b.val ^ exI 255) ((refS n un 255).z2 ^ exI 255)) |>.trans (invN_E hq.b 255).symm)
  exact (tim_for hq.a (invN_lt _ _) f.a h1).small (wT_lt _ _)
end Go.Cab

/- Powers modulo the modulus: what isn't 0, to the power of the modulus less 1, is 1. -/
import Derived.Test.YtjkckdiepdbfeaaCabP1
import Derived.Test.YtjkckdiepdbfeaaCabM1
set_option linter.unusedSimpArgs false
set_option linter.unusedVariables false
set_option linter.unusedSectionVars false
namespace Go.Cab

theorem fermat_gen {p g a : Nat} (hp : 1 < p) (h1 : g ^ (p - 1) % p = 1) (hl : ∀ j, 0 < j → j < p - 1 → g ^ j % p ≠ 1) (ha : a % p ≠ 0) : a ^ (p - 1) % p = 1 := by
  have hd0 : 1 % p = 1 := Nat.mod_eq_of_lt hp
  have hmem : a % p ∈ (List.range (p - 1)).map fun i => g ^ i % p := by
    refine Classical.byContradiction fun hx => ?_
    have h2 := card_le p (0 :: a % p :: (List.range (p - 1)).map fun i => g ^ i % p) (List.nodup_cons.2 ⟨fun h => by
      rcases List.mem_cons.1 h with h | h
      · exact ha h.symm
      · obtain ⟨i, hi, e⟩ := List.mem_map.1 h
        exact power_pos hp h1 (by simpa using hi) e, List.nodup_cons.2 ⟨hx, powers_nodup hp h1 hl⟩⟩) (fun x hx => by
      rcases List.mem_cons.1 hx with rfl | hx
      · omega
      · rcases List.mem_cons.1 hx with rfl | hx
        · exact Nat.mod_lt _ (by omega)
        · obtain ⟨i, _, rfl⟩ := List.mem_map.1 hx; exact Nat.mod_lt _ (by omega))
    simp only [List.length_cons, List.length_map, List.length_range] at h2
    omega
  obtain ⟨i, _, e⟩ := List.mem_map.1 hmem
  rw [Nat.pow_mod, ← e, ← Nat.pow_mod, ← Nat.pow_mul, Nat.mul_comm, Nat.pow_mul, Nat.pow_mod, h1, Nat.one_pow, hd0]

theorem pr2 : Pr 2 := small_pr 0 (by decide) (by decide) (by decide)
theorem pr3 : Pr 3 := small_pr 0 (by decide) (by decide) (by decide)
theorem pr65147 : Pr 65147 := small_pr 254 (by decide) (by decide) (by kernel_rfl)

/-- A prime whose share the order has. -/
theorem share {g m r e N p : Nat} (hp : 1 < p) (hp2 : N / r < 2 ^ 256) (hr : Pr r) (h1 : g ^ m % p = 1) (hm : m ∣ N) (hd : r ^ e ∣ N) (hr1 : r ∣ N) (hne : pwm p g 256 (N / r) ≠ 1) : r ^ e ∣ m := by
  refine dvd_order hr hm (fun ⟨t, ht⟩ => hne ?_) hd hr1
  rw [pwm_eq p 256 _ _ hp2, ht, Nat.pow_mul, Nat.pow_mod, h1, Nat.one_pow]
  exact Nat.mod_eq_of_lt hp

theorem two_order : ∀ j, 0 < j → j < pp - 1 → 2 ^ j % pp ≠ 1 := by
  have hp : 1 < pp := by decide
  have e1 : 2 ^ (pp - 1) % pp = 1 := by
    rw [← pwm_eq pp 256 2 (pp - 1) (by decide)]; kernel_rfl
  obtain ⟨m, hm0, hm1, hml⟩ := least_exp (by decide) e1
  have hmd := exp_dvd hm1 hml hm0 e1
  have s1 := share (e := 2) hp (by decide) pr2 hm1 hmd (by decide) (by decide) (fun h => absurd (show (pwm pp 2 256 ((pp - 1) / 2) == 1) = false by kernel_rfl) (by rw [h]; decide))
  have s2 := share (e := 1) hp (by decide) pr3 hm1 hmd (by decide) (by decide) (fun h => absurd (show (pwm pp 2 256 ((pp - 1) / 3) == 1) = false by kernel_rfl) (by rw [h]; decide))
  have s3 := share (e := 1) hp (by decide) pr65147 hm1 hmd (by decide) (by decide) (fun h => absurd (show (pwm pp 2 256 ((pp - 1) / 65147) == 1) = false by kernel_rfl) (by rw [h]; decide))
  have s4 := share (e := 1) hp (by decide) pr7405 hm1 hmd (by decide) (by decide) (fun h => absurd (show (pwm pp 2 256 ((pp - 1) / 74058212732561358302231226437062788676166966415465897661863160754340907) == 1) = false by kernel_rfl) (by rw [h]; decide))
  have t1 := Nat.Coprime.mul_dvd_of_dvd_of_dvd (by decide) s1 s2
  have t2 := Nat.Coprime.mul_dvd_of_dvd_of_dvd (by decide) t1 s3
  have t3 := Nat.Coprime.mul_dvd_of_dvd_of_dvd (by decide) t2 s4
  have e2 : 2 ^ 2 * 3 ^ 1 * 65147 ^ 1 * 74058212732561358302231226437062788676166966415465897661863160754340907 ^ 1 = pp - 1 := by decide
  rw [e2] at t3
  have : m = pp - 1 := Nat.dvd_antisymm hmd t3
  rw [← this]
  exact hml

/-- What isn't 0. -/
theorem fermat {a : Nat} (ha : a % pp ≠ 0) : a ^ (pp - 1) % pp = 1 :=
  fermat_gen (by decide) (by rw [← pwm_eq pp 256 2 (pp - 1) (by decide)]; kernel_rfl) two_order ha

end Go.Cab

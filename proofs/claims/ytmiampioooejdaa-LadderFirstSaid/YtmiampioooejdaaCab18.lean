/- Part 18 of what the proof stands on: D1, D2, D3, D4, W5. -/
import Derived.Test.YtmiampioooejdaaCab12
import Derived.Test.YtmiampioooejdaaCab13
import Derived.Test.YtmiampioooejdaaCab16
set_option linter.unusedSimpArgs false
set_option linter.unusedVariables false
set_option linter.unusedSectionVars false
/- Numbers modulo the modulus as integers; the curve x^2 + y^2 = 1 + d x^2 y^2 and its sums. -/
namespace Go.Cab

/-- Alike modulo the modulus. -/
def I (a b : Int) : Prop := (pp : Int) ∣ a - b
theorem I.rfl' (a : Int) : I a a := ⟨0, by simp⟩
theorem I.of {a b : Int} (h : a = b) : I a b := h ▸ I.rfl' a
theorem I.symm {a b : Int} (h : I a b) : I b a := by obtain ⟨k, h⟩ := h; exact ⟨-k, by rw [Int.mul_neg, ← h]; omega⟩
theorem I.trans {a b c : Int} (h : I a b) (k : I b c) : I a c := by
  obtain ⟨i, h⟩ := h; obtain ⟨j, k⟩ := k; exact ⟨i + j, by rw [Int.mul_add, ← h, ← k]; omega⟩
theorem I.add {a b c e : Int} (h : I a b) (k : I c e) : I (a + c) (b + e) := by
  obtain ⟨i, h⟩ := h; obtain ⟨j, k⟩ := k; exact ⟨i + j, by rw [Int.mul_add, ← h, ← k]; omega⟩
theorem I.sub {a b c e : Int} (h : I a b) (k : I c e) : I (a - c) (b - e) := by
  obtain ⟨i, h⟩ := h; obtain ⟨j, k⟩ := k; exact ⟨i - j, by rw [Int.mul_sub, ← h, ← k]; omega⟩
theorem I.mulr {a b : Int} (h : I a b) (c : Int) : I (a * c) (b * c) := by
  obtain ⟨i, h⟩ := h; exact ⟨i * c, by rw [← Int.mul_assoc, ← h, Int.sub_mul]⟩
theorem I.mull {a b : Int} (h : I a b) (c : Int) : I (c * a) (c * b) := by
  obtain ⟨i, h⟩ := h; exact ⟨c * i, by rw [Int.mul_left_comm, ← h, Int.mul_sub]⟩
theorem I.mul {a b c e : Int} (h : I a b) (k : I c e) : I (a * c) (b * e) := (h.mulr c).trans (k.mull b)
theorem I.zmul {a : Int} (h : I a 0) (c : Int) : I (c * a) 0 := by have := h.mull c; rwa [Int.mul_zero] at this
theorem I.sub0 {a b : Int} (h : I (a - b) 0) : I a b := by unfold I at *; rwa [Int.sub_zero] at h
theorem I.to0 {a b : Int} (h : I a b) : I (a - b) 0 := by unfold I at *; rwa [Int.sub_zero]

theorem E.I {a b : Nat} (h : a % pp = b % pp) : Go.Cab.I a b := by
  unfold Go.Cab.I
  refine ⟨(a / pp : Nat) - (b / pp : Nat), ?_⟩
  have h1 := Nat.div_add_mod a pp
  have h2 := Nat.div_add_mod b pp
  rw [h] at h1
  rw [Int.mul_sub, ← Int.natCast_mul, ← Int.natCast_mul]
  omega
theorem I.E {a b : Nat} (h : I a b) : a % pp = b % pp := by
  obtain ⟨k, h⟩ := h
  unfold pp at *
  omega
theorem rep_nat (a : Int) : ∃ n : Nat, I a n := by
  have h1 : 0 ≤ a % (pp : Int) := Int.emod_nonneg _ (by decide)
  refine ⟨(a % (pp : Int)).toNat, a / pp, ?_⟩
  rw [Int.toNat_of_nonneg h1]
  have := Int.mul_ediv_add_emod a pp
  omega
theorem pow_last' (x : Nat) : x * x ^ (pp - 2) = x ^ (pp - 1) := by
  rw [Nat.mul_comm, ← Nat.pow_succ]; congr 1
/-- What isn't 0 has an inverse. -/
theorem inv_ex {a : Int} (h : ¬ I a 0) : ∃ b, I (a * b) 1 := by
  obtain ⟨n, hn⟩ := rep_nat a
  have h0 : n % pp ≠ 0 := fun h0 => h (hn.trans (by have := E.I (a := n) (b := 0) (by rw [h0]; decide); simpa using this))
  refine ⟨((n ^ (pp - 2) : Nat) : Int), (hn.mulr _).trans ?_⟩
  rw [← Int.natCast_mul, pow_last']
  exact E.I (b := 1) (by rw [fermat h0]; decide)
theorem I_prime {a b : Int} (h : I (a * b) 0) (ha : ¬ I a 0) : I b 0 := by
  obtain ⟨c, hc⟩ := inv_ex ha
  have h1 : I (c * (a * b)) 0 := h.zmul c
  have h2 : c * (a * b) = (a * c) * b := by rw [← Int.mul_assoc, Int.mul_comm c a]
  rw [h2] at h1
  have h3 := hc.mulr b
  rw [Int.one_mul] at h3
  exact h3.symm.trans h1
theorem I_nz {a b : Int} (ha : ¬ I a 0) (hb : ¬ I b 0) : ¬ I (a * b) 0 := fun h => hb (I_prime h ha)
theorem I_cancel {a b c : Int} (h : I (a * c) (b * c)) (hc : ¬ I c 0) : I a b := by
  have h1 := h.to0
  rw [← Int.sub_mul, Int.mul_comm] at h1
  exact (I_prime h1 hc).sub0
theorem one_nz : ¬ I 1 0 := fun ⟨k, h⟩ => by
  simp only [Int.sub_zero] at h
  unfold pp at h; omega
theorem two_nz : ¬ I 2 0 := fun ⟨k, h⟩ => by
  simp only [Int.sub_zero] at h
  unfold pp at h; omega

/-- The curve's number: 121665 / 121666. -/
def ddN : Nat := 20800338683988658368647408995589388737092878452977063003340006470870624536394
def dd : Int := (ddN : Int)
theorem dd_def : I (121666 * dd) 121665 := E.I (a := 121666 * ddN) (b := 121665) (by decide)
theorem dd_nosq (s : Int) : ¬ I (s * s) dd := fun h => by
  obtain ⟨n, hn⟩ := rep_nat s
  have h1 : (n * n) % pp = ddN % pp := I.E ((hn.mul hn).symm.trans h)
  have h2 : n % pp ≠ 0 := fun h0 => by
    rw [Nat.mul_mod, h0] at h1
    exact absurd h1 (by decide)
  have h3 : (n * n) ^ ((pp - 1) / 2) % pp = 1 := by
    have e : n * n = n ^ 2 := (Nat.pow_two n).symm
    rw [e, ← Nat.pow_mul, show 2 * ((pp - 1) / 2) = pp - 1 by decide]
    exact fermat h2
  rw [Nat.pow_mod, h1, ← Nat.pow_mod, ← pwm_eq pp 256 ddN _ (by decide)] at h3
  exact absurd h3 (by rw [show (pwm pp ddN 256 ((pp - 1) / 2)) = pp - 1 by kernel_rfl]; decide)

def cv (x y : Int) : Int := x * x + y * y - 1 - dd * (x * x) * (y * y)

/-- The denominators are never 0. -/
theorem den_core {x1 y1 x2 y2 e : Int} (h1 : I (cv x1 y1) 0) (h2 : I (cv x2 y2) 0) (he : e = dd * x1 * x2 * y1 * y2) (hs : I (e * e) 1) : False := by
  have hx : ∀ s : Int, s * s = 1 → I ((x1 + s * e * y1) * (x1 + s * e * y1)) (dd * ((x1 * y1 * (x2 + s * y2)) * (x1 * y1 * (x2 + s * y2)))) := by
    intro s hs1
    have e1 : (x1 + s * e * y1) * (x1 + s * e * y1) - dd * ((x1 * y1 * (x2 + s * y2)) * (x1 * y1 * (x2 + s * y2))) = cv x1 y1 + (e * e - 1) * (y1 * y1 - 1) - dd * (x1 * x1) * (y1 * y1) * cv x2 y2 := by
      unfold cv; subst he; grind
    refine I.sub0 ?_
    rw [e1]
    have a1 : I (cv x1 y1 + (e * e - 1) * (y1 * y1 - 1)) (0 + 0) := h1.add (by have := hs.to0.mulr (y1 * y1 - 1); rwa [Int.zero_mul] at this)
    exact a1.sub (h2.zmul _)
  have hz : ∀ s : Int, s * s = 1 → I (x1 * y1 * (x2 + s * y2)) 0 := by
    intro s hs1
    refine Classical.byContradiction fun hn => ?_
    obtain ⟨c, hc⟩ := inv_ex hn
    refine dd_nosq ((x1 + s * e * y1) * c) ?_
    have e1 : ((x1 + s * e * y1) * c) * ((x1 + s * e * y1) * c) = ((x1 + s * e * y1) * (x1 + s * e * y1)) * (c * c) := by grind
    rw [e1]
    refine ((hx s hs1).mulr _).trans ?_
    have e2 : dd * ((x1 * y1 * (x2 + s * y2)) * (x1 * y1 * (x2 + s * y2))) * (c * c) = dd * (((x1 * y1 * (x2 + s * y2)) * c) * ((x1 * y1 * (x2 + s * y2)) * c)) := by grind
    rw [e2]
    have := (hc.mul hc).mull dd
    simpa using this
  have z1 := hz 1 (by decide)
  have z2 := hz (-1) (by decide)
  have z3 : I (2 * (x1 * y1 * y2)) 0 := by
    have := z1.sub z2
    have e1 : x1 * y1 * (x2 + 1 * y2) - x1 * y1 * (x2 + (-1) * y2) = 2 * (x1 * y1 * y2) := by grind
    rwa [e1] at this
  have z4 := I_prime z3 two_nz
  have z5 : I e 0 := by
    have e1 : e = (dd * x2) * (x1 * y1 * y2) := by subst he; grind
    rw [e1]; exact z4.zmul _
  have z6 := z5.zmul e
  exact one_nz (hs.symm.trans z6)
theorem den_p {x1 y1 x2 y2 : Int} (h1 : I (cv x1 y1) 0) (h2 : I (cv x2 y2) 0) : ¬ I (1 + dd * x1 * x2 * y1 * y2) 0 := fun h => by
  refine den_core h1 h2 rfl ?_
  generalize dd * x1 * x2 * y1 * y2 = e at *
  have := h.zmul (e - 1)
  refine I.sub0 ?_
  have e1 : e * e - 1 = (e - 1) * (1 + e) := by grind
  rwa [e1]
theorem den_m {x1 y1 x2 y2 : Int} (h1 : I (cv x1 y1) 0) (h2 : I (cv x2 y2) 0) : ¬ I (1 - dd * x1 * x2 * y1 * y2) 0 := fun h => by
  refine den_core h1 h2 rfl ?_
  generalize dd * x1 * x2 * y1 * y2 = e at *
  have := h.zmul (-(e + 1))
  refine I.sub0 ?_
  have e1 : e * e - 1 = (-(e + 1)) * (1 - e) := by grind
  rwa [e1]

theorem on_core {x1 y1 x2 y2 X Y : Int} (h1 : I (cv x1 y1) 0) (h2 : I (cv x2 y2) 0) (hX : I (X * (1 + dd * x1 * x2 * y1 * y2)) (x1 * y2 + y1 * x2)) (hY : I (Y * (1 - dd * x1 * x2 * y1 * y2)) (y1 * y2 - x1 * x2)) : I (cv X Y) 0 := by
  have n1 := den_p h1 h2
  have n2 := den_m h1 h2
  have key : (x1 * y2 + y1 * x2) * (x1 * y2 + y1 * x2) * ((1 - dd * x1 * x2 * y1 * y2) * (1 - dd * x1 * x2 * y1 * y2)) + (y1 * y2 - x1 * x2) * (y1 * y2 - x1 * x2) * ((1 + dd * x1 * x2 * y1 * y2) * (1 + dd * x1 * x2 * y1 * y2)) - (1 + dd * x1 * x2 * y1 * y2) * (1 + dd * x1 * x2 * y1 * y2) * ((1 - dd * x1 * x2 * y1 * y2) * (1 - dd * x1 * x2 * y1 * y2)) - dd * ((x1 * y2 + y1 * x2) * (x1 * y2 + y1 * x2) * ((y1 * y2 - x1 * x2) * (y1 * y2 - x1 * x2)))
      = ((1)*(x2*x2*x2*x2) + (1)*(y2*y2*y2*y2) + (-2)*(x2*x2*y2*y2*y2*y2) + (-2)*(x2*x2*x2*x2*y2*y2) + (4)*(x2*x2*y2*y2) + (-1)*(dd*dd*x2*x2*x2*x2*y2*y2*y2*y2) + (-2)*(dd*x2*x2*y2*y2) + (2)*(dd*x2*x2*x2*x2*y2*y2*y2*y2) + (1)*(dd*dd*x1*x1*x2*x2*x2*x2*y2*y2*y2*y2) + (1)*(dd*dd*x2*x2*x2*x2*y1*y1*y2*y2*y2*y2) + (-1)*(dd*x1*x1*x2*x2*y2*y2*y2*y2) + (-1)*(dd*x1*x1*x2*x2*x2*x2*y2*y2) + (-1)*(dd*x2*x2*y1*y1*y2*y2*y2*y2) + (-1)*(dd*x2*x2*x2*x2*y1*y1*y2*y2) + (1)*(dd*dd*dd*x1*x1*x2*x2*x2*x2*y1*y1*y2*y2*y2*y2)) * cv x1 y1 + ((1)*(1) + (1)*(x2*x2) + (1)*(y2*y2) + (-1)*(x1*x1*x2*x2) + (-1)*(x1*x1*y2*y2) + (-1)*(x2*x2*y1*y1) + (-1)*(y1*y1*y2*y2) + (-2)*(x2*x2*y2*y2) + (1)*(dd*x2*x2*y2*y2) + (2)*(x1*x1*x2*x2*y2*y2) + (2)*(x2*x2*y1*y1*y2*y2) + (1)*(dd*x1*x1*x1*x1*x2*x2*y2*y2) + (1)*(dd*x2*x2*y1*y1*y1*y1*y2*y2) + (-2)*(dd*x1*x1*x2*x2*y2*y2) + (-2)*(dd*x2*x2*y1*y1*y2*y2)) * cv x2 y2 := by unfold cv; grind
  generalize 1 + dd * x1 * x2 * y1 * y2 = p at *
  generalize 1 - dd * x1 * x2 * y1 * y2 = m at *
  generalize x1 * y2 + y1 * x2 = nx at *
  generalize y1 * y2 - x1 * x2 = ny at *
  have e1 : ((p * p) * (m * m)) * cv X Y = ((X * p) * (X * p)) * (m * m) + ((Y * m) * (Y * m)) * (p * p) - p * p * (m * m) - dd * (((X * p) * (X * p)) * ((Y * m) * (Y * m))) := by unfold cv; grind
  have hh : I (((X * p) * (X * p)) * (m * m) + ((Y * m) * (Y * m)) * (p * p) - p * p * (m * m) - dd * (((X * p) * (X * p)) * ((Y * m) * (Y * m)))) (nx * nx * (m * m) + ny * ny * (p * p) - p * p * (m * m) - dd * (nx * nx * (ny * ny))) :=
    ((((hX.mul hX).mulr _).add ((hY.mul hY).mulr _)).sub (I.rfl' _)).sub (((hX.mul hX).mul (hY.mul hY)).mull _)
  rw [← e1, key] at hh
  have h0 : I (((p * p) * (m * m)) * cv X Y) 0 := hh.trans ((h1.zmul _).add (h2.zmul _))
  exact I_prime h0 (I_nz (I_nz n1 n1) (I_nz n2 n2))
set_option maxHeartbeats 8000000 in
theorem assoc_x {x1 y1 x2 y2 x3 y3 A B C D X X' : Int} (h1 : I (cv x1 y1) 0) (h2 : I (cv x2 y2) 0) (h3 : I (cv x3 y3) 0)
    (hA : I (A * (1 + dd * x1 * x2 * y1 * y2)) (x1 * y2 + y1 * x2)) (hB : I (B * (1 - dd * x1 * x2 * y1 * y2)) (y1 * y2 - x1 * x2))
    (hC : I (C * (1 + dd * x2 * x3 * y2 * y3)) (x2 * y3 + y2 * x3)) (hD : I (D * (1 - dd * x2 * x3 * y2 * y3)) (y2 * y3 - x2 * x3))
    (hX : I (X * (1 + dd * A * x3 * B * y3)) (A * y3 + B * x3)) (hX' : I (X' * (1 + dd * x1 * C * y1 * D)) (x1 * D + y1 * C)) : I X X' := by
  have o12 := on_core h1 h2 hA hB
  have o23 := on_core h2 h3 hC hD
  have k1 : ¬ I (1 + dd * A * x3 * B * y3) 0 := den_p o12 h3
  have k2 : ¬ I (1 + dd * x1 * C * y1 * D) 0 := den_p h1 o23
  have n1 := den_p h1 h2
  have n2 := den_m h1 h2
  have n3 := den_p h2 h3
  have n4 := den_m h2 h3
  have key : ∀ p m q w a b c e : Int, p = 1 + dd * x1 * x2 * y1 * y2 → m = 1 - dd * x1 * x2 * y1 * y2 → q = 1 + dd * x2 * x3 * y2 * y3 → w = 1 - dd * x2 * x3 * y2 * y3 → a = x1 * y2 + y1 * x2 → b = y1 * y2 - x1 * x2 → c = x2 * y3 + y2 * x3 → e = y2 * y3 - x2 * x3 →
      (a * (y3 * m) + b * (x3 * p)) * (q * w + dd * x1 * y1 * (c * e)) - (x1 * (e * q) + y1 * (c * w)) * (p * m + dd * (x3 * y3) * (a * b)) = ((1)*(dd*x1*x3*x2*x2*x2*y2*y2) + (1)*(dd*x1*x2*x2*y2*y2*y2*y3*y3*y3) + (1)*(dd*y1*x2*x2*x3*x3*x3*y2*y2*y2) + (1)*(dd*y1*x2*x2*x2*y2*y2*y3*y3*y3) + (-1)*(dd*x1*y3*x2*x2*y2*y2*y2) + (-1)*(dd*x1*x2*x2*x2*x3*x3*x3*y2*y2) + (-1)*(dd*x3*y1*x2*x2*y2*y2*y2) + (-1)*(dd*y1*y3*x2*x2*x2*y2*y2) + (1)*(dd*x1*x2*x3*y2*y2*y2*y2*y3*y3) + (1)*(x1*y3*dd*dd*x2*x2*x2*x2*x3*x3*y2*y2*y2) + (1)*(x3*y1*dd*dd*x2*x2*x2*x2*y2*y2*y2*y3*y3) + (1)*(y1*y3*dd*dd*x2*x2*x2*x3*x3*y2*y2*y2*y2) + (-1)*(dd*x1*y2*y3*x2*x2*x2*x2*x3*x3) + (-1)*(dd*x2*y1*y3*x3*x3*y2*y2*y2*y2) + (-1)*(dd*x3*y1*y2*x2*x2*x2*x2*y3*y3) + (-1)*(x1*x3*dd*dd*x2*x2*x2*y2*y2*y2*y2*y3*y3)) * cv x1 y1 + ((1)*(x1*x2*x3*x3*x3) + (1)*(x1*y2*y3) + (1)*(x2*x3*x1*x1*x1) + (1)*(x2*y1*y3) + (1)*(x2*y1*y1*y1*y3*y3*y3) + (1)*(x3*y1*y2) + (1)*(y2*x1*x1*x1*y3*y3*y3) + (1)*(y2*x3*x3*x3*y1*y1*y1) + (-1)*(x1*x2*x3) + (-1)*(x1*y2*y3*y3*y3) + (-1)*(x2*y1*y3*y3*y3) + (-1)*(x2*y3*y1*y1*y1) + (-1)*(x2*x1*x1*x1*x3*x3*x3) + (-1)*(x3*y2*y1*y1*y1) + (-1)*(y1*y2*x3*x3*x3) + (-1)*(y2*y3*x1*x1*x1) + (1)*(x1*x2*x3*y1*y1) + (1)*(x1*x2*x3*y3*y3) + (1)*(x1*y2*y1*y1*y3*y3*y3) + (1)*(x2*y1*x1*x1*y3*y3*y3) + (1)*(x2*y3*x3*x3*y1*y1*y1) + (1)*(x3*y2*y1*y1*y1*y3*y3) + (1)*(y1*y2*x1*x1*x3*x3*x3) + (1)*(y2*y3*x1*x1*x1*x3*x3) + (-1)*(x1*x2*x3*x3*x3*y1*y1) + (-1)*(x1*y2*y3*x3*x3) + (-1)*(x1*y2*y3*y1*y1) + (-1)*(x2*x3*x1*x1*x1*y3*y3) + (-1)*(x2*y1*y3*x1*x1) + (-1)*(x2*y1*y3*x3*x3) + (-1)*(x3*y1*y2*x1*x1) + (-1)*(x3*y1*y2*y3*y3) + (1)*(dd*x1*y2*x3*x3*y3*y3*y3) + (1)*(dd*x2*y1*x3*x3*y3*y3*y3) + (1)*(dd*x2*x1*x1*x1*x3*x3*x3*y3*y3) + (1)*(dd*y1*y2*x3*x3*x3*y3*y3) + (1)*(x1*y2*y3*x3*x3*y1*y1) + (1)*(x2*y1*y3*x1*x1*x3*x3) + (1)*(x3*y1*y2*x1*x1*y3*y3) + (-1)*(dd*x1*x2*x3*x3*x3*y3*y3) + (-1)*(dd*x2*x3*x3*y1*y1*y1*y3*y3*y3) + (-1)*(dd*y2*x1*x1*x1*x3*x3*y3*y3*y3) + (-1)*(dd*y2*x3*x3*x3*y1*y1*y1*y3*y3) + (-1)*(x1*x2*x3*y1*y1*y3*y3) + (1)*(dd*x1*x2*x3*y2*y2*y3*y3) + (1)*(dd*x1*x2*x3*x3*x3*y1*y1*y3*y3) + (1)*(dd*x2*y3*x3*x3*y1*y1*y1*y2*y2) + (1)*(dd*x3*y2*x2*x2*y1*y1*y1*y3*y3) + (1)*(dd*y2*y3*x1*x1*x1*x2*x2*x3*x3) + (-1)*(dd*x1*y2*y3*x2*x2*x3*x3) + (-1)*(dd*x1*y2*x3*x3*y1*y1*y3*y3*y3) + (-1)*(dd*x2*x3*x1*x1*x1*y2*y2*y3*y3) + (-1)*(dd*x2*y1*y3*x3*x3*y2*y2) + (-1)*(dd*x2*y1*x1*x1*x3*x3*y3*y3*y3) + (-1)*(dd*x3*y1*y2*x2*x2*y3*y3) + (-1)*(dd*y1*y2*x1*x1*x3*x3*x3*y3*y3) + (1)*(dd*x1*y2*y3*x2*x2*x3*x3*y1*y1) + (1)*(dd*x2*y1*y3*x1*x1*x3*x3*y2*y2) + (1)*(dd*x3*y1*y2*x1*x1*x2*x2*y3*y3) + (1)*(x1*x2*dd*dd*x3*x3*x3*y1*y1*y2*y2*y3*y3) + (-1)*(dd*x1*x2*x3*y1*y1*y2*y2*y3*y3) + (-1)*(x1*y2*dd*dd*x2*x2*x3*x3*y1*y1*y3*y3*y3) + (-1)*(x2*y1*dd*dd*x1*x1*x3*x3*y2*y2*y3*y3*y3) + (-1)*(y1*y2*dd*dd*x1*x1*x2*x2*x3*x3*x3*y3*y3)) * cv x2 y2 + ((1)*(x1*x2*x3) + (1)*(x1*y3*y2*y2*y2) + (1)*(x2*y3*y1*y1*y1) + (1)*(x3*y1*y2*y2*y2) + (1)*(x3*y2*y1*y1*y1) + (1)*(x3*x1*x1*x1*x2*x2*x2) + (1)*(y1*y3*x2*x2*x2) + (1)*(y2*y3*x1*x1*x1) + (-1)*(x1*x3*x2*x2*x2) + (-1)*(x1*y2*y3) + (-1)*(x2*x3*x1*x1*x1) + (-1)*(x2*y1*y3) + (-1)*(x3*y1*y2) + (-1)*(x3*y1*y1*y1*y2*y2*y2) + (-1)*(y3*x1*x1*x1*y2*y2*y2) + (-1)*(y3*x2*x2*x2*y1*y1*y1) + (1)*(x1*x3*x2*x2*x2*y1*y1) + (1)*(x1*y2*y3*x2*x2) + (1)*(x1*y2*y3*y1*y1) + (1)*(x2*x3*x1*x1*x1*y2*y2) + (1)*(x2*y1*y3*x1*x1) + (1)*(x2*y1*y3*y2*y2) + (1)*(x3*y1*y2*x1*x1) + (1)*(x3*y1*y2*x2*x2) + (-1)*(x1*x2*x3*y1*y1) + (-1)*(x1*x2*x3*y2*y2) + (-1)*(x1*y3*y1*y1*y2*y2*y2) + (-1)*(x2*y3*y1*y1*y1*y2*y2) + (-1)*(x3*y1*x1*x1*y2*y2*y2) + (-1)*(x3*y2*x2*x2*y1*y1*y1) + (-1)*(y1*y3*x1*x1*x2*x2*x2) + (-1)*(y2*y3*x1*x1*x1*x2*x2) + (1)*(x1*x2*x3*y1*y1*y2*y2) + (-1)*(x1*y2*y3*x2*x2*y1*y1) + (-1)*(x2*y1*y3*x1*x1*y2*y2) + (-1)*(x3*y1*y2*x1*x1*x2*x2) + (1)*(dd*x1*y2*y3*x2*x2*y1*y1) + (1)*(dd*x2*y1*y3*x1*x1*y2*y2) + (1)*(dd*x3*y1*y2*x1*x1*x2*x2) + (-1)*(dd*x1*x2*x3*y1*y1*y2*y2)) * cv x3 y3 := by
    intro p m q w a b c e rfl rfl rfl rfl rfl rfl rfl rfl
    unfold cv; grind
  have key := key _ _ _ _ _ _ _ _ rfl rfl rfl rfl rfl rfl rfl rfl
  generalize 1 + dd * x1 * x2 * y1 * y2 = p at *
  generalize 1 - dd * x1 * x2 * y1 * y2 = m at *
  generalize 1 + dd * x2 * x3 * y2 * y3 = q at *
  generalize 1 - dd * x2 * x3 * y2 * y3 = w at *
  generalize x1 * y2 + y1 * x2 = a at *
  generalize y1 * y2 - x1 * x2 = b at *
  generalize x2 * y3 + y2 * x3 = c at *
  generalize y2 * y3 - x2 * x3 = e at *
  have e1 : (p * m * (q * w)) * ((A * y3 + B * x3) * (1 + dd * x1 * C * y1 * D) - (x1 * D + y1 * C) * (1 + dd * A * x3 * B * y3)) = ((A * p) * (y3 * m) + (B * m) * (x3 * p)) * (q * w + dd * x1 * y1 * ((C * q) * (D * w))) - (x1 * ((D * w) * q) + y1 * ((C * q) * w)) * (p * m + dd * (x3 * y3) * ((A * p) * (B * m))) := by grind
  have hh := (((hA.mulr (y3 * m)).add (hB.mulr (x3 * p))).mul ((I.rfl' (q * w)).add ((hC.mul hD).mull (dd * x1 * y1)))).sub ((((hD.mulr q).mull x1).add ((hC.mulr w).mull y1)).mul ((I.rfl' (p * m)).add ((hA.mul hB).mull (dd * (x3 * y3)))))
  rw [← e1, key] at hh
  have h0 := hh.trans (((h1.zmul _).add (h2.zmul _)).add (h3.zmul _))
  have h00 := I_prime h0 (I_nz (I_nz n1 n2) (I_nz n3 n4))
  refine (I_prime (a := (1 + dd * A * x3 * B * y3) * (1 + dd * x1 * C * y1 * D)) ?_ (I_nz k1 k2)).sub0
  have e2 : (1 + dd * A * x3 * B * y3) * (1 + dd * x1 * C * y1 * D) * (X - X') = (X * (1 + dd * A * x3 * B * y3)) * (1 + dd * x1 * C * y1 * D) - (X' * (1 + dd * x1 * C * y1 * D)) * (1 + dd * A * x3 * B * y3) := by grind
  rw [e2]
  exact ((hX.mulr _).sub (hX'.mulr _)).trans h00
set_option maxHeartbeats 8000000 in
theorem assoc_y {x1 y1 x2 y2 x3 y3 A B C D X X' : Int} (h1 : I (cv x1 y1) 0) (h2 : I (cv x2 y2) 0) (h3 : I (cv x3 y3) 0)
    (hA : I (A * (1 + dd * x1 * x2 * y1 * y2)) (x1 * y2 + y1 * x2)) (hB : I (B * (1 - dd * x1 * x2 * y1 * y2)) (y1 * y2 - x1 * x2))
    (hC : I (C * (1 + dd * x2 * x3 * y2 * y3)) (x2 * y3 + y2 * x3)) (hD : I (D * (1 - dd * x2 * x3 * y2 * y3)) (y2 * y3 - x2 * x3))
    (hX : I (X * (1 - dd * A * x3 * B * y3)) (B * y3 - A * x3)) (hX' : I (X' * (1 - dd * x1 * C * y1 * D)) (y1 * D - x1 * C)) : I X X' := by
  have o12 := on_core h1 h2 hA hB
  have o23 := on_core h2 h3 hC hD
  have k1 : ¬ I (1 - dd * A * x3 * B * y3) 0 := den_m o12 h3
  have k2 : ¬ I (1 - dd * x1 * C * y1 * D) 0 := den_m h1 o23
  have n1 := den_p h1 h2
  have n2 := den_m h1 h2
  have n3 := den_p h2 h3
  have n4 := den_m h2 h3
  have key : ∀ p m q w a b c e : Int, p = 1 + dd * x1 * x2 * y1 * y2 → m = 1 - dd * x1 * x2 * y1 * y2 → q = 1 + dd * x2 * x3 * y2 * y3 → w = 1 - dd * x2 * x3 * y2 * y3 → a = x1 * y2 + y1 * x2 → b = y1 * y2 - x1 * x2 → c = x2 * y3 + y2 * x3 → e = y2 * y3 - x2 * x3 →
      (b * (y3 * p) - a * (x3 * m)) * (q * w - dd * x1 * y1 * (c * e)) - (y1 * (e * q) - x1 * (c * w)) * (p * m - dd * (x3 * y3) * (a * b)) = ((1)*(dd*x1*x3*x2*x2*y2*y2*y2) + (1)*(dd*x1*y3*x2*x2*x2*y2*y2) + (1)*(dd*x3*y1*x2*x2*x2*y2*y2) + (1)*(dd*y1*x2*x2*y2*y2*y2*y3*y3*y3) + (-1)*(dd*x1*x2*x2*x3*x3*x3*y2*y2*y2) + (-1)*(dd*x1*x2*x2*x2*y2*y2*y3*y3*y3) + (-1)*(dd*y1*y3*x2*x2*y2*y2*y2) + (-1)*(dd*y1*x2*x2*x2*x3*x3*x3*y2*y2) + (1)*(dd*x1*x2*y3*x3*x3*y2*y2*y2*y2) + (1)*(dd*x1*x3*y2*x2*x2*x2*x2*y3*y3) + (1)*(dd*x2*x3*y1*y2*y2*y2*y2*y3*y3) + (1)*(y1*y3*dd*dd*x2*x2*x2*x2*x3*x3*y2*y2*y2) + (-1)*(dd*y1*y2*y3*x2*x2*x2*x2*x3*x3) + (-1)*(x1*x3*dd*dd*x2*x2*x2*x2*y2*y2*y2*y3*y3) + (-1)*(x1*y3*dd*dd*x2*x2*x2*x3*x3*y2*y2*y2*y2) + (-1)*(x3*y1*dd*dd*x2*x2*x2*y2*y2*y2*y2*y3*y3)) * cv x1 y1 + ((1)*(x1*x2*y3*y3*y3) + (1)*(x1*y2*x3*x3*x3) + (1)*(x2*x3*y1*y1*y1) + (1)*(x2*y1*x3*x3*x3) + (1)*(x2*y3*x1*x1*x1) + (1)*(x3*y2*x1*x1*x1) + (1)*(y1*y2*y3) + (1)*(y2*y1*y1*y1*y3*y3*y3) + (-1)*(x1*x2*y3) + (-1)*(x1*x3*y2) + (-1)*(x2*x3*y1) + (-1)*(x2*x1*x1*x1*y3*y3*y3) + (-1)*(x2*x3*x3*x3*y1*y1*y1) + (-1)*(y1*y2*y3*y3*y3) + (-1)*(y2*y3*y1*y1*y1) + (-1)*(y2*x1*x1*x1*x3*x3*x3) + (1)*(x1*x2*y3*x3*x3) + (1)*(x1*x2*y3*y1*y1) + (1)*(x1*x3*y2*y1*y1) + (1)*(x1*x3*y2*y3*y3) + (1)*(x2*x3*y1*x1*x1) + (1)*(x2*x3*y1*y3*y3) + (1)*(y1*y2*x1*x1*y3*y3*y3) + (1)*(y2*y3*x3*x3*y1*y1*y1) + (-1)*(x1*x2*y1*y1*y3*y3*y3) + (-1)*(x1*y2*x3*x3*x3*y1*y1) + (-1)*(x2*x3*y1*y1*y1*y3*y3) + (-1)*(x2*y1*x1*x1*x3*x3*x3) + (-1)*(x2*y3*x1*x1*x1*x3*x3) + (-1)*(x3*y2*x1*x1*x1*y3*y3) + (-1)*(y1*y2*y3*x1*x1) + (-1)*(y1*y2*y3*x3*x3) + (1)*(dd*x2*x1*x1*x1*x3*x3*y3*y3*y3) + (1)*(dd*x2*x3*x3*x3*y1*y1*y1*y3*y3) + (1)*(dd*y1*y2*x3*x3*y3*y3*y3) + (1)*(dd*y2*x1*x1*x1*x3*x3*x3*y3*y3) + (1)*(y1*y2*y3*x1*x1*x3*x3) + (-1)*(dd*x1*x2*x3*x3*y3*y3*y3) + (-1)*(dd*x1*y2*x3*x3*x3*y3*y3) + (-1)*(dd*x2*y1*x3*x3*x3*y3*y3) + (-1)*(dd*y2*x3*x3*y1*y1*y1*y3*y3*y3) + (-1)*(x1*x2*y3*x3*x3*y1*y1) + (-1)*(x1*x3*y2*y1*y1*y3*y3) + (-1)*(x2*x3*y1*x1*x1*y3*y3) + (1)*(dd*x1*x2*y3*x3*x3*y2*y2) + (1)*(dd*x1*x2*x3*x3*y1*y1*y3*y3*y3) + (1)*(dd*x1*x3*y2*x2*x2*y3*y3) + (1)*(dd*x1*y2*x3*x3*x3*y1*y1*y3*y3) + (1)*(dd*x2*x3*y1*y2*y2*y3*y3) + (1)*(dd*x2*y1*x1*x1*x3*x3*x3*y3*y3) + (1)*(dd*y2*y3*x2*x2*x3*x3*y1*y1*y1) + (-1)*(dd*x2*x3*y1*y1*y1*y2*y2*y3*y3) + (-1)*(dd*x2*y3*x1*x1*x1*x3*x3*y2*y2) + (-1)*(dd*x3*y2*x1*x1*x1*x2*x2*y3*y3) + (-1)*(dd*y1*y2*y3*x2*x2*x3*x3) + (-1)*(dd*y1*y2*x1*x1*x3*x3*y3*y3*y3) + (1)*(dd*y1*y2*y3*x1*x1*x2*x2*x3*x3) + (1)*(x1*x2*dd*dd*x3*x3*y1*y1*y2*y2*y3*y3*y3) + (1)*(x1*y2*dd*dd*x2*x2*x3*x3*x3*y1*y1*y3*y3) + (1)*(x2*y1*dd*dd*x1*x1*x3*x3*x3*y2*y2*y3*y3) + (-1)*(dd*x1*x2*y3*x3*x3*y1*y1*y2*y2) + (-1)*(dd*x1*x3*y2*x2*x2*y1*y1*y3*y3) + (-1)*(dd*x2*x3*y1*x1*x1*y2*y2*y3*y3) + (-1)*(y1*y2*dd*dd*x1*x1*x2*x2*x3*x3*y3*y3*y3)) * cv x2 y2 + ((1)*(x1*x2*y3) + (1)*(x1*x3*y2) + (1)*(x2*x3*y1) + (1)*(x3*x1*x1*x1*y2*y2*y2) + (1)*(x3*x2*x2*x2*y1*y1*y1) + (1)*(y1*y3*y2*y2*y2) + (1)*(y2*y3*y1*y1*y1) + (1)*(y3*x1*x1*x1*x2*x2*x2) + (-1)*(x1*x3*y2*y2*y2) + (-1)*(x1*y3*x2*x2*x2) + (-1)*(x2*x3*y1*y1*y1) + (-1)*(x2*y3*x1*x1*x1) + (-1)*(x3*y1*x2*x2*x2) + (-1)*(x3*y2*x1*x1*x1) + (-1)*(y1*y2*y3) + (-1)*(y3*y1*y1*y1*y2*y2*y2) + (1)*(x1*x3*y1*y1*y2*y2*y2) + (1)*(x1*y3*x2*x2*x2*y1*y1) + (1)*(x2*x3*y1*y1*y1*y2*y2) + (1)*(x2*y3*x1*x1*x1*y2*y2) + (1)*(x3*y1*x1*x1*x2*x2*x2) + (1)*(x3*y2*x1*x1*x1*x2*x2) + (1)*(y1*y2*y3*x1*x1) + (1)*(y1*y2*y3*x2*x2) + (-1)*(x1*x2*y3*y1*y1) + (-1)*(x1*x2*y3*y2*y2) + (-1)*(x1*x3*y2*x2*x2) + (-1)*(x1*x3*y2*y1*y1) + (-1)*(x2*x3*y1*x1*x1) + (-1)*(x2*x3*y1*y2*y2) + (-1)*(y1*y3*x1*x1*y2*y2*y2) + (-1)*(y2*y3*x2*x2*y1*y1*y1) + (1)*(x1*x2*y3*y1*y1*y2*y2) + (1)*(x1*x3*y2*x2*x2*y1*y1) + (1)*(x2*x3*y1*x1*x1*y2*y2) + (-1)*(y1*y2*y3*x1*x1*x2*x2) + (1)*(dd*y1*y2*y3*x1*x1*x2*x2) + (-1)*(dd*x1*x2*y3*y1*y1*y2*y2) + (-1)*(dd*x1*x3*y2*x2*x2*y1*y1) + (-1)*(dd*x2*x3*y1*x1*x1*y2*y2)) * cv x3 y3 := by
    intro p m q w a b c e rfl rfl rfl rfl rfl rfl rfl rfl
    unfold cv; grind
  have key := key _ _ _ _ _ _ _ _ rfl rfl rfl rfl rfl rfl rfl rfl
  generalize 1 + dd * x1 * x2 * y1 * y2 = p at *
  generalize 1 - dd * x1 * x2 * y1 * y2 = m at *
  generalize 1 + dd * x2 * x3 * y2 * y3 = q at *
  generalize 1 - dd * x2 * x3 * y2 * y3 = w at *
  generalize x1 * y2 + y1 * x2 = a at *
  generalize y1 * y2 - x1 * x2 = b at *
  generalize x2 * y3 + y2 * x3 = c at *
  generalize y2 * y3 - x2 * x3 = e at *
  have e1 : (p * m * (q * w)) * ((B * y3 - A * x3) * (1 - dd * x1 * C * y1 * D) - (y1 * D - x1 * C) * (1 - dd * A * x3 * B * y3)) = ((B * m) * (y3 * p) - (A * p) * (x3 * m)) * (q * w - dd * x1 * y1 * ((C * q) * (D * w))) - (y1 * ((D * w) * q) - x1 * ((C * q) * w)) * (p * m - dd * (x3 * y3) * ((A * p) * (B * m))) := by grind
  have hh := (((hB.mulr (y3 * p)).sub (hA.mulr (x3 * m))).mul ((I.rfl' (q * w)).sub ((hC.mul hD).mull (dd * x1 * y1)))).sub ((((hD.mulr q).mull y1).sub ((hC.mulr w).mull x1)).mul ((I.rfl' (p * m)).sub ((hA.mul hB).mull (dd * (x3 * y3)))))
  rw [← e1, key] at hh
  have h0 := hh.trans (((h1.zmul _).add (h2.zmul _)).add (h3.zmul _))
  have h00 := I_prime h0 (I_nz (I_nz n1 n2) (I_nz n3 n4))
  refine (I_prime (a := (1 - dd * A * x3 * B * y3) * (1 - dd * x1 * C * y1 * D)) ?_ (I_nz k1 k2)).sub0
  have e2 : (1 - dd * A * x3 * B * y3) * (1 - dd * x1 * C * y1 * D) * (X - X') = (X * (1 - dd * A * x3 * B * y3)) * (1 - dd * x1 * C * y1 * D) - (X' * (1 - dd * x1 * C * y1 * D)) * (1 - dd * A * x3 * B * y3) := by grind
  rw [e2]
  exact ((hX.mulr _).sub (hX'.mulr _)).trans h00

/-- The sum and the difference of two points, by their second coordinates. -/
theorem diff_core {x1 y1 x2 y2 s t : Int} (h1 : I (cv x1 y1) 0) (h2 : I (cv x2 y2) 0) (hs : I (s * (1 - dd * x1 * x2 * y1 * y2)) (y1 * y2 - x1 * x2)) (ht : I (t * (1 + dd * x1 * x2 * y1 * y2)) (y1 * y2 + x1 * x2)) :
    I ((1 - s) * (1 - t) * ((y1 + y2) * (y1 + y2))) ((1 + s) * (1 + t) * ((y2 - y1) * (y2 - y1))) := by
  have n1 := den_p h1 h2
  have n2 := den_m h1 h2
  have key : ((1 - y1 * y2) * (1 - y1 * y2) - (dd * x1 * x2 * y1 * y2 - x1 * x2) * (dd * x1 * x2 * y1 * y2 - x1 * x2)) * ((y1 + y2) * (y1 + y2)) - ((1 + y1 * y2) * (1 + y1 * y2) - (dd * x1 * x2 * y1 * y2 + x1 * x2) * (dd * x1 * x2 * y1 * y2 + x1 * x2)) * ((y2 - y1) * (y2 - y1)) = ((-4)*(y1*y2*x2*x2) + (4)*(dd*y1*x2*x2*y2*y2*y2)) * cv x1 y1 + ((-4)*(y1*y2) + (4)*(y2*y1*y1*y1)) * cv x2 y2 := by unfold cv; grind
  generalize dd * x1 * x2 * y1 * y2 = e at *
  generalize y1 * y2 = f at *
  generalize x1 * x2 = g at *
  refine I.sub0 (I_prime (a := (1 + e) * (1 - e)) ?_ (I_nz n1 n2))
  have e1 : (1 + e) * (1 - e) * ((1 - s) * (1 - t) * ((y1 + y2) * (y1 + y2)) - (1 + s) * (1 + t) * ((y2 - y1) * (y2 - y1))) =
    ((1 - e) - s * (1 - e)) * ((1 + e) - t * (1 + e)) * ((y1 + y2) * (y1 + y2)) - ((1 - e) + s * (1 - e)) * ((1 + e) + t * (1 + e)) * ((y2 - y1) * (y2 - y1)) := by grind
  rw [e1]
  have hh := (((((I.rfl' (1 - e)).sub hs).mul ((I.rfl' (1 + e)).sub ht)).mulr ((y1 + y2) * (y1 + y2)))).sub (((((I.rfl' (1 - e)).add hs).mul ((I.rfl' (1 + e)).add ht)).mulr ((y2 - y1) * (y2 - y1))))
  refine hh.trans ?_
  have e2 : (1 - e - (f - g)) * (1 + e - (f + g)) * ((y1 + y2) * (y1 + y2)) - (1 - e + (f - g)) * (1 + e + (f + g)) * ((y2 - y1) * (y2 - y1)) = ((1 - f) * (1 - f) - (e - g) * (e - g)) * ((y1 + y2) * (y1 + y2)) - ((1 + f) * (1 + f) - (e + g) * (e + g)) * ((y2 - y1) * (y2 - y1)) := by grind
  rw [e2, key]
  exact (h1.zmul _).add (h2.zmul _)
end Go.Cab

/- Points of the curve, their sums and multiples; the ladder's step. -/
namespace Go.Cab

structure Ed where
  x : Int
  y : Int
def Ed.on (p : Ed) : Prop := I (cv p.x p.y) 0
noncomputable def iv (a : Int) : Int := open Classical in if h : ∃ b, I (a * b) 1 then Classical.choose h else 0
theorem iv_spec {a : Int} (h : ¬ I a 0) : I (a * iv a) 1 := by
  unfold iv
  rw [dif_pos (inv_ex h)]
  exact Classical.choose_spec (inv_ex h)
noncomputable def Ed.add (p q : Ed) : Ed := ⟨(p.x * q.y + p.y * q.x) * iv (1 + dd * p.x * q.x * p.y * q.y), (p.y * q.y - p.x * q.x) * iv (1 - dd * p.x * q.x * p.y * q.y)⟩
/-- The same point. -/
def Ed.eq (p q : Ed) : Prop := I p.x q.x ∧ I p.y q.y
theorem Ed.eq.rfl' (p : Ed) : p.eq p := ⟨I.rfl' _, I.rfl' _⟩
theorem Ed.eq.symm {p q : Ed} (h : p.eq q) : q.eq p := ⟨h.1.symm, h.2.symm⟩
theorem Ed.eq.trans {p q r : Ed} (h : p.eq q) (k : q.eq r) : p.eq r := ⟨h.1.trans k.1, h.2.trans k.2⟩
theorem Ed.eq.of {p q : Ed} (h : p = q) : p.eq q := h ▸ Ed.eq.rfl' p

theorem add_x {p q : Ed} (hp : p.on) (hq : q.on) : I ((p.add q).x * (1 + dd * p.x * q.x * p.y * q.y)) (p.x * q.y + p.y * q.x) := by
  have h := iv_spec (den_p hp hq)
  show I ((p.x * q.y + p.y * q.x) * iv (1 + dd * p.x * q.x * p.y * q.y) * (1 + dd * p.x * q.x * p.y * q.y)) _
  generalize 1 + dd * p.x * q.x * p.y * q.y = a at *
  have e : (p.x * q.y + p.y * q.x) * iv a * a = (p.x * q.y + p.y * q.x) * (a * iv a) := by grind
  rw [e]
  have := h.mull (p.x * q.y + p.y * q.x)
  rwa [Int.mul_one] at this
theorem add_y {p q : Ed} (hp : p.on) (hq : q.on) : I ((p.add q).y * (1 - dd * p.x * q.x * p.y * q.y)) (p.y * q.y - p.x * q.x) := by
  have h := iv_spec (den_m hp hq)
  show I ((p.y * q.y - p.x * q.x) * iv (1 - dd * p.x * q.x * p.y * q.y) * (1 - dd * p.x * q.x * p.y * q.y)) _
  generalize 1 - dd * p.x * q.x * p.y * q.y = a at *
  have e : (p.y * q.y - p.x * q.x) * iv a * a = (p.y * q.y - p.x * q.x) * (a * iv a) := by grind
  rw [e]
  have := h.mull (p.y * q.y - p.x * q.x)
  rwa [Int.mul_one] at this
theorem add_on {p q : Ed} (hp : p.on) (hq : q.on) : (p.add q).on := on_core hp hq (add_x hp hq) (add_y hp hq)
theorem add_comm' (p q : Ed) : p.add q = q.add p := by
  unfold Ed.add
  have e1 : dd * p.x * q.x * p.y * q.y = dd * q.x * p.x * q.y * p.y := by grind
  have e2 : p.x * q.y + p.y * q.x = q.x * p.y + q.y * p.x := by grind
  have e3 : p.y * q.y - p.x * q.x = q.y * p.y - q.x * p.x := by grind
  rw [e1, e2, e3]
theorem add_assoc' {p q r : Ed} (hp : p.on) (hq : q.on) (hr : r.on) : ((p.add q).add r).eq (p.add (q.add r)) :=
  ⟨assoc_x hp hq hr (add_x hp hq) (add_y hp hq) (add_x hq hr) (add_y hq hr) (add_x (add_on hp hq) hr) (add_x hp (add_on hq hr)),
   assoc_y hp hq hr (add_x hp hq) (add_y hp hq) (add_x hq hr) (add_y hq hr) (add_y (add_on hp hq) hr) (add_y hp (add_on hq hr))⟩
theorem on_congr {p q : Ed} (h : p.eq q) (hq : q.on) : p.on := by
  unfold Ed.on cv at *
  exact (((((h.1.mul h.1).add (h.2.mul h.2)).sub (I.rfl' 1)).sub (((h.1.mul h.1).mull dd).mul (h.2.mul h.2)))).trans hq
theorem add_congr {p p' q : Ed} (h : p.eq p') (hp : p'.on) (hq : q.on) : (p.add q).eq (p'.add q) := by
  have hon := on_congr h hp
  have d1 : I (dd * p.x * q.x * p.y * q.y) (dd * p'.x * q.x * p'.y * q.y) := ((((h.1.mull dd).mulr q.x).mul h.2).mulr q.y)
  refine ⟨I_cancel ?_ (den_p hp hq), I_cancel ?_ (den_m hp hq)⟩
  · have a1 := (((I.rfl' 1).add d1).mull (p.add q).x).symm.trans (add_x hon hq)
    exact (a1.trans ((h.1.mulr q.y).add (h.2.mulr q.x))).trans (add_x hp hq).symm
  · have a1 := (((I.rfl' 1).sub d1).mull (p.add q).y).symm.trans (add_y hon hq)
    exact (a1.trans ((h.2.mulr q.y).sub (h.1.mulr q.x))).trans (add_y hp hq).symm
theorem add_congr' {p q q' : Ed} (h : q.eq q') (hp : p.on) (hq : q'.on) : (p.add q).eq (p.add q') := by
  rw [add_comm' p q, add_comm' p q']
  exact add_congr h hq hp

def Ed.zero : Ed := ⟨0, 1⟩
theorem zero_on : Ed.zero.on := by unfold Ed.on Ed.zero cv; exact I.of (by grind)
theorem add_zero' {p : Ed} (hp : p.on) : (p.add Ed.zero).eq p := by
  have h1 := add_x hp zero_on
  have h2 := add_y hp zero_on
  simp only [Ed.zero, Int.mul_zero, Int.zero_mul, Int.add_zero, Int.sub_zero, Int.mul_one] at h1 h2
  exact ⟨h1, h2⟩
def Ed.neg (p : Ed) : Ed := ⟨-p.x, p.y⟩
theorem neg_on {p : Ed} (hp : p.on) : p.neg.on := by
  unfold Ed.on Ed.neg at *
  have e : cv (-p.x) p.y = cv p.x p.y := by unfold cv; grind
  rwa [e]
theorem add_neg {p : Ed} (hp : p.on) : (p.add p.neg).eq Ed.zero := by
  have hn := neg_on hp
  refine ⟨I_cancel ?_ (den_p hp hn), I_cancel ?_ (den_m hp hn)⟩
  · refine (add_x hp hn).trans (I.of ?_)
    simp only [Ed.neg, Ed.zero]; grind
  · refine (add_y hp hn).trans (I.sub0 ?_)
    simp only [Ed.neg, Ed.zero]
    have e : p.y * p.y - p.x * -p.x - 1 * (1 - dd * p.x * -p.x * p.y * p.y) = cv p.x p.y := by unfold cv; grind
    rw [e]; exact hp

noncomputable def smul (p : Ed) : Nat → Ed
  | 0 => Ed.zero
  | n + 1 => (smul p n).add p
theorem smul_on {p : Ed} (hp : p.on) : ∀ n, (smul p n).on
  | 0 => zero_on
  | n + 1 => add_on (smul_on hp n) hp
theorem smul_one {p : Ed} (hp : p.on) : (smul p 1).eq p := by
  show (Ed.zero.add p).eq p
  rw [add_comm']
  exact add_zero' hp
theorem smul_add {p : Ed} (hp : p.on) (m : Nat) : ∀ n, (smul p (m + n)).eq ((smul p m).add (smul p n))
  | 0 => (add_zero' (smul_on hp m)).symm
  | n + 1 => ((add_congr (smul_add hp m n) (add_on (smul_on hp m) (smul_on hp n)) hp)).trans (add_assoc' (smul_on hp m) (smul_on hp n) hp)
theorem smul_congr {p q : Ed} (h : p.eq q) (hq : q.on) : ∀ n, (smul p n).eq (smul q n)
  | 0 => Ed.eq.rfl' _
  | n + 1 => (add_congr (smul_congr h hq n) (smul_on hq n) (on_congr h hq)).trans (add_congr' h (smul_on hq n) hq)
theorem smul_mul {p : Ed} (hp : p.on) (m : Nat) : ∀ n, (smul (smul p m) n).eq (smul p (m * n))
  | 0 => Ed.eq.rfl' _
  | n + 1 => (add_congr (smul_mul hp m n) (smul_on hp _) (smul_on hp m)).trans (smul_add hp (m * n) m).symm
theorem smul_zero : ∀ n, (smul Ed.zero n).eq Ed.zero
  | 0 => Ed.eq.rfl' _
  | n + 1 => (add_congr (smul_zero n) zero_on zero_on).trans (add_zero' zero_on)

/-- A quotient that stands for a point's second coordinate: (1 + y) / (1 - y). -/
def Rep (X Z y : Int) : Prop := I (X * (1 - y)) (Z * (1 + y)) ∧ ¬ (I X 0 ∧ I Z 0)
theorem Rep.c {X Z y : Int} (h : Rep X Z y) : ∃ c, ¬ I c 0 ∧ I X (c * (1 + y)) ∧ I Z (c * (1 - y)) := by
  obtain ⟨k, hk⟩ := inv_ex two_nz
  have h1 := h.1
  have a1 : I (2 * X) (2 * ((X + Z) * k * (1 + y))) := by
    have e : 2 * ((X + Z) * k * (1 + y)) = (2 * k) * ((X + Z) * (1 + y)) := by grind
    rw [e]
    refine I.trans ?_ (hk.mulr _).symm
    rw [Int.one_mul]
    refine I.sub0 ?_
    have e2 : 2 * X - (X + Z) * (1 + y) = X * (1 - y) - Z * (1 + y) := by grind
    rw [e2]; exact h1.to0
  have a2 : I (2 * Z) (2 * ((X + Z) * k * (1 - y))) := by
    have e : 2 * ((X + Z) * k * (1 - y)) = (2 * k) * ((X + Z) * (1 - y)) := by grind
    rw [e]
    refine I.trans ?_ (hk.mulr _).symm
    rw [Int.one_mul]
    refine I.sub0 ?_
    have e2 : 2 * Z - (X + Z) * (1 - y) = Z * (1 + y) - X * (1 - y) := by grind
    rw [e2]; exact h1.symm.to0
  have b1 : I X ((X + Z) * k * (1 + y)) := by rw [Int.mul_comm 2, Int.mul_comm 2] at a1; exact I_cancel a1 two_nz
  have b2 : I Z ((X + Z) * k * (1 - y)) := by rw [Int.mul_comm 2, Int.mul_comm 2] at a2; exact I_cancel a2 two_nz
  refine ⟨(X + Z) * k, fun hc => h.2 ⟨?_, ?_⟩, b1, b2⟩
  · refine b1.trans ?_
    have := hc.mulr (1 + y); rwa [Int.zero_mul] at this
  · refine b2.trans ?_
    have := hc.mulr (1 - y); rwa [Int.zero_mul] at this

theorem I_sq {a : Int} (h : I (a * a) 0) : I a 0 := Classical.byContradiction fun hn => hn (I_prime h hn)
theorem one_sub_dd : I (121666 * (1 - dd)) 1 := by
  have := (I.rfl' 121666).sub dd_def
  have e : 121666 * (1 - dd) = 121666 - 121666 * dd := by grind
  rw [e]; exact this
theorem one_sub_nz : ¬ I (1 - dd) 0 := fun h => one_nz (one_sub_dd.symm.trans (h.zmul _))
theorem den_y (y : Int) : ¬ I (1 - dd * y * y) 0 := fun h => by
  have hy : ¬ I y 0 := fun h0 => by
    have := h0.zmul (dd * y)
    have z := (I.rfl' 1).sub this
    rw [Int.sub_zero] at z
    exact one_nz (z.symm.trans h)
  obtain ⟨k, hk⟩ := inv_ex hy
  refine dd_nosq k ?_
  have h1 : I 1 (dd * y * y) := h.sub0
  have h2 := h1.mulr (k * k)
  rw [Int.one_mul] at h2
  refine h2.trans ?_
  have e : dd * y * y * (k * k) = dd * ((y * k) * (y * k)) := by grind
  rw [e]
  have := (hk.mul hk).mull dd
  simpa using this

/-- Twice a point. -/
theorem dbl_rep {x y X Z y' X4 Z4 : Int} (hon : I (cv x y) 0) (hr : Rep X Z y) (hy : I (y' * (1 - dd * x * x * y * y)) (y * y - x * x))
    (hX : I X4 ((X + Z) * (X + Z) * ((X - Z) * (X - Z)))) (hZ : I Z4 (((X + Z) * (X + Z) - (X - Z) * (X - Z)) * ((X + Z) * (X + Z) + 121665 * ((X + Z) * (X + Z) - (X - Z) * (X - Z))))) : Rep X4 Z4 y' := by
  obtain ⟨c, hc, h1, h2⟩ := hr.c
  have s1 : I (X + Z) (2 * c) := (h1.add h2).trans (I.of (by grind))
  have s2 : I (X - Z) (2 * c * y) := (h1.sub h2).trans (I.of (by grind))
  have t1 : I X4 (16 * (c * c * (c * c)) * (y * y)) := hX.trans (((s1.mul s1).mul (s2.mul s2)).trans (I.of (by grind)))
  have t2 : I Z4 (16 * (c * c * (c * c)) * ((1 - y * y) * (121666 - 121665 * (y * y)))) := hZ.trans ((((s1.mul s1).sub (s2.mul s2)).mul ((s1.mul s1).add (((s1.mul s1).sub (s2.mul s2)).mull 121665))).trans (I.of (by grind)))
  have hcc := I_nz hc hc
  have hc4 := I_nz hcc hcc
  have n16 : ¬ I 16 0 := by
    have : (16 : Int) = 2 * 2 * (2 * 2) := by decide
    rw [this]; exact I_nz (I_nz two_nz two_nz) (I_nz two_nz two_nz)
  have n1 := den_y y
  have n2 := den_m hon hon
  have u1 : I ((1 - dd * y * y) * ((1 - dd * x * x * y * y) * (1 + y'))) (2 * (y * y) * (1 - dd)) := by
    have a : I ((1 - dd * x * x * y * y) * (1 + y')) ((1 - dd * x * x * y * y) + (y * y - x * x)) := by
      have e : (1 - dd * x * x * y * y) * (1 + y') = (1 - dd * x * x * y * y) + y' * (1 - dd * x * x * y * y) := by grind
      rw [e]; exact (I.rfl' _).add hy
    refine (a.mull _).trans (I.sub0 ?_)
    have e : (1 - dd * y * y) * ((1 - dd * x * x * y * y) + (y * y - x * x)) - 2 * (y * y) * (1 - dd) = (-(1 + dd * y * y)) * cv x y := by unfold cv; grind
    rw [e]; exact hon.zmul _
  have u2 : I ((1 - dd * y * y) * ((1 - dd * x * x * y * y) * (1 - y'))) (2 * (1 - y * y) * (1 - dd * y * y)) := by
    have a : I ((1 - dd * x * x * y * y) * (1 - y')) ((1 - dd * x * x * y * y) - (y * y - x * x)) := by
      have e : (1 - dd * x * x * y * y) * (1 - y') = (1 - dd * x * x * y * y) - y' * (1 - dd * x * x * y * y) := by grind
      rw [e]; exact (I.rfl' _).sub hy
    refine (a.mull _).trans (I.sub0 ?_)
    have e : (1 - dd * y * y) * ((1 - dd * x * x * y * y) - (y * y - x * x)) - 2 * (1 - y * y) * (1 - dd * y * y) = (1 - dd * y * y) * cv x y := by unfold cv; grind
    rw [e]; exact hon.zmul _
  have br : I ((1 - dd) * (121666 - 121665 * (y * y))) (1 - dd * y * y) := by
    have e : (1 - dd) * (121666 - 121665 * (y * y)) = 121666 * (1 - dd) - (1 - dd) * 121665 * (y * y) := by grind
    rw [e]
    have b1 : I ((1 - dd) * 121665 * (y * y)) (dd * y * y) := by
      have b2 : I ((1 - dd) * 121665) ((1 - dd) * (121666 * dd)) := dd_def.symm.mull _
      have e2 : (1 - dd) * (121666 * dd) = (121666 * (1 - dd)) * dd := by grind
      rw [e2] at b2
      have b3 := (b2.trans (one_sub_dd.mulr dd)).mulr (y * y)
      exact b3.trans (I.of (by grind))
    exact one_sub_dd.sub b1
  generalize (1 - dd * x * x * y * y) = m at *
  generalize hw : (1 - dd * y * y) = w at *
  generalize c * c * (c * c) = c4 at *
  refine ⟨I_cancel (c := w * m) ?_ (I_nz n1 n2), fun ⟨z1, z2⟩ => ?_⟩
  · have e1 : X4 * (1 - y') * (w * m) = X4 * (w * (m * (1 - y'))) := by grind
    have e2 : Z4 * (1 + y') * (w * m) = Z4 * (w * (m * (1 + y'))) := by grind
    rw [e1, e2]
    refine (t1.mul u2).trans (I.trans ?_ (t2.mul u1).symm)
    have e3 : 16 * c4 * ((1 - y * y) * (121666 - 121665 * (y * y))) * (2 * (y * y) * (1 - dd)) = 16 * c4 * (y * y) * (2 * (1 - y * y)) * ((1 - dd) * (121666 - 121665 * (y * y))) := by grind
    have e4 : 16 * c4 * (y * y) * (2 * (1 - y * y) * w) = 16 * c4 * (y * y) * (2 * (1 - y * y)) * w := by grind
    rw [e3, e4]
    exact br.symm.mull _
  · have y0 : I (y * y) 0 := I_prime (t1.symm.trans z1) (I_nz n16 hc4)
    have y1 : I ((1 - y * y) * (121666 - 121665 * (y * y))) 0 := I_prime (t2.symm.trans z2) (I_nz n16 hc4)
    have y2 : I ((1 - y * y) * (121666 - 121665 * (y * y))) ((1 - 0) * (121666 - 121665 * 0)) := ((I.rfl' 1).sub y0).mul ((I.rfl' _).sub (y0.mull _))
    have y3 : I 121666 0 := by have := y2.symm.trans y1; simpa using this
    have := one_sub_dd.symm.trans (y3.mulr (1 - dd))
    rw [Int.zero_mul] at this
    exact one_nz this

/-- The sum of two points whose difference is known. -/
theorem dif_rep {x2 y2 x3 y3 X2 Z2 X3 Z3 yp y5 u X5 Z5 : Int} (h2 : I (cv x2 y2) 0) (h3 : I (cv x3 y3) 0) (r2 : Rep X2 Z2 y2) (r3 : Rep X3 Z3 y3)
    (hs : I (y5 * (1 - dd * x2 * x3 * y2 * y3)) (y2 * y3 - x2 * x3)) (ht : I (yp * (1 + dd * x2 * x3 * y2 * y3)) (y2 * y3 + x2 * x3)) (hp1 : ¬ I (1 - yp) 0) (hp2 : ¬ I (1 + yp) 0) (hu : I (u * (1 - yp)) (1 + yp))
    (hX : I X5 (((X3 - Z3) * (X2 + Z2) + (X3 + Z3) * (X2 - Z2)) * ((X3 - Z3) * (X2 + Z2) + (X3 + Z3) * (X2 - Z2)))) (hZ : I Z5 (u * (((X3 - Z3) * (X2 + Z2) - (X3 + Z3) * (X2 - Z2)) * ((X3 - Z3) * (X2 + Z2) - (X3 + Z3) * (X2 - Z2))))) : Rep X5 Z5 y5 := by
  obtain ⟨c, hc, a1, a2⟩ := r2.c
  obtain ⟨d, hd, b1, b2⟩ := r3.c
  have s1 : I (X2 + Z2) (2 * c) := (a1.add a2).trans (I.of (by grind))
  have s2 : I (X2 - Z2) (2 * c * y2) := (a1.sub a2).trans (I.of (by grind))
  have s3 : I (X3 + Z3) (2 * d) := (b1.add b2).trans (I.of (by grind))
  have s4 : I (X3 - Z3) (2 * d * y3) := (b1.sub b2).trans (I.of (by grind))
  have p1 := (s4.mul s1).add (s3.mul s2)
  have p2 := (s4.mul s1).sub (s3.mul s2)
  have t1 : I X5 (16 * (c * c * (d * d)) * ((y2 + y3) * (y2 + y3))) := hX.trans ((p1.mul p1).trans (I.of (by grind)))
  have t2 : I Z5 (16 * (c * c * (d * d)) * (u * ((y3 - y2) * (y3 - y2)))) := hZ.trans (((p2.mul p2).mull u).trans (I.of (by grind)))
  have n4 := I_nz (I_nz hc hc) (I_nz hd hd)
  have n16 : ¬ I 16 0 := by
    have : (16 : Int) = 2 * 2 * (2 * 2) := by decide
    rw [this]; exact I_nz (I_nz two_nz two_nz) (I_nz two_nz two_nz)
  have key := diff_core h2 h3 hs ht
  generalize c * c * (d * d) = k at *
  refine ⟨I_cancel (c := 1 - yp) ?_ hp1, fun ⟨z1, z2⟩ => ?_⟩
  · have e1 : X5 * (1 - y5) * (1 - yp) = X5 * ((1 - y5) * (1 - yp)) := by grind
    have e2 : Z5 * (1 + y5) * (1 - yp) = Z5 * ((1 + y5) * (1 - yp)) := by grind
    rw [e1, e2]
    refine (t1.mulr _).trans (I.trans ?_ (t2.mulr _).symm)
    have e3 : 16 * k * ((y2 + y3) * (y2 + y3)) * ((1 - y5) * (1 - yp)) = 16 * k * ((1 - y5) * (1 - yp) * ((y2 + y3) * (y2 + y3))) := by grind
    have e4 : 16 * k * (u * ((y3 - y2) * (y3 - y2))) * ((1 + y5) * (1 - yp)) = 16 * k * ((1 + y5) * ((y3 - y2) * (y3 - y2))) * (u * (1 - yp)) := by grind
    rw [e3, e4]
    refine (key.mull _).trans (I.trans (I.of ?_) (hu.mull _).symm)
    grind
  · have q1 : I (y2 + y3) 0 := I_sq (I_prime (t1.symm.trans z1) (I_nz n16 n4))
    have q2 : I (u * ((y3 - y2) * (y3 - y2))) 0 := I_prime (t2.symm.trans z2) (I_nz n16 n4)
    have hu0 : ¬ I u 0 := fun h => hp2 (hu.symm.trans (by have := h.mulr (1 - yp); rwa [Int.zero_mul] at this))
    have q3 : I (y3 - y2) 0 := I_sq (I_prime q2 hu0)
    have q4 : I (2 * y3) 0 := by
      have := q1.add q3
      have e : y2 + y3 + (y3 - y2) = 2 * y3 := by grind
      rw [e] at this
      simpa using this
    have q5 := I_prime q4 two_nz
    have q6 : I y2 0 := by
      have := q1.sub q5
      have e : y2 + y3 - y3 = y2 := by grind
      rw [e] at this
      simpa using this
    -- then the difference is one of the two
    have w2 : I (x2 * x2) 1 := by
      have := h2
      unfold cv at this
      have z : I (x2 * x2 + y2 * y2 - 1 - dd * (x2 * x2) * (y2 * y2)) (x2 * x2 + 0 * 0 - 1 - dd * (x2 * x2) * (0 * 0)) := (((I.rfl' _).add (q6.mul q6)).sub (I.rfl' _)).sub ((q6.mul q6).mull _)
      have := z.symm.trans this
      simp only [Int.mul_zero, Int.add_zero, Int.sub_zero] at this
      exact this.sub0
    have w3 : I (x3 * x3) 1 := by
      have := h3
      unfold cv at this
      have z : I (x3 * x3 + y3 * y3 - 1 - dd * (x3 * x3) * (y3 * y3)) (x3 * x3 + 0 * 0 - 1 - dd * (x3 * x3) * (0 * 0)) := (((I.rfl' _).add (q5.mul q5)).sub (I.rfl' _)).sub ((q5.mul q5).mull _)
      have := z.symm.trans this
      simp only [Int.mul_zero, Int.add_zero, Int.sub_zero] at this
      exact this.sub0
    have w4 : I (dd * x2 * x3 * y2 * y3) 0 := q5.zmul _
    have w5 : I yp (x2 * x3) := by
      have z1 := ((I.rfl' 1).add w4).mull yp
      have z2 : I (y2 * y3 + x2 * x3) (0 + x2 * x3) := (q5.zmul _).add (I.rfl' _)
      have := z1.symm.trans (ht.trans z2)
      simpa using this
    have w6 : I ((1 - yp) * (1 + yp)) 0 := by
      have e : (1 - yp) * (1 + yp) = 1 - yp * yp := by grind
      rw [e]
      have z1 : I (yp * yp) 1 := (w5.mul w5).trans ((I.of (by grind)).trans (w2.mul w3))
      have := (I.rfl' 1).sub z1
      simpa using this
    exact hp2 (I_prime w6 hp1)
end Go.Cab

/- Ladder: what it comes to, by points. -/
namespace Go.Cab

theorem wT_I {a b : Nat} (ha : a < pp) (hb : b < pp) : I (wT a b : Nat) ((a : Int) * b) := by
  have := E.I (wT_E ha hb); rwa [Int.natCast_mul] at this
theorem wP_I {a b : Nat} (ha : a < pp) (hb : b < pp) : I (wP a b : Nat) ((a : Int) + b) := by
  have := E.I (wP_E' ha hb); rwa [Int.natCast_add] at this
theorem subN_I {a b : Nat} (ha : a < pp) (hb : b < pp) : I (subN a b : Nat) ((a : Int) - b) := by
  have := E.I (subN_E' ha hb)
  rw [Int.natCast_add] at this
  have h := this.sub (I.rfl' (b : Int))
  have e : ((subN a b : Nat) : Int) + b - b = (subN a b : Nat) := by omega
  rwa [e] at h

/-- A step, as integers. -/
theorem lstep_I {q : Q4} (h : q.ok) {u : Nat} (hu : u < pp) :
    I (lstep u q).x2 (((q.x2 : Int) + q.z2) * (q.x2 + q.z2) * (((q.x2 : Int) - q.z2) * (q.x2 - q.z2))) ∧
    I (lstep u q).z2 ((((q.x2 : Int) + q.z2) * (q.x2 + q.z2) - ((q.x2 : Int) - q.z2) * (q.x2 - q.z2)) * (((q.x2 : Int) + q.z2) * (q.x2 + q.z2) + 121665 * (((q.x2 : Int) + q.z2) * (q.x2 + q.z2) - ((q.x2 : Int) - q.z2) * (q.x2 - q.z2)))) ∧
    I (lstep u q).x3 ((((q.x3 : Int) - q.z3) * (q.x2 + q.z2) + ((q.x3 : Int) + q.z3) * (q.x2 - q.z2)) * (((q.x3 : Int) - q.z3) * (q.x2 + q.z2) + ((q.x3 : Int) + q.z3) * (q.x2 - q.z2))) ∧
    I (lstep u q).z3 ((u : Int) * ((((q.x3 : Int) - q.z3) * (q.x2 + q.z2) - ((q.x3 : Int) + q.z3) * (q.x2 - q.z2)) * (((q.x3 : Int) - q.z3) * (q.x2 + q.z2) - ((q.x3 : Int) + q.z3) * (q.x2 - q.z2)))) := by
  have a := wP_I h.a h.b
  have b := subN_I h.a h.b
  have c := wP_I h.c h.d
  have d := subN_I h.c h.d
  have aa := (wT_I (wP_lt q.x2 q.z2) (wP_lt q.x2 q.z2)).trans (a.mul a)
  have bb := (wT_I (subN_lt q.x2 q.z2) (subN_lt q.x2 q.z2)).trans (b.mul b)
  have e := (subN_I (wT_lt (wP q.x2 q.z2) (wP q.x2 q.z2)) (wT_lt (subN q.x2 q.z2) (subN q.x2 q.z2))).trans (aa.sub bb)
  have da := (wT_I (subN_lt q.x3 q.z3) (wP_lt q.x2 q.z2)).trans (d.mul a)
  have cb := (wT_I (wP_lt q.x3 q.z3) (subN_lt q.x2 q.z2)).trans (c.mul b)
  have s := (wP_I (wT_lt (subN q.x3 q.z3) (wP q.x2 q.z2)) (wT_lt (wP q.x3 q.z3) (subN q.x2 q.z2))).trans (da.add cb)
  have m := (subN_I (wT_lt (subN q.x3 q.z3) (wP q.x2 q.z2)) (wT_lt (wP q.x3 q.z3) (subN q.x2 q.z2))).trans (da.sub cb)
  have f := (wT_I (a := 121665) (by decide) (subN_lt (wT (wP q.x2 q.z2) (wP q.x2 q.z2)) (wT (subN q.x2 q.z2) (subN q.x2 q.z2)))).trans (e.mull _)
  have g := (wP_I (wT_lt (wP q.x2 q.z2) (wP q.x2 q.z2)) (wT_lt 121665 (subN (wT (wP q.x2 q.z2) (wP q.x2 q.z2)) (wT (subN q.x2 q.z2) (subN q.x2 q.z2))))).trans (aa.add f)
  refine ⟨(wT_I (wT_lt _ _) (wT_lt _ _)).trans (aa.mul bb), (wT_I (subN_lt _ _) (wP_lt _ _)).trans (e.mul g), (wT_I (wP_lt _ _) (wP_lt _ _)).trans (s.mul s), ?_⟩
  exact (wT_I hu (wT_lt _ _)).trans (((wT_I (subN_lt _ _) (subN_lt _ _)).trans (m.mul m)).mull _)

/-- The ladder by any bits. -/
def refG (bits : Nat → Bool) (u : Nat) : Nat → Q4
  | 0 => ⟨1, 0, u, 1⟩
  | k + 1 => (lstep u ((refG bits u k).sw (bits (254 - k)))).sw (bits (254 - k))
theorem refS_eq (n u : Nat) : ∀ k, refS n u k = refG (sbit n) u k
  | 0 => rfl
  | k + 1 => by
    show (lstep u ((refS n u k).sw (sbit n (254 - k)))).sw (sbit n (254 - k)) = _
    rw [refS_eq n u k]; rfl
theorem refG_ok {bits : Nat → Bool} {u : Nat} (hu : u < pp) : ∀ k, (refG bits u k).ok
  | 0 => ⟨show 1 < pp by decide, show 0 < pp by decide, hu, show 1 < pp by decide⟩
  | k + 1 => (lstep_ok u _).sw _
/-- The number that the bits spell. -/
def num (bits : Nat → Bool) : Nat → Nat
  | 0 => 0
  | k + 1 => 2 * num bits k + (if bits (254 - k) then 1 else 0)

theorem Rep.congr {X Z y y' : Int} (h : Rep X Z y) (k : I y y') : Rep X Z y' :=
  ⟨((((I.rfl' 1).sub k).mull X).symm.trans h.1).trans (((I.rfl' 1).add k).mull Z), h.2⟩

section
variable {p : Ed} (hp : p.on)
include hp
theorem dblY (n : Nat) : I ((smul p (n + n)).y * (1 - dd * (smul p n).x * (smul p n).x * (smul p n).y * (smul p n).y)) ((smul p n).y * (smul p n).y - (smul p n).x * (smul p n).x) :=
  ((smul_add hp n n).2.mulr _).trans (add_y (smul_on hp n) (smul_on hp n))
theorem sumY (m n : Nat) : I ((smul p (m + n)).y * (1 - dd * (smul p m).x * (smul p n).x * (smul p m).y * (smul p n).y)) ((smul p m).y * (smul p n).y - (smul p m).x * (smul p n).x) :=
  ((smul_add hp m n).2.mulr _).trans (add_y (smul_on hp m) (smul_on hp n))
theorem difY (n : Nat) : I (p.y * (1 + dd * (smul p n).x * (smul p (n + 1)).x * (smul p n).y * (smul p (n + 1)).y)) ((smul p n).y * (smul p (n + 1)).y + (smul p n).x * (smul p (n + 1)).x) := by
  have hn := smul_on hp n
  have hn1 := smul_on hp (n + 1)
  have e1 : ((smul p (n + 1)).add (smul p n).neg).eq p := by
    show (((smul p n).add p).add (smul p n).neg).eq p
    rw [add_comm' (smul p n) p]
    exact ((add_assoc' hp hn (neg_on hn)).trans (add_congr' (add_neg hn) hp zero_on)).trans (add_zero' hp)
  have h := (e1.2.symm.mulr _).trans (add_y hn1 (neg_on hn))
  generalize smul p (n + 1) = q at *
  generalize smul p n = r at *
  have e2 : 1 - dd * q.x * r.neg.x * q.y * r.neg.y = 1 + dd * r.x * q.x * r.y * q.y := by simp only [Ed.neg]; grind
  have e3 : q.y * r.neg.y - q.x * r.neg.x = r.y * q.y + r.x * q.x := by simp only [Ed.neg]; grind
  rwa [e2, e3] at h

variable {u : Nat} (hu : u < pp) (hy1 : ¬ I (1 - p.y) 0) (hy2 : ¬ I (1 + p.y) 0) (huy : I (u * (1 - p.y)) (1 + p.y))
include hu hy1 hy2 huy
/-- The ladder holds two neighbours. -/
theorem lad_rep (bits : Nat → Bool) : ∀ k, Rep (refG bits u k).x2 (refG bits u k).z2 (smul p (num bits k)).y ∧ Rep (refG bits u k).x3 (refG bits u k).z3 (smul p (num bits k + 1)).y
  | 0 => by
    constructor
    · show Rep (1 : Nat) (0 : Nat) 1
      exact ⟨I.of (by decide), fun h => one_nz h.1⟩
    · refine Rep.congr (y := p.y) ⟨?_, fun h => one_nz h.2⟩ (smul_one hp).2.symm
      show I ((u : Int) * (1 - p.y)) (((1 : Nat) : Int) * (1 + p.y))
      exact huy.trans (I.of (by simp))
  | k + 1 => by
    obtain ⟨r2, r3⟩ := lad_rep bits k
    have hq := refG_ok (bits := bits) hu k
    have hs : refG bits u (k + 1) = (lstep u ((refG bits u k).sw (bits (254 - k)))).sw (bits (254 - k)) := rfl
    have hn : num bits (k + 1) = 2 * num bits k + (if bits (254 - k) then 1 else 0) := rfl
    rw [hs, hn]
    generalize refG bits u k = q at *
    generalize num bits k = n at *
    have o2 := smul_on hp n
    have o3 := smul_on hp (n + 1)
    cases bits (254 - k)
    · simp only [Q4.sw, Bool.false_eq_true, if_false, Nat.add_zero]
      obtain ⟨a1, a2, a3, a4⟩ := lstep_I hq hu
      have h1 := dblY hp n
      have h2 := sumY hp n (n + 1)
      have h3 := difY hp n
      have e1 : 2 * n = n + n := by omega
      have e2 : 2 * n + 1 = n + (n + 1) := by omega
      rw [e2, e1]
      exact ⟨dbl_rep o2 r2 h1 a1 a2, dif_rep o2 o3 r2 r3 h2 h3 hy1 hy2 huy a3 a4⟩
    · simp only [Q4.sw, if_true]
      obtain ⟨a1, a2, a3, a4⟩ := lstep_I (q := ⟨q.x3, q.z3, q.x2, q.z2⟩) ⟨hq.c, hq.d, hq.a, hq.b⟩ hu
      have h1 := dblY hp (n + 1)
      have h2 := sumY hp (n + 1) n
      have h3 := difY hp n
      have e1 : 2 * n + 1 + 1 = (n + 1) + (n + 1) := by omega
      have e2 : 2 * n + 1 = (n + 1) + n := by omega
      rw [e1, e2]
      refine ⟨dif_rep o3 o2 r3 r2 h2 ?_ hy1 hy2 huy a3 a4, dbl_rep o3 r3 h1 a1 a2⟩
      generalize smul p (n + 1) = q3 at *
      generalize smul p n = q2 at *
      have e3 : 1 + dd * q3.x * q2.x * q3.y * q2.y = 1 + dd * q2.x * q3.x * q2.y * q3.y := by grind
      have e4 : q3.y * q2.y + q3.x * q2.x = q2.y * q3.y + q2.x * q3.x := by grind
      rw [e3, e4]; exact h3
end

/-- The quotient. -/
theorem rep_val {X Z : Nat} (hX : X < pp) (hZ : Z < pp) {Y : Int} (r : Rep X Z Y) : (¬ I (1 - Y) 0 → I ((wT X (invN Z 255) : Nat) * (1 - Y)) (1 + Y)) ∧ (I (1 - Y) 0 → wT X (invN Z 255) = 0) := by
  obtain ⟨c, hc, h1, h2⟩ := r.c
  have hi : (invN Z 255) % pp = Z ^ (pp - 2) % pp := by
    have := invN_E hZ 255
    rw [exI_all] at this
    exact this
  constructor
  · intro hY
    have hz : Z % pp ≠ 0 := fun h0 => by
      have h3 : I Z 0 := E.I (b := 0) (by rw [h0]; decide)
      exact I_nz hc hY (h2.symm.trans h3)
    have h4 : I (Z * (invN Z 255 : Nat)) 1 := by
      have h5 : (Z * invN Z 255) % pp = 1 % pp := by
        rw [Nat.mul_mod, hi, ← Nat.mul_mod, pow_last', fermat hz]; decide
      have := E.I h5
      rwa [Int.natCast_mul] at this
    refine I_cancel ?_ hc
    have e1 : ((wT X (invN Z 255) : Nat) : Int) * (1 - Y) * c = (wT X (invN Z 255) : Nat) * (c * (1 - Y)) := by grind
    rw [e1]
    refine (((wT_I hX (invN_lt Z 255)).mul h2.symm)).trans ?_
    have e2 : (X : Int) * (invN Z 255 : Nat) * Z = X * (Z * (invN Z 255 : Nat)) := by grind
    rw [e2]
    refine (h4.mull _).trans ?_
    rw [Int.mul_one]
    exact h1.trans (I.of (Int.mul_comm _ _))
  · intro hY
    have h3 : I Z 0 := h2.trans (hY.zmul c)
    have h4 : Z % pp = 0 := by have := I.E (b := 0) h3; rw [this]; decide
    have h5 : Z = 0 := by rwa [Nat.mod_eq_of_lt hZ] at h4
    have h6 : invN Z 255 = 0 := by
      rw [h5] at hi ⊢
      rw [Nat.zero_pow (by decide), Nat.mod_eq_of_lt (invN_lt 0 255)] at hi
      exact hi
    rw [h6]
    simp [wT]
end Go.Cab

/- Ladder: the order of the base point; what two agree on. -/
namespace Go.Cab

theorem pr2551 : Pr 2551 := small_pr 49 (by decide) (by decide) (by kernel_rfl)
theorem pr531581 : Pr 531581 := small_pr 728 (by decide) (by decide) (by kernel_rfl)
theorem pr1224481 : Pr 1224481 := pock1 (N := 1224481) 2 2551 (by decide) (by decide) (by kernel_rfl) ⟨pr2551, by decide, by kernel_rfl⟩ (by decide)
theorem pr1257 : Pr 1257559732178653 := pock2 (N := 1257559732178653) 2 1224481 531581 (by decide) (by decide) (by kernel_rfl) ⟨pr1224481, by decide, by kernel_rfl⟩ ⟨pr531581, by decide, by kernel_rfl⟩ (by decide) (by decide)
theorem pr4434 : Pr 4434155615661930479 := pock1 (N := 4434155615661930479) 2 1257559732178653 (by decide) (by decide) (by kernel_rfl) ⟨pr1257, by decide, by kernel_rfl⟩ (by decide)
theorem pr1720 : Pr 172054593956031949258510691 := pock1 (N := 172054593956031949258510691) 2 4434155615661930479 (by decide) (by decide) (by kernel_rfl) ⟨pr4434, by decide, by kernel_rfl⟩ (by decide)
theorem pr1975 : Pr 19757330305831588566944191468367130476339 := pock1 (N := 19757330305831588566944191468367130476339) 2 172054593956031949258510691 (by decide) (by decide) (by kernel_rfl) ⟨pr1720, by decide, by kernel_rfl⟩ (by decide)
theorem pr2766 : Pr 276602624281642239937218680557139826668747 := pock1 (N := 276602624281642239937218680557139826668747) 2 19757330305831588566944191468367130476339 (by decide) (by decide) (by kernel_rfl) ⟨pr1975, by decide, by kernel_rfl⟩ (by decide)
/-- The base point's order. -/
def ell : Nat := 7237005577332262213973186563042994240857116359379907606001950938285454250989
theorem pr_ell : Pr ell := pock1 (N := ell) 2 276602624281642239937218680557139826668747 (by decide) (by decide) (by kernel_rfl) ⟨pr2766, by decide, by kernel_rfl⟩ (by decide)

def xB : Nat := 9771384041963202563870679428059935816164187996444183106833894008023910952347
def yB : Nat := 46316835694926478169428394003475163141307993866256225615783033603165251855960
def bB : Ed := ⟨xB, yB⟩
theorem bB_on : bB.on := by
  have h : (xB * xB + yB * yB) % pp = (1 + ddN * (xB * xB) * (yB * yB)) % pp := by decide
  have h1 := E.I h
  simp only [Int.natCast_add, Int.natCast_mul] at h1
  have h2 := h1.to0
  have e : (xB : Int) * xB + yB * yB - (((1 : Nat) : Int) + ddN * (xB * xB) * (yB * yB)) = cv xB yB := by
    unfold cv
    have : ((1 : Nat) : Int) = 1 := rfl
    rw [this]
    show _ = (xB : Int) * xB + yB * yB - 1 - dd * (xB * xB) * (yB * yB)
    have hd : dd = (ddN : Int) := rfl
    rw [hd]; omega
  rw [e] at h2
  exact h2
theorem bB_u : I (((9 : Nat) : Int) * (1 - bB.y)) (1 + bB.y) := by
  have h : 9 % pp = (1 + 10 * yB) % pp := by decide
  have h1 := E.I h
  simp only [Int.natCast_add, Int.natCast_mul] at h1
  refine I.sub0 ?_
  have h2 := h1.to0
  show I (((9 : Nat) : Int) * (1 - (yB : Int)) - (1 + (yB : Int))) 0
  have e : ((9 : Nat) : Int) * (1 - (yB : Int)) - (1 + (yB : Int)) = ((9 : Nat) : Int) - (((1 : Nat) : Int) + ((10 : Nat) : Int) * yB) + (-((1 : Nat) : Int) + 1) := by grind
  rw [e]
  simpa using h2
theorem bB_1 : ¬ I (1 - bB.y) 0 := fun h => by
  have h1 : I ((1 : Nat) : Int) (yB : Nat) := h.sub0
  exact absurd (I.E h1) (by decide)
theorem bB_2 : ¬ I (1 + bB.y) 0 := fun h => by
  have h1 : I ((1 + yB : Nat) : Int) ((0 : Nat) : Int) := by rw [Int.natCast_add]; exact h
  exact absurd (I.E h1) (by decide)

/-! The ladder reckoned by any bits. -/
def runG {α : Type} (bits : Nat → Bool) (u : Nat) : Nat → Nat → Q4 → (Q4 → α) → α
  | 0, _, q, g => g q
  | k + 1, m, q, g => match bits (254 - m) with
    | true => lstepF u ⟨q.x3, q.z3, q.x2, q.z2⟩ fun r => runG bits u k (m + 1) ⟨r.x3, r.z3, r.x2, r.z2⟩ g
    | false => lstepF u q fun r => runG bits u k (m + 1) r g
theorem runG_eq {α : Type} (bits : Nat → Bool) (u : Nat) (g : Q4 → α) : ∀ (k m : Nat), runG bits u k m (refG bits u m) g = g (refG bits u (m + k))
  | 0, m => rfl
  | k + 1, m => by
    have ih := runG_eq bits u g k (m + 1)
    have e : m + (k + 1) = m + 1 + k := by omega
    rw [e, ← ih]
    have hs : refG bits u (m + 1) = (lstep u ((refG bits u m).sw (bits (254 - m)))).sw (bits (254 - m)) := rfl
    have hr : runG bits u (k + 1) m (refG bits u m) g = (match bits (254 - m) with
      | true => lstepF u ⟨(refG bits u m).x3, (refG bits u m).z3, (refG bits u m).x2, (refG bits u m).z2⟩ fun r => runG bits u k (m + 1) ⟨r.x3, r.z3, r.x2, r.z2⟩ g
      | false => lstepF u (refG bits u m) fun r => runG bits u k (m + 1) r g) := rfl
    rw [hr, hs]
    cases bits (254 - m)
    · show lstepF u (refG bits u m) _ = _
      rw [lstepF_eq]; rfl
    · show lstepF u ⟨(refG bits u m).x3, (refG bits u m).z3, (refG bits u m).x2, (refG bits u m).z2⟩ _ = _
      rw [lstepF_eq]; rfl
def ebits (t : Nat) : Bool := ell / 2 ^ t % 2 == 1
theorem ebits_num : num ebits 255 = ell := by kernel_rfl
set_option maxRecDepth 100000 in
theorem ell_z : (refG ebits 9 255).z2 = 0 := by
  have h : (runG ebits 9 255 0 ⟨1, 0, 9, 1⟩ fun q => Nat.beq q.z2 0) = true := by kernel_rfl
  have h2 := runG_eq ebits 9 (fun q => Nat.beq q.z2 0) 255 0
  have e : refG ebits 9 0 = ⟨1, 0, 9, 1⟩ := rfl
  rw [e, h] at h2
  exact Nat.eq_of_beq_eq_true h2.symm

/-- A second coordinate that is 1 or -1: the first one is 0. -/
theorem x_zero {p : Ed} (hp : p.on) (h : I (p.y * p.y) 1) : I p.x 0 := by
  have h1 : I (p.x * p.x * (1 - dd)) 0 := by
    have z : I (cv p.x p.y) (p.x * p.x + 1 - 1 - dd * (p.x * p.x) * 1) := (((I.rfl' _).add h).sub (I.rfl' 1)).sub (h.mull _)
    have e : p.x * p.x + 1 - 1 - dd * (p.x * p.x) * 1 = p.x * p.x * (1 - dd) := by grind
    rw [e] at z
    exact z.symm.trans hp
  rw [Int.mul_comm] at h1
  exact I_sq (I_prime h1 one_sub_nz)
theorem is_zero {p : Ed} (hp : p.on) (h : I (1 - p.y) 0) : p.eq Ed.zero := by
  have h1 : I p.y 1 := h.sub0.symm
  exact ⟨x_zero hp (h1.mul h1), h1⟩
theorem ell_zero : (smul bB ell).eq Ed.zero := by
  have h := (lad_rep bB_on (u := 9) (by decide) bB_1 bB_2 bB_u ebits 255).1
  rw [ell_z, ebits_num] at h
  refine is_zero (smul_on bB_on ell) ?_
  have h1 := h.1
  have h2 : ((0 : Nat) : Int) * (1 + (smul bB ell).y) = 0 := by simp
  rw [h2] at h1
  exact I_prime h1 fun hx => h.2 ⟨hx, I.rfl' 0⟩

theorem zero_mul' {p : Ed} (hp : p.on) {m : Nat} (h : (smul p m).eq Ed.zero) (k : Nat) : (smul p (m * k)).eq Ed.zero :=
  ((smul_mul hp m k).symm.trans (smul_congr h zero_on k)).trans (smul_zero k)
theorem zero_add' {p : Ed} (hp : p.on) {m r : Nat} (h : (smul p m).eq Ed.zero) (h2 : (smul p (m + r)).eq Ed.zero) : (smul p r).eq Ed.zero := by
  have h3 := (smul_add hp m r).symm.trans h2
  have h4 := (add_congr h zero_on (smul_on hp r)).symm.trans h3
  rw [add_comm'] at h4
  exact (add_zero' (smul_on hp r)).symm.trans h4
/-- The least multiple that is nothing. -/
theorem least_zero {p : Ed} {n : Nat} (hn : 0 < n) (h : (smul p n).eq Ed.zero) : ∃ m, 0 < m ∧ (smul p m).eq Ed.zero ∧ ∀ j, 0 < j → j < m → ¬ (smul p j).eq Ed.zero := by
  induction n using Nat.strongRecOn with
  | ind n ih =>
    by_cases hx : ∃ j, 0 < j ∧ j < n ∧ (smul p j).eq Ed.zero
    · obtain ⟨j, h1, h2, h3⟩ := hx
      exact ih j h2 h1 h3
    · exact ⟨n, hn, h, fun j h1 h2 h3 => hx ⟨j, h1, h2, h3⟩⟩
theorem zero_dvd {p : Ed} (hp : p.on) {m n : Nat} (hm : 0 < m) (h1 : (smul p m).eq Ed.zero) (hl : ∀ j, 0 < j → j < m → ¬ (smul p j).eq Ed.zero) (h : (smul p n).eq Ed.zero) : m ∣ n := by
  by_cases h0 : n % m = 0
  · exact Nat.dvd_of_mod_eq_zero h0
  · refine absurd ?_ (hl (n % m) (by omega) (Nat.mod_lt _ hm))
    refine zero_add' hp (m := m * (n / m)) (zero_mul' hp h1 _) ?_
    rw [Nat.div_add_mod]; exact h
theorem ell_dvd {n : Nat} (h : (smul bB n).eq Ed.zero) : ell ∣ n := by
  obtain ⟨m, h0, h1, hl⟩ := least_zero (p := bB) (n := ell) (by decide) ell_zero
  have d1 := zero_dvd bB_on h0 h1 hl ell_zero
  have d2 := zero_dvd bB_on h0 h1 hl h
  rcases pr_ell.2 m d1 with e | e
  · exfalso
    rw [e] at h1
    have h2 := (smul_one bB_on).symm.trans h1
    exact bB_1 ((((I.rfl' 1).sub h2.2)).trans (I.of (by simp [Ed.zero])))
  · rw [e] at d2; exact d2
theorem ell_2 : ¬ ell ∣ 2 := fun h => by have := Nat.le_of_dvd (by decide) h; exact absurd this (by decide)
theorem ell_8 : ¬ ell ∣ 8 := fun h => by have := Nat.le_of_dvd (by decide) h; exact absurd this (by decide)
theorem ell_mul {a b : Nat} (ha : ¬ ell ∣ a) (hb : ¬ ell ∣ b) : ¬ ell ∣ a * b := fun h => hb ((pr_ell.coprime ha).dvd_of_dvd_mul_left h)
theorem y_ne {n : Nat} (h : ¬ ell ∣ n) : ¬ I (1 - (smul bB n).y) 0 ∧ ¬ I (1 + (smul bB n).y) 0 := by
  have hon := smul_on bB_on n
  have h1 : ¬ I (1 - (smul bB n).y) 0 := fun hy => h (ell_dvd (is_zero hon hy))
  refine ⟨h1, fun hy => ?_⟩
  have hyy : I ((smul bB n).y * (smul bB n).y) 1 := by
    have e : (smul bB n).y * (smul bB n).y - 1 = ((smul bB n).y - 1) * (1 + (smul bB n).y) := by grind
    refine I.sub0 ?_
    rw [e]; exact hy.zmul _
  have hx := x_zero hon hyy
  have s1 := smul_add bB_on n n
  have a1 := add_x hon hon
  have a2 := add_y hon hon
  generalize smul bB n = q at *
  have x0 : I (dd * q.x * q.x * q.y * q.y) 0 := by
    have := (((hx.zmul (dd * q.x)).mulr q.y).mulr q.y)
    simpa using this
  have b1 : I (q.add q).x 0 := by
    have z := ((I.rfl' 1).add x0).mull (q.add q).x
    have z2 : I (q.x * q.y + q.y * q.x) (0 * q.y + q.y * 0) := (hx.mulr _).add (hx.mull _)
    have := z.symm.trans (a1.trans z2)
    simpa using this
  have b2 : I (q.add q).y 1 := by
    have z := ((I.rfl' 1).sub x0).mull (q.add q).y
    have z2 : I (q.y * q.y - q.x * q.x) (1 - 0 * 0) := hyy.sub (hx.mul hx)
    have := z.symm.trans (a2.trans z2)
    simpa using this
  have e2 : (smul bB (n + n)).eq Ed.zero := s1.trans ⟨b1, b2⟩
  have d := ell_dvd e2
  rw [show n + n = 2 * n by omega] at d
  exact ell_mul ell_2 h d

/-- The number of a scalar. -/
def scN (n : Nat) : Nat := num (sbit n) 255
theorem num_bounds {bits : Nat → Bool} (h : bits 254 = true) : ∀ k, 2 ^ k ≤ num bits (k + 1) ∧ num bits (k + 1) < 2 ^ (k + 1)
  | 0 => by simp [num, h]
  | k + 1 => by
    have ih := num_bounds h k
    have e : num bits (k + 1 + 1) = 2 * num bits (k + 1) + (if bits (254 - (k + 1)) then 1 else 0) := rfl
    rw [e]
    have p1 : 2 ^ (k + 1) = 2 * 2 ^ k := by rw [Nat.pow_succ, Nat.mul_comm]
    have p2 : 2 ^ (k + 1 + 1) = 2 * 2 ^ (k + 1) := by rw [Nat.pow_succ, Nat.mul_comm]
    split <;> omega
theorem scN_dvd (n : Nat) : ¬ ell ∣ scN n := by
  have e : scN n = 8 * num (sbit n) 252 := by
    have b0 : sbit n 0 = false := rfl
    have b1 : sbit n 1 = false := rfl
    have b2 : sbit n 2 = false := rfl
    have s1 : num (sbit n) 255 = 2 * num (sbit n) 254 + (if sbit n 0 then 1 else 0) := rfl
    have s2 : num (sbit n) 254 = 2 * num (sbit n) 253 + (if sbit n 1 then 1 else 0) := rfl
    have s3 : num (sbit n) 253 = 2 * num (sbit n) 252 + (if sbit n 2 then 1 else 0) := rfl
    rw [b0] at s1; rw [b1] at s2; rw [b2] at s3
    simp only [Bool.false_eq_true, if_false] at s1 s2 s3
    unfold scN
    omega
  rw [e]
  have hb := num_bounds (bits := sbit n) rfl 251
  refine ell_mul ell_8 fun h => ?_
  have := Nat.le_of_dvd (Nat.lt_of_lt_of_le (by decide) hb.1) h
  exact absurd (Nat.lt_of_le_of_lt this hb.2) (by decide)

/-- The ladder at the base point. -/
theorem lad_base (n : Nat) : I ((ladN n 9 : Nat) * (1 - (smul bB (scN n)).y)) (1 + (smul bB (scN n)).y) := by
  have h := (lad_rep bB_on (u := 9) (by decide) bB_1 bB_2 bB_u (sbit n) 255).1
  have hq := refG_ok (bits := sbit n) (u := 9) (by decide) 255
  have := (rep_val hq.a hq.b h).1 (y_ne (scN_dvd n)).1
  unfold ladN
  rw [refS_eq]
  exact this
theorem nz_of {v : Nat} {Y : Int} (h : I (v * (1 - Y)) (1 + Y)) (hY : ¬ I (1 + Y) 0) : v ≠ 0 := fun h0 => by
  subst h0
  exact hY (h.symm.trans (I.of (by simp)))
theorem ladN_base_nz (n : Nat) : ladN n 9 ≠ 0 := nz_of (lad_base n) (y_ne (scN_dvd n)).2
theorem lad_two (a b : Nat) : I ((ladN a (ladN b 9) : Nat) * (1 - (smul bB (scN b * scN a)).y)) (1 + (smul bB (scN b * scN a)).y) := by
  have hb := lad_base b
  have hy := y_ne (scN_dvd b)
  have hn := y_ne (ell_mul (scN_dvd b) (scN_dvd a))
  have hon := smul_on bB_on (scN b)
  have h := (lad_rep hon (ladN_lt b 9) hy.1 hy.2 hb (sbit a) 255).1
  have h' := h.congr (smul_mul bB_on (scN b) (scN a)).2
  have hq := refG_ok (bits := sbit a) (ladN_lt b 9) 255
  have := (rep_val hq.a hq.b h').1 hn.1
  unfold ladN at this ⊢
  rw [refS_eq]
  exact this
/-- Two who know one another's public keys. -/
theorem ladN_meet (a b : Nat) : ladN a (ladN b 9) = ladN b (ladN a 9) ∧ ladN a (ladN b 9) ≠ 0 := by
  have h1 := lad_two a b
  have h2 := lad_two b a
  rw [Nat.mul_comm (scN a)] at h2
  have hn := y_ne (ell_mul (scN_dvd b) (scN_dvd a))
  refine ⟨?_, nz_of h1 hn.2⟩
  have h3 : I (ladN a (ladN b 9) : Nat) (ladN b (ladN a 9) : Nat) := I_cancel (h1.trans h2.symm) hn.1
  have h4 := I.E h3
  rwa [Nat.mod_eq_of_lt (ladN_lt _ _), Nat.mod_eq_of_lt (ladN_lt _ _)] at h4

/-- Nothing is agreed on with 0. -/
theorem lstep_zero (q : Q4) (h : (q.x2 = 0 ∨ q.z2 = 0) ∧ (q.x3 = 0 ∨ q.z3 = 0)) (hq : q.ok) : (lstep 0 q).z2 = 0 ∧ (lstep 0 q).z3 = 0 := by
  have z1 : wT 0 (wT (stM q) (stM q)) = 0 := by simp [wT]
  refine ⟨?_, z1⟩
  have e : wT (stA q) (stA q) = wT (stB q) (stB q) := by
    have ha := wP_I hq.a hq.b
    have hb := subN_I hq.a hq.b
    have h1 : I (wT (stA q) (stA q) : Nat) (wT (stB q) (stB q) : Nat) := by
      refine ((wT_I (wP_lt _ _) (wP_lt _ _)).trans (ha.mul ha)).trans (I.trans ?_ ((wT_I (subN_lt _ _) (subN_lt _ _)).trans (hb.mul hb)).symm)
      refine I.of ?_
      rcases h.1 with h | h <;> rw [h] <;> grind
    have h2 := I.E h1
    rwa [Nat.mod_eq_of_lt (wT_lt _ _), Nat.mod_eq_of_lt (wT_lt _ _)] at h2
  have e2 : stE q = 0 := by
    unfold stE
    rw [e]
    have h1 := subN_I (wT_lt (stB q) (stB q)) (wT_lt (stB q) (stB q))
    rw [Int.sub_self] at h1
    have h2 := I.E (b := 0) h1
    rwa [Nat.mod_eq_of_lt (subN_lt _ _)] at h2
  show wT (stE q) _ = 0
  rw [e2]; simp [wT]
theorem refS_zero (n : Nat) : ∀ k, (refS n 0 (k + 1)).z2 = 0 ∧ (refS n 0 (k + 1)).z3 = 0
  | 0 => by
    have hs : refS n 0 (0 + 1) = (lstep 0 ((⟨1, 0, 0, 1⟩ : Q4).sw (sbit n 254))).sw (sbit n 254) := rfl
    rw [hs]
    cases sbit n 254
    · exact lstep_zero ⟨1, 0, 0, 1⟩ ⟨.inr rfl, .inl rfl⟩ ⟨show 1 < pp by decide, show 0 < pp by decide, show 0 < pp by decide, show 1 < pp by decide⟩
    · have := lstep_zero ⟨0, 1, 1, 0⟩ ⟨.inl rfl, .inr rfl⟩ ⟨show 0 < pp by decide, show 1 < pp by decide, show 1 < pp by decide, show 0 < pp by decide⟩
      exact ⟨this.2, this.1⟩
  | k + 1 => by
    have ih := refS_zero n k
    have hq := refS_ok (n := n) (u := 0) (by decide) (k + 1)
    have hs : refS n 0 (k + 1 + 1) = (lstep 0 ((refS n 0 (k + 1)).sw (sbit n (254 - (k + 1))))).sw (sbit n (254 - (k + 1))) := rfl
    rw [hs]
    generalize refS n 0 (k + 1) = q at *
    cases sbit n (254 - (k + 1))
    · exact lstep_zero q ⟨.inr ih.1, .inr ih.2⟩ hq
    · have := lstep_zero ⟨q.x3, q.z3, q.x2, q.z2⟩ ⟨.inr ih.2, .inr ih.1⟩ ⟨hq.c, hq.d, hq.a, hq.b⟩
      exact ⟨this.2, this.1⟩
theorem ladN_zero (n : Nat) : ladN n 0 = 0 := by
  have h := (refS_zero n 254).1
  unfold ladN
  rw [h]
  have h6 : invN 0 255 = 0 := by
    have := invN_E (a := 0) (by decide) 255
    rw [exI_all] at this
    unfold E at this
    rw [Nat.zero_pow (by decide), Nat.mod_eq_of_lt (invN_lt 0 255)] at this
    exact this
  rw [h6]
  simp [wT]
end Go.Cab

/- Ladder: LadderFirst, LadderMeets. -/
namespace Go.Cab
def fb203 : AC := (.seq (.reg [⟨(.some 1), .none, (.box 32 (.tmp 0)), [], .none⟩, ⟨(.some 2), .none, (.mov (.const (.bool .false))), [], .none⟩]) (.seq (.seq (.reg [⟨(.some 7), .none, (.call 15 []), [], .none⟩, ⟨(.some 8), .none, (.un .not (.tmp 7)), [], .none⟩]) (.cond (.tmp 8) (.seq (.reg [⟨(.some 2), .none, (.mov (.const (.bool .false))), [], .none⟩]) .ret) .skip)) (.seq (.reg [⟨(.some 10), .none, (.load .true 32 (.tmp 1)), [], .none⟩, ⟨(.some 11), .none, (.build (.arr 1 (List.replicate 32 (.lit (bn 0)))) [(0, (.const (bn 9)))]), [], .none⟩, ⟨(.some 12), .none, (.call 18 [(.tmp 10), (.tmp 11)]), [], .none⟩, ⟨(.some 9), .none, (.mov (.tmp 12)), [], .none⟩, ⟨(.some 13), .none, (.ext (.tmp 9) 0), [], .none⟩, ⟨(.some 14), .none, (.ext (.tmp 9) 1), [], .none⟩, ⟨(.some 3), .none, (.alloc 32 (.arr 1 (List.replicate 32 (.lit (bn 0))))), [], .none⟩, ⟨.none, .none, (.store 32 (.tmp 3) (.tmp 13)), [], .none⟩, ⟨(.some 4), .none, (.mov (.tmp 14)), [], .none⟩]) (.seq (.reg [⟨(.some 16), .none, (.load .true 32 (.tmp 1)), [], .none⟩, ⟨(.some 17), .none, (.build (.arr 1 (List.replicate 32 (.lit (bn 0)))) []), [], .none⟩, ⟨(.some 18), .none, (.call 18 [(.tmp 16), (.tmp 17)]), [], .none⟩, ⟨(.some 15), .none, (.mov (.tmp 18)), [], .none⟩, ⟨(.some 19), .none, (.ext (.tmp 15) 0), [], .none⟩, ⟨(.some 20), .none, (.ext (.tmp 15) 1), [], .none⟩, ⟨(.some 5), .none, (.alloc 32 (.arr 1 (List.replicate 32 (.lit (bn 0))))), [], .none⟩, ⟨.none, .none, (.store 32 (.tmp 5) (.tmp 19)), [], .none⟩, ⟨(.some 6), .none, (.mov (.tmp 20)), [], .none⟩]) (.seq (.reg [⟨(.some 21), .none, (.callv 15 []), [], .none⟩, ⟨(.some 22), .none, (.mov (.tmp 21)), [], .none⟩, ⟨(.some 23), (.some (22, .true)), (.mov (.tmp 4)), [], .none⟩, ⟨(.some 24), .none, (.pick (.tmp 22) (.tmp 23) (.const (.bool .false))), [], .none⟩, ⟨(.some 25), .none, (.mov (.tmp 24)), [], .none⟩, ⟨(.some 26), (.some (25, .true)), (.load .true 32 (.tmp 3)), [], .none⟩, ⟨(.some 27), (.some (25, .true)), (.load .true 32 (.tmp 1)), [], .none⟩, ⟨(.some 28), (.some (25, .true)), (.callv 16 [(.tmp 27)]), [], .none⟩, ⟨(.some 29), (.some (25, .true)), (.eqv 23 .false (.tmp 26) (.tmp 28)), [], .none⟩, ⟨(.some 30), .none, (.pick (.tmp 25) (.tmp 29) (.const (.bool .false))), [], .none⟩, ⟨(.some 31), .none, (.mov (.tmp 30)), [], .none⟩, ⟨(.some 32), (.some (31, .true)), (.mov (.tmp 6)), [], .none⟩, ⟨(.some 33), (.some (31, .true)), (.un .not (.tmp 32)), [], .none⟩, ⟨(.some 34), .none, (.pick (.tmp 31) (.tmp 33) (.const (.bool .false))), [], .none⟩, ⟨(.some 35), .none, (.mov (.tmp 34)), [], .none⟩, ⟨(.some 36), (.some (35, .true)), (.load .true 32 (.tmp 5)), [], .none⟩, ⟨(.some 37), (.some (35, .true)), (.build (.arr 1 (List.replicate 32 (.lit (bn 0)))) []), [], .none⟩, ⟨(.some 38), (.some (35, .true)), (.eqv 23 .false (.tmp 36) (.tmp 37)), [], .none⟩, ⟨(.some 39), .none, (.pick (.tmp 35) (.tmp 38) (.const (.bool .false))), [], .none⟩, ⟨(.some 2), .none, (.mov (.tmp 39)), [], .none⟩]) .ret)))))
def fc203 : FC := ⟨1, 40, [(.tmp 2)], fb203⟩
theorem fc203_eq : compF Go.Proofs.Try.prog 7 = some fc203 := by kernel_rfl
def fb204 : AC := (.seq (.reg [⟨(.some 2), .none, (.box 32 (.tmp 0)), [], .none⟩, ⟨(.some 3), .none, (.box 32 (.tmp 1)), [], .none⟩, ⟨(.some 4), .none, (.mov (.const (.bool .false))), [], .none⟩]) (.seq (.seq (.reg [⟨(.some 9), .none, (.call 15 []), [], .none⟩, ⟨(.some 10), .none, (.un .not (.tmp 9)), [], .none⟩]) (.cond (.tmp 10) (.seq (.reg [⟨(.some 4), .none, (.mov (.const (.bool .false))), [], .none⟩]) .ret) .skip)) (.seq (.reg [⟨(.some 12), .none, (.load .true 32 (.tmp 2)), [5], .none⟩, ⟨(.some 13), .none, (.load .true 32 (.tmp 3)), [5], .none⟩, ⟨(.some 14), .none, (.callv 16 [(.tmp 13)]), [5], .none⟩, ⟨(.some 15), .none, (.callv 18 [(.tmp 12), (.tmp 14)]), [5], .none⟩, ⟨(.some 11), .none, (.mov (.tmp 15)), [], .none⟩, ⟨(.some 16), .none, (.ext (.tmp 11) 0), [], .none⟩, ⟨(.some 17), .none, (.ext (.tmp 11) 1), [], .none⟩, ⟨(.some 5), .none, (.alloc 32 (.arr 1 (List.replicate 32 (.lit (bn 0))))), [], .none⟩, ⟨.none, .none, (.store 32 (.tmp 5) (.tmp 16)), [], .none⟩, ⟨(.some 6), .none, (.mov (.tmp 17)), [], .none⟩]) (.seq (.reg [⟨(.some 19), .none, (.load .true 32 (.tmp 3)), [7], .none⟩, ⟨(.some 20), .none, (.load .true 32 (.tmp 2)), [7], .none⟩, ⟨(.some 21), .none, (.callv 16 [(.tmp 20)]), [7], .none⟩, ⟨(.some 22), .none, (.callv 18 [(.tmp 19), (.tmp 21)]), [7], .none⟩, ⟨(.some 18), .none, (.mov (.tmp 22)), [], .none⟩, ⟨(.some 23), .none, (.ext (.tmp 18) 0), [], .none⟩, ⟨(.some 24), .none, (.ext (.tmp 18) 1), [], .none⟩, ⟨(.some 7), .none, (.alloc 32 (.arr 1 (List.replicate 32 (.lit (bn 0))))), [], .none⟩, ⟨.none, .none, (.store 32 (.tmp 7) (.tmp 23)), [], .none⟩, ⟨(.some 8), .none, (.mov (.tmp 24)), [], .none⟩]) (.seq (.reg [⟨(.some 25), .none, (.call 15 []), [], .none⟩, ⟨(.some 26), .none, (.mov (.tmp 25)), [], .none⟩, ⟨(.some 27), (.some (26, .true)), (.mov (.tmp 6)), [], .none⟩, ⟨(.some 28), .none, (.pick (.tmp 26) (.tmp 27) (.const (.bool .false))), [], .none⟩, ⟨(.some 29), .none, (.mov (.tmp 28)), [], .none⟩, ⟨(.some 30), (.some (29, .true)), (.mov (.tmp 8)), [], .none⟩, ⟨(.some 31), .none, (.pick (.tmp 29) (.tmp 30) (.const (.bool .false))), [], .none⟩, ⟨(.some 32), .none, (.mov (.tmp 31)), [], .none⟩, ⟨(.some 33), (.some (32, .true)), (.load .true 32 (.tmp 5)), [], .none⟩, ⟨(.some 34), (.some (32, .true)), (.load .true 32 (.tmp 7)), [], .none⟩, ⟨(.some 35), (.some (32, .true)), (.eqv 23 .false (.tmp 33) (.tmp 34)), [], .none⟩, ⟨(.some 36), .none, (.pick (.tmp 32) (.tmp 35) (.const (.bool .false))), [], .none⟩, ⟨(.some 4), .none, (.mov (.tmp 36)), [], .none⟩]) .ret)))))
def fc204 : FC := ⟨2, 37, [(.tmp 4)], fb204⟩
theorem fc204_eq : compF Go.Proofs.Try.prog 8 = some fc204 := by kernel_rfl

set_option maxHeartbeats 8000000 in
set_option maxRecDepth 20000 in
theorem ladderFirst_call (n : Nat) : PCall Go.Proofs.Try.prog 7 [keyAV n] (.val (.lit (.bool true))) := by
  have h203 := fc203_eq
  have hal := alive7_call
  have c1 := agree_S n (m := 9) (by decide)
  have c2 := agree_S n (m := 0) (by decide)
  have c3 := public_P n
  rw [ladN_zero] at c2
  rw [decide_eq_false (ladN_base_nz n)] at c1
  rw [decide_eq_true rfl] at c2
  simp only [Bool.not_false, Bool.not_true] at c1 c2
  have e := eqkk (ladN_lt n 9)
  have e2 := eqkk (c := 0) (by decide)
  generalize ladN n 9 = x at *
  rw [kf n, kv9, kf x] at c1
  rw [kf n, key0'] at c2
  rw [kf n, kf x] at c3
  rw [kf x] at e
  rw [key0'] at e2
  rw [kf n]
  refine PCall.of h203 rfl ?_; show AC.wp _ fb203 (AS.init [.arr 1 (lst 32 fun j => .lit (bn (kb n j)))] 1 40) (fun x s => match x with | .exit _ => False | _ => Fin [(.tmp 2)] s _); unfold fb203 AS.init
  refine wp_sg (areg_bx rfl (by simp [AS.ev, AV.sz, lst_len]) fun l1 => areg_end (by simp [runPre, AOp.ex, AOp.ex0, ex_mov, ex_bin, binA_lit, ex_cvt, ex_iaddrA, ex_iaddrS, ex_faddr, ex_load, ldA, ex_ext, ex_add64, add64A_un, ex_pick, ex_beq, ex_un, ex_len, lenA_sl, lenA_nil, lenA_str, lenA_own, lenRow_row, elA_own, elA_sl, elRow_row, ex_nilc, ex_build, ex_bslice, ex_fieldv, AOp.ro, AS.ev, AS.put, AS.fieldAddr, idxA_ptr, idxA_cptr, AS.peek, AS.poke, AS.blk, AS.setBlk, AV.nav, AV.upd, Blk.loc, Blk.cont, Blk.n, Blk.may, Blk.upd, AV.isAgg, AV.isTup, AV.sz, unVal, ownOk, fillAV, AV.sub, cvt_64j, cvt_64b, cvt_64w, cvt_8u, cvt_8w, bin_add64, bin_mul64, bin_sub64, bin_and51, bin_and32, bin_and1, bin_and8_1, bin_or64, bin_xor64, bin_or8, bin_shl64, bin_shl64j, bin_shr64, bin_shr64j, bin_shl8j, bin_shr8j, bin_quo64, bin_rem64, bin_quo32, bin_rem32, bin_addj, bin_subj, bin_quoj, bin_remj, bin_eqlj, bin_neqj, bin_lssj, bin_leqj, bin_gtrj, bin_geqj, bin_eql64, bin_lss64, bin_gtr64, bin_eql8, bin_rem8]; exact rfl) ?_)
  refine wp_seq' (wp_seq' (wp_rg (areg_ca (by simp) hal (areg_end (by simp [runPre, AOp.ex, AOp.ex0, ex_mov, ex_bin, binA_lit, ex_cvt, ex_iaddrA, ex_iaddrS, ex_faddr, ex_load, ldA, ex_ext, ex_add64, add64A_un, ex_pick, ex_beq, ex_un, ex_len, lenA_sl, lenA_nil, lenA_str, lenA_own, lenRow_row, elA_own, elA_sl, elRow_row, ex_nilc, ex_build, ex_bslice, ex_fieldv, AOp.ro, AS.ev, AS.put, AS.fieldAddr, idxA_ptr, idxA_cptr, AS.peek, AS.poke, AS.blk, AS.setBlk, AV.nav, AV.upd, Blk.loc, Blk.cont, Blk.n, Blk.may, Blk.upd, AV.isAgg, AV.isTup, AV.sz, unVal, ownOk, fillAV, AV.sub, cvt_64j, cvt_64b, cvt_64w, cvt_8u, cvt_8w, bin_add64, bin_mul64, bin_sub64, bin_and51, bin_and32, bin_and1, bin_and8_1, bin_or64, bin_xor64, bin_or8, bin_shl64, bin_shl64j, bin_shr64, bin_shr64j, bin_shl8j, bin_shr8j, bin_quo64, bin_rem64, bin_quo32, bin_rem32, bin_addj, bin_subj, bin_quoj, bin_remj, bin_eqlj, bin_neqj, bin_lssj, bin_leqj, bin_gtrj, bin_geqj, bin_eql64, bin_lss64, bin_gtr64, bin_eql8, bin_rem8]; exact rfl) ?_))))
  refine wp_cond_f (by simp [AS.ev]) (wp_skip' ?_)
  refine wp_sg (areg_run 2 (by simp [runPre, AOp.ex, AOp.ex0, ex_mov, ex_bin, binA_lit, ex_cvt, ex_iaddrA, ex_iaddrS, ex_faddr, ex_load, ldA, ex_ext, ex_add64, add64A_un, ex_pick, ex_beq, ex_un, ex_len, lenA_sl, lenA_nil, lenA_str, lenA_own, lenRow_row, elA_own, elA_sl, elRow_row, ex_nilc, ex_build, ex_bslice, ex_fieldv, AOp.ro, AS.ev, AS.put, AS.fieldAddr, idxA_ptr, idxA_cptr, AS.peek, AS.poke, AS.blk, AS.setBlk, AV.nav, AV.upd, Blk.loc, Blk.cont, Blk.n, Blk.may, Blk.upd, AV.isAgg, AV.isTup, AV.sz, unVal, ownOk, fillAV, AV.sub, cvt_64j, cvt_64b, cvt_64w, cvt_8u, cvt_8w, bin_add64, bin_mul64, bin_sub64, bin_and51, bin_and32, bin_and1, bin_and8_1, bin_or64, bin_xor64, bin_or8, bin_shl64, bin_shl64j, bin_shr64, bin_shr64j, bin_shl8j, bin_shr8j, bin_quo64, bin_rem64, bin_quo32, bin_rem32, bin_addj, bin_subj, bin_quoj, bin_remj, bin_eqlj, bin_neqj, bin_lssj, bin_leqj, bin_gtrj, bin_geqj, bin_eql64, bin_lss64, bin_gtr64, bin_eql8, bin_rem8, lst_len]; exact rfl) ?_)
  refine areg_ca (by simp [AS.ev, AS.coe, AS.put] <;> exact rfl) c1 ?_
  refine areg_run 3 (by simp [runPre, AOp.ex, AOp.ex0, ex_mov, ex_bin, binA_lit, ex_cvt, ex_iaddrA, ex_iaddrS, ex_faddr, ex_load, ldA, ex_ext, ex_add64, add64A_un, ex_pick, ex_beq, ex_un, ex_len, lenA_sl, lenA_nil, lenA_str, lenA_own, lenRow_row, elA_own, elA_sl, elRow_row, ex_nilc, ex_build, ex_bslice, ex_fieldv, AOp.ro, AS.ev, AS.put, AS.fieldAddr, idxA_ptr, idxA_cptr, AS.peek, AS.poke, AS.blk, AS.setBlk, AV.nav, AV.upd, Blk.loc, Blk.cont, Blk.n, Blk.may, Blk.upd, AV.isAgg, AV.isTup, AV.sz, unVal, ownOk, fillAV, AV.sub, cvt_64j, cvt_64b, cvt_64w, cvt_8u, cvt_8w, bin_add64, bin_mul64, bin_sub64, bin_and51, bin_and32, bin_and1, bin_and8_1, bin_or64, bin_xor64, bin_or8, bin_shl64, bin_shl64j, bin_shr64, bin_shr64j, bin_shl8j, bin_shr8j, bin_quo64, bin_rem64, bin_quo32, bin_rem32, bin_addj, bin_subj, bin_quoj, bin_remj, bin_eqlj, bin_neqj, bin_lssj, bin_leqj, bin_gtrj, bin_geqj, bin_eql64, bin_lss64, bin_gtr64, bin_eql8, bin_rem8, lst_len]; exact rfl) ?_
  refine areg_al fun l3 => areg_end (by simp [runPre, AOp.ex, AOp.ex0, ex_mov, ex_bin, binA_lit, ex_cvt, ex_iaddrA, ex_iaddrS, ex_faddr, ex_load, ldA, ex_ext, ex_add64, add64A_un, ex_pick, ex_beq, ex_un, ex_len, lenA_sl, lenA_nil, lenA_str, lenA_own, lenRow_row, elA_own, elA_sl, elRow_row, ex_nilc, ex_build, ex_bslice, ex_fieldv, AOp.ro, AS.ev, AS.put, AS.fieldAddr, idxA_ptr, idxA_cptr, AS.peek, AS.poke, AS.blk, AS.setBlk, AV.nav, AV.upd, Blk.loc, Blk.cont, Blk.n, Blk.may, Blk.upd, AV.isAgg, AV.isTup, AV.sz, unVal, ownOk, fillAV, AV.sub, cvt_64j, cvt_64b, cvt_64w, cvt_8u, cvt_8w, bin_add64, bin_mul64, bin_sub64, bin_and51, bin_and32, bin_and1, bin_and8_1, bin_or64, bin_xor64, bin_or8, bin_shl64, bin_shl64j, bin_shr64, bin_shr64j, bin_shl8j, bin_shr8j, bin_quo64, bin_rem64, bin_quo32, bin_rem32, bin_addj, bin_subj, bin_quoj, bin_remj, bin_eqlj, bin_neqj, bin_lssj, bin_leqj, bin_gtrj, bin_geqj, bin_eql64, bin_lss64, bin_gtr64, bin_eql8, bin_rem8, lst_len]; exact rfl) ?_
  refine wp_sg (areg_run 2 (by simp [runPre, AOp.ex, AOp.ex0, ex_mov, ex_bin, binA_lit, ex_cvt, ex_iaddrA, ex_iaddrS, ex_faddr, ex_load, ldA, ex_ext, ex_add64, add64A_un, ex_pick, ex_beq, ex_un, ex_len, lenA_sl, lenA_nil, lenA_str, lenA_own, lenRow_row, elA_own, elA_sl, elRow_row, ex_nilc, ex_build, ex_bslice, ex_fieldv, AOp.ro, AS.ev, AS.put, AS.fieldAddr, idxA_ptr, idxA_cptr, AS.peek, AS.poke, AS.blk, AS.setBlk, AV.nav, AV.upd, Blk.loc, Blk.cont, Blk.n, Blk.may, Blk.upd, AV.isAgg, AV.isTup, AV.sz, unVal, ownOk, fillAV, AV.sub, cvt_64j, cvt_64b, cvt_64w, cvt_8u, cvt_8w, bin_add64, bin_mul64, bin_sub64, bin_and51, bin_and32, bin_and1, bin_and8_1, bin_or64, bin_xor64, bin_or8, bin_shl64, bin_shl64j, bin_shr64, bin_shr64j, bin_shl8j, bin_shr8j, bin_quo64, bin_rem64, bin_quo32, bin_rem32, bin_addj, bin_subj, bin_quoj, bin_remj, bin_eqlj, bin_neqj, bin_lssj, bin_leqj, bin_gtrj, bin_geqj, bin_eql64, bin_lss64, bin_gtr64, bin_eql8, bin_rem8, lst_len]; exact rfl) ?_)
  refine areg_ca (by simp [AS.ev, AS.coe, AS.put] <;> exact rfl) c2 ?_
  refine areg_run 3 (by simp [runPre, AOp.ex, AOp.ex0, ex_mov, ex_bin, binA_lit, ex_cvt, ex_iaddrA, ex_iaddrS, ex_faddr, ex_load, ldA, ex_ext, ex_add64, add64A_un, ex_pick, ex_beq, ex_un, ex_len, lenA_sl, lenA_nil, lenA_str, lenA_own, lenRow_row, elA_own, elA_sl, elRow_row, ex_nilc, ex_build, ex_bslice, ex_fieldv, AOp.ro, AS.ev, AS.put, AS.fieldAddr, idxA_ptr, idxA_cptr, AS.peek, AS.poke, AS.blk, AS.setBlk, AV.nav, AV.upd, Blk.loc, Blk.cont, Blk.n, Blk.may, Blk.upd, AV.isAgg, AV.isTup, AV.sz, unVal, ownOk, fillAV, AV.sub, cvt_64j, cvt_64b, cvt_64w, cvt_8u, cvt_8w, bin_add64, bin_mul64, bin_sub64, bin_and51, bin_and32, bin_and1, bin_and8_1, bin_or64, bin_xor64, bin_or8, bin_shl64, bin_shl64j, bin_shr64, bin_shr64j, bin_shl8j, bin_shr8j, bin_quo64, bin_rem64, bin_quo32, bin_rem32, bin_addj, bin_subj, bin_quoj, bin_remj, bin_eqlj, bin_neqj, bin_lssj, bin_leqj, bin_gtrj, bin_geqj, bin_eql64, bin_lss64, bin_gtr64, bin_eql8, bin_rem8, lst_len]; exact rfl) ?_
  refine areg_al fun l5 => areg_end (by simp [runPre, AOp.ex, AOp.ex0, ex_mov, ex_bin, binA_lit, ex_cvt, ex_iaddrA, ex_iaddrS, ex_faddr, ex_load, ldA, ex_ext, ex_add64, add64A_un, ex_pick, ex_beq, ex_un, ex_len, lenA_sl, lenA_nil, lenA_str, lenA_own, lenRow_row, elA_own, elA_sl, elRow_row, ex_nilc, ex_build, ex_bslice, ex_fieldv, AOp.ro, AS.ev, AS.put, AS.fieldAddr, idxA_ptr, idxA_cptr, AS.peek, AS.poke, AS.blk, AS.setBlk, AV.nav, AV.upd, Blk.loc, Blk.cont, Blk.n, Blk.may, Blk.upd, AV.isAgg, AV.isTup, AV.sz, unVal, ownOk, fillAV, AV.sub, cvt_64j, cvt_64b, cvt_64w, cvt_8u, cvt_8w, bin_add64, bin_mul64, bin_sub64, bin_and51, bin_and32, bin_and1, bin_and8_1, bin_or64, bin_xor64, bin_or8, bin_shl64, bin_shl64j, bin_shr64, bin_shr64j, bin_shl8j, bin_shr8j, bin_quo64, bin_rem64, bin_quo32, bin_rem32, bin_addj, bin_subj, bin_quoj, bin_remj, bin_eqlj, bin_neqj, bin_lssj, bin_leqj, bin_gtrj, bin_geqj, bin_eql64, bin_lss64, bin_gtr64, bin_eql8, bin_rem8, lst_len]; exact rfl) ?_
  refine wp_sg (areg_cv (by simp) hal ?_)
  refine areg_run 6 (by simp [runPre, AOp.ex, AOp.ex0, ex_mov, ex_bin, binA_lit, ex_cvt, ex_iaddrA, ex_iaddrS, ex_faddr, ex_load, ldA, ex_ext, ex_add64, add64A_un, ex_pick, ex_beq, ex_un, ex_len, lenA_sl, lenA_nil, lenA_str, lenA_own, lenRow_row, elA_own, elA_sl, elRow_row, ex_nilc, ex_build, ex_bslice, ex_fieldv, AOp.ro, AS.ev, AS.put, AS.fieldAddr, idxA_ptr, idxA_cptr, AS.peek, AS.poke, AS.blk, AS.setBlk, AV.nav, AV.upd, Blk.loc, Blk.cont, Blk.n, Blk.may, Blk.upd, AV.isAgg, AV.isTup, AV.sz, unVal, ownOk, fillAV, AV.sub, cvt_64j, cvt_64b, cvt_64w, cvt_8u, cvt_8w, bin_add64, bin_mul64, bin_sub64, bin_and51, bin_and32, bin_and1, bin_and8_1, bin_or64, bin_xor64, bin_or8, bin_shl64, bin_shl64j, bin_shr64, bin_shr64j, bin_shl8j, bin_shr8j, bin_quo64, bin_rem64, bin_quo32, bin_rem32, bin_addj, bin_subj, bin_quoj, bin_remj, bin_eqlj, bin_neqj, bin_lssj, bin_leqj, bin_gtrj, bin_geqj, bin_eql64, bin_lss64, bin_gtr64, bin_eql8, bin_rem8, lst_len]; exact rfl) ?_
  refine areg_g (by simp [AS.ev, AS.put]) (areg_cv (by simp [AS.ev, AS.coe, AS.put] <;> exact rfl) c3 ?_)
  refine areg_g (by simp [AS.ev, AS.put]) (areg_eq (by simp [AS.ev, AS.put] <;> exact rfl) (by simp [AS.ev, AS.put] <;> exact rfl) e rfl rfl ?_)
  refine areg_run 8 (by simp [runPre, AOp.ex, AOp.ex0, ex_mov, ex_bin, binA_lit, ex_cvt, ex_iaddrA, ex_iaddrS, ex_faddr, ex_load, ldA, ex_ext, ex_add64, add64A_un, ex_pick, ex_beq, ex_un, ex_len, lenA_sl, lenA_nil, lenA_str, lenA_own, lenRow_row, elA_own, elA_sl, elRow_row, ex_nilc, ex_build, ex_bslice, ex_fieldv, AOp.ro, AS.ev, AS.put, AS.fieldAddr, idxA_ptr, idxA_cptr, AS.peek, AS.poke, AS.blk, AS.setBlk, AV.nav, AV.upd, Blk.loc, Blk.cont, Blk.n, Blk.may, Blk.upd, AV.isAgg, AV.isTup, AV.sz, unVal, ownOk, fillAV, AV.sub, cvt_64j, cvt_64b, cvt_64w, cvt_8u, cvt_8w, bin_add64, bin_mul64, bin_sub64, bin_and51, bin_and32, bin_and1, bin_and8_1, bin_or64, bin_xor64, bin_or8, bin_shl64, bin_shl64j, bin_shr64, bin_shr64j, bin_shl8j, bin_shr8j, bin_quo64, bin_rem64, bin_quo32, bin_rem32, bin_addj, bin_subj, bin_quoj, bin_remj, bin_eqlj, bin_neqj, bin_lssj, bin_leqj, bin_gtrj, bin_geqj, bin_eql64, bin_lss64, bin_gtr64, bin_eql8, bin_rem8, lst_len]; exact rfl) ?_
  refine areg_g (by simp [AS.ev]) (areg_eq (by simp [AS.ev] <;> exact rfl) (by simp [AS.ev] <;> exact rfl) e2 rfl rfl ?_)
  refine areg_end (by simp [runPre, AOp.ex, AOp.ex0, ex_mov, ex_bin, binA_lit, ex_cvt, ex_iaddrA, ex_iaddrS, ex_faddr, ex_load, ldA, ex_ext, ex_add64, add64A_un, ex_pick, ex_beq, ex_un, ex_len, lenA_sl, lenA_nil, lenA_str, lenA_own, lenRow_row, elA_own, elA_sl, elRow_row, ex_nilc, ex_build, ex_bslice, ex_fieldv, AOp.ro, AS.ev, AS.put, AS.fieldAddr, idxA_ptr, idxA_cptr, AS.peek, AS.poke, AS.blk, AS.setBlk, AV.nav, AV.upd, Blk.loc, Blk.cont, Blk.n, Blk.may, Blk.upd, AV.isAgg, AV.isTup, AV.sz, unVal, ownOk, fillAV, AV.sub, cvt_64j, cvt_64b, cvt_64w, cvt_8u, cvt_8w, bin_add64, bin_mul64, bin_sub64, bin_and51, bin_and32, bin_and1, bin_and8_1, bin_or64, bin_xor64, bin_or8, bin_shl64, bin_shl64j, bin_shr64, bin_shr64j, bin_shl8j, bin_shr8j, bin_quo64, bin_rem64, bin_quo32, bin_rem32, bin_addj, bin_subj, bin_quoj, bin_remj, bin_eqlj, bin_neqj, bin_lssj, bin_leqj, bin_gtrj, bin_geqj, bin_eql64, bin_lss64, bin_gtr64, bin_eql8, bin_rem8]; exact rfl) ?_
  repeat (first | (with_reducible apply wp_sr); focus (simp [runPre, AOp.ex, AOp.ex0, ex_mov, ex_bin, binA_lit, ex_cvt, ex_iaddrA, ex_iaddrS, ex_faddr, ex_load, ldA, ex_ext, ex_add64, add64A_un, ex_pick, ex_beq, ex_un, ex_len, lenA_sl, lenA_nil, lenA_str, lenA_own, lenRow_row, elA_own, elA_sl, elRow_row, ex_nilc, ex_build, ex_bslice, ex_fieldv, AOp.ro, AS.ev, AS.put, AS.fieldAddr, idxA_ptr, idxA_cptr, AS.peek, AS.poke, AS.blk, AS.setBlk, AV.nav, AV.upd, Blk.loc, Blk.cont, Blk.n, Blk.may, Blk.upd, AV.isAgg, AV.isTup, AV.sz, unVal, ownOk, fillAV, AV.sub, cvt_64j, cvt_64b, cvt_64w, cvt_8u, cvt_8w, bin_add64, bin_mul64, bin_sub64, bin_and51, bin_and32, bin_and1, bin_and8_1, bin_or64, bin_xor64, bin_or8, bin_shl64, bin_shl64j, bin_shr64, bin_shr64j, bin_shl8j, bin_shr8j, bin_quo64, bin_rem64, bin_quo32, bin_rem32, bin_addj, bin_subj, bin_quoj, bin_remj, bin_eqlj, bin_neqj, bin_lssj, bin_leqj, bin_gtrj, bin_geqj, bin_eql64, bin_lss64, bin_gtr64, bin_eql8, bin_rem8]; exact rfl) | (with_reducible apply wp_r); focus (simp [runPre, AOp.ex, AOp.ex0, ex_mov, ex_bin, binA_lit, ex_cvt, ex_iaddrA, ex_iaddrS, ex_faddr, ex_load, ldA, ex_ext, ex_add64, add64A_un, ex_pick, ex_beq, ex_un, ex_len, lenA_sl, lenA_nil, lenA_str, lenA_own, lenRow_row, elA_own, elA_sl, elRow_row, ex_nilc, ex_build, ex_bslice, ex_fieldv, AOp.ro, AS.ev, AS.put, AS.fieldAddr, idxA_ptr, idxA_cptr, AS.peek, AS.poke, AS.blk, AS.setBlk, AV.nav, AV.upd, Blk.loc, Blk.cont, Blk.n, Blk.may, Blk.upd, AV.isAgg, AV.isTup, AV.sz, unVal, ownOk, fillAV, AV.sub, cvt_64j, cvt_64b, cvt_64w, cvt_8u, cvt_8w, bin_add64, bin_mul64, bin_sub64, bin_and51, bin_and32, bin_and1, bin_and8_1, bin_or64, bin_xor64, bin_or8, bin_shl64, bin_shl64j, bin_shr64, bin_shr64j, bin_shl8j, bin_shr8j, bin_quo64, bin_rem64, bin_quo32, bin_rem32, bin_addj, bin_subj, bin_quoj, bin_remj, bin_eqlj, bin_neqj, bin_lssj, bin_leqj, bin_gtrj, bin_geqj, bin_eql64, bin_lss64, bin_gtr64, bin_eql8, bin_rem8]; exact rfl) | (with_reducible refine wp_seq' (wp_cond_t ?_ ?_)); focus (simp [AS.ev]; done) | (with_reducible refine wp_seq' (wp_cond_f ?_ ?_)); focus (simp [AS.ev]; done) | (with_reducible refine wp_cond_t ?_ ?_); focus (simp [AS.ev]; done) | (with_reducible refine wp_cond_f ?_ ?_); focus (simp [AS.ev]; done) | with_reducible refine wp_seq' ?_ | with_reducible refine wp_block' ?_ | with_reducible refine wp_skip' ?_ | with_reducible refine wp_exit' ?_ | with_reducible refine wp_ret' ?_ | with_reducible refine if_hit rfl ?_ | with_reducible refine loopN_succ ?_)
  refine fin_tmp (by simp [RVal, AS.coe, tt, AS.ev]) (by simp)

set_option maxHeartbeats 8000000 in
set_option maxRecDepth 20000 in
theorem ladderMeets_call (a b : Nat) : PCall Go.Proofs.Try.prog 8 [keyAV a, keyAV b] (.val (.lit (.bool true))) := by
  have h204 := fc204_eq
  have hal := alive7_call
  obtain ⟨m1, m2⟩ := ladN_meet a b
  have c1 := public_P b
  have c2 := public_P a
  have g1 := agree_S a (ladN_lt b 9)
  have g2 := agree_S b (ladN_lt a 9)
  rw [← m1] at g2
  have e := eqkk (ladN_lt a (ladN b 9))
  generalize ladN a (ladN b 9) = x at *
  rw [decide_eq_false m2] at g1 g2
  clear m1 m2
  generalize ladN b 9 = y at *
  generalize ladN a 9 = z at *
  simp only [Bool.not_false] at g1 g2
  rw [kf b, kf y] at c1
  rw [kf a, kf z] at c2
  rw [kf a, kf y, kf x] at g1
  rw [kf b, kf z, kf x] at g2
  rw [kf x] at e
  rw [kf a, kf b]
  refine PCall.of h204 rfl ?_; show AC.wp _ fb204 (AS.init [.arr 1 (lst 32 fun j => .lit (bn (kb a j))), .arr 1 (lst 32 fun j => .lit (bn (kb b j)))] 2 37) (fun x s => match x with | .exit _ => False | _ => Fin [(.tmp 4)] s _); unfold fb204 AS.init
  refine wp_sg (areg_bx rfl (by simp [AS.ev, AV.sz, lst_len]) fun l2 => areg_bx rfl (by simp [AS.ev, AV.sz, lst_len]) fun l3 => areg_end (by simp [runPre, AOp.ex, AOp.ex0, ex_mov, ex_bin, binA_lit, ex_cvt, ex_iaddrA, ex_iaddrS, ex_faddr, ex_load, ldA, ex_ext, ex_add64, add64A_un, ex_pick, ex_beq, ex_un, ex_len, lenA_sl, lenA_nil, lenA_str, lenA_own, lenRow_row, elA_own, elA_sl, elRow_row, ex_nilc, ex_build, ex_bslice, ex_fieldv, AOp.ro, AS.ev, AS.put, AS.fieldAddr, idxA_ptr, idxA_cptr, AS.peek, AS.poke, AS.blk, AS.setBlk, AV.nav, AV.upd, Blk.loc, Blk.cont, Blk.n, Blk.may, Blk.upd, AV.isAgg, AV.isTup, AV.sz, unVal, ownOk, fillAV, AV.sub, cvt_64j, cvt_64b, cvt_64w, cvt_8u, cvt_8w, bin_add64, bin_mul64, bin_sub64, bin_and51, bin_and32, bin_and1, bin_and8_1, bin_or64, bin_xor64, bin_or8, bin_shl64, bin_shl64j, bin_shr64, bin_shr64j, bin_shl8j, bin_shr8j, bin_quo64, bin_rem64, bin_quo32, bin_rem32, bin_addj, bin_subj, bin_quoj, bin_remj, bin_eqlj, bin_neqj, bin_lssj, bin_leqj, bin_gtrj, bin_geqj, bin_eql64, bin_lss64, bin_gtr64, bin_eql8, bin_rem8]; exact rfl) ?_)
  refine wp_seq' (wp_seq' (wp_rg (areg_ca (by simp) hal (areg_end (by simp [runPre, AOp.ex, AOp.ex0, ex_mov, ex_bin, binA_lit, ex_cvt, ex_iaddrA, ex_iaddrS, ex_faddr, ex_load, ldA, ex_ext, ex_add64, add64A_un, ex_pick, ex_beq, ex_un, ex_len, lenA_sl, lenA_nil, lenA_str, lenA_own, lenRow_row, elA_own, elA_sl, elRow_row, ex_nilc, ex_build, ex_bslice, ex_fieldv, AOp.ro, AS.ev, AS.put, AS.fieldAddr, idxA_ptr, idxA_cptr, AS.peek, AS.poke, AS.blk, AS.setBlk, AV.nav, AV.upd, Blk.loc, Blk.cont, Blk.n, Blk.may, Blk.upd, AV.isAgg, AV.isTup, AV.sz, unVal, ownOk, fillAV, AV.sub, cvt_64j, cvt_64b, cvt_64w, cvt_8u, cvt_8w, bin_add64, bin_mul64, bin_sub64, bin_and51, bin_and32, bin_and1, bin_and8_1, bin_or64, bin_xor64, bin_or8, bin_shl64, bin_shl64j, bin_shr64, bin_shr64j, bin_shl8j, bin_shr8j, bin_quo64, bin_rem64, bin_quo32, bin_rem32, bin_addj, bin_subj, bin_quoj, bin_remj, bin_eqlj, bin_neqj, bin_lssj, bin_leqj, bin_gtrj, bin_geqj, bin_eql64, bin_lss64, bin_gtr64, bin_eql8, bin_rem8]; exact rfl) ?_))))
  refine wp_cond_f (by simp [AS.ev]) (wp_skip' ?_)
  refine wp_sg (areg_run 2 (by simp [runPre, AOp.ex, AOp.ex0, ex_mov, ex_bin, binA_lit, ex_cvt, ex_iaddrA, ex_iaddrS, ex_faddr, ex_load, ldA, ex_ext, ex_add64, add64A_un, ex_pick, ex_beq, ex_un, ex_len, lenA_sl, lenA_nil, lenA_str, lenA_own, lenRow_row, elA_own, elA_sl, elRow_row, ex_nilc, ex_build, ex_bslice, ex_fieldv, AOp.ro, AS.ev, AS.put, AS.fieldAddr, idxA_ptr, idxA_cptr, AS.peek, AS.poke, AS.blk, AS.setBlk, AV.nav, AV.upd, Blk.loc, Blk.cont, Blk.n, Blk.may, Blk.upd, AV.isAgg, AV.isTup, AV.sz, unVal, ownOk, fillAV, AV.sub, cvt_64j, cvt_64b, cvt_64w, cvt_8u, cvt_8w, bin_add64, bin_mul64, bin_sub64, bin_and51, bin_and32, bin_and1, bin_and8_1, bin_or64, bin_xor64, bin_or8, bin_shl64, bin_shl64j, bin_shr64, bin_shr64j, bin_shl8j, bin_shr8j, bin_quo64, bin_rem64, bin_quo32, bin_rem32, bin_addj, bin_subj, bin_quoj, bin_remj, bin_eqlj, bin_neqj, bin_lssj, bin_leqj, bin_gtrj, bin_geqj, bin_eql64, bin_lss64, bin_gtr64, bin_eql8, bin_rem8, lst_len]; exact rfl) ?_)
  refine areg_cv (by simp [AS.ev, AS.coe, AS.put] <;> exact rfl) c1 ?_
  refine areg_cv (by simp [AS.ev, AS.coe, AS.put] <;> exact rfl) g1 ?_
  refine areg_run 3 (by simp [runPre, AOp.ex, AOp.ex0, ex_mov, ex_bin, binA_lit, ex_cvt, ex_iaddrA, ex_iaddrS, ex_faddr, ex_load, ldA, ex_ext, ex_add64, add64A_un, ex_pick, ex_beq, ex_un, ex_len, lenA_sl, lenA_nil, lenA_str, lenA_own, lenRow_row, elA_own, elA_sl, elRow_row, ex_nilc, ex_build, ex_bslice, ex_fieldv, AOp.ro, AS.ev, AS.put, AS.fieldAddr, idxA_ptr, idxA_cptr, AS.peek, AS.poke, AS.blk, AS.setBlk, AV.nav, AV.upd, Blk.loc, Blk.cont, Blk.n, Blk.may, Blk.upd, AV.isAgg, AV.isTup, AV.sz, unVal, ownOk, fillAV, AV.sub, cvt_64j, cvt_64b, cvt_64w, cvt_8u, cvt_8w, bin_add64, bin_mul64, bin_sub64, bin_and51, bin_and32, bin_and1, bin_and8_1, bin_or64, bin_xor64, bin_or8, bin_shl64, bin_shl64j, bin_shr64, bin_shr64j, bin_shl8j, bin_shr8j, bin_quo64, bin_rem64, bin_quo32, bin_rem32, bin_addj, bin_subj, bin_quoj, bin_remj, bin_eqlj, bin_neqj, bin_lssj, bin_leqj, bin_gtrj, bin_geqj, bin_eql64, bin_lss64, bin_gtr64, bin_eql8, bin_rem8, lst_len]; exact rfl) ?_
  refine areg_al fun l5 => areg_end (by simp [runPre, AOp.ex, AOp.ex0, ex_mov, ex_bin, binA_lit, ex_cvt, ex_iaddrA, ex_iaddrS, ex_faddr, ex_load, ldA, ex_ext, ex_add64, add64A_un, ex_pick, ex_beq, ex_un, ex_len, lenA_sl, lenA_nil, lenA_str, lenA_own, lenRow_row, elA_own, elA_sl, elRow_row, ex_nilc, ex_build, ex_bslice, ex_fieldv, AOp.ro, AS.ev, AS.put, AS.fieldAddr, idxA_ptr, idxA_cptr, AS.peek, AS.poke, AS.blk, AS.setBlk, AV.nav, AV.upd, Blk.loc, Blk.cont, Blk.n, Blk.may, Blk.upd, AV.isAgg, AV.isTup, AV.sz, unVal, ownOk, fillAV, AV.sub, cvt_64j, cvt_64b, cvt_64w, cvt_8u, cvt_8w, bin_add64, bin_mul64, bin_sub64, bin_and51, bin_and32, bin_and1, bin_and8_1, bin_or64, bin_xor64, bin_or8, bin_shl64, bin_shl64j, bin_shr64, bin_shr64j, bin_shl8j, bin_shr8j, bin_quo64, bin_rem64, bin_quo32, bin_rem32, bin_addj, bin_subj, bin_quoj, bin_remj, bin_eqlj, bin_neqj, bin_lssj, bin_leqj, bin_gtrj, bin_geqj, bin_eql64, bin_lss64, bin_gtr64, bin_eql8, bin_rem8, lst_len]; exact rfl) ?_
  refine wp_sg (areg_run 2 (by simp [runPre, AOp.ex, AOp.ex0, ex_mov, ex_bin, binA_lit, ex_cvt, ex_iaddrA, ex_iaddrS, ex_faddr, ex_load, ldA, ex_ext, ex_add64, add64A_un, ex_pick, ex_beq, ex_un, ex_len, lenA_sl, lenA_nil, lenA_str, lenA_own, lenRow_row, elA_own, elA_sl, elRow_row, ex_nilc, ex_build, ex_bslice, ex_fieldv, AOp.ro, AS.ev, AS.put, AS.fieldAddr, idxA_ptr, idxA_cptr, AS.peek, AS.poke, AS.blk, AS.setBlk, AV.nav, AV.upd, Blk.loc, Blk.cont, Blk.n, Blk.may, Blk.upd, AV.isAgg, AV.isTup, AV.sz, unVal, ownOk, fillAV, AV.sub, cvt_64j, cvt_64b, cvt_64w, cvt_8u, cvt_8w, bin_add64, bin_mul64, bin_sub64, bin_and51, bin_and32, bin_and1, bin_and8_1, bin_or64, bin_xor64, bin_or8, bin_shl64, bin_shl64j, bin_shr64, bin_shr64j, bin_shl8j, bin_shr8j, bin_quo64, bin_rem64, bin_quo32, bin_rem32, bin_addj, bin_subj, bin_quoj, bin_remj, bin_eqlj, bin_neqj, bin_lssj, bin_leqj, bin_gtrj, bin_geqj, bin_eql64, bin_lss64, bin_gtr64, bin_eql8, bin_rem8, lst_len]; exact rfl) ?_)
  refine areg_cv (by simp [AS.ev, AS.coe, AS.put] <;> exact rfl) c2 ?_
  refine areg_cv (by simp [AS.ev, AS.coe, AS.put] <;> exact rfl) g2 ?_
  refine areg_run 3 (by simp [runPre, AOp.ex, AOp.ex0, ex_mov, ex_bin, binA_lit, ex_cvt, ex_iaddrA, ex_iaddrS, ex_faddr, ex_load, ldA, ex_ext, ex_add64, add64A_un, ex_pick, ex_beq, ex_un, ex_len, lenA_sl, lenA_nil, lenA_str, lenA_own, lenRow_row, elA_own, elA_sl, elRow_row, ex_nilc, ex_build, ex_bslice, ex_fieldv, AOp.ro, AS.ev, AS.put, AS.fieldAddr, idxA_ptr, idxA_cptr, AS.peek, AS.poke, AS.blk, AS.setBlk, AV.nav, AV.upd, Blk.loc, Blk.cont, Blk.n, Blk.may, Blk.upd, AV.isAgg, AV.isTup, AV.sz, unVal, ownOk, fillAV, AV.sub, cvt_64j, cvt_64b, cvt_64w, cvt_8u, cvt_8w, bin_add64, bin_mul64, bin_sub64, bin_and51, bin_and32, bin_and1, bin_and8_1, bin_or64, bin_xor64, bin_or8, bin_shl64, bin_shl64j, bin_shr64, bin_shr64j, bin_shl8j, bin_shr8j, bin_quo64, bin_rem64, bin_quo32, bin_rem32, bin_addj, bin_subj, bin_quoj, bin_remj, bin_eqlj, bin_neqj, bin_lssj, bin_leqj, bin_gtrj, bin_geqj, bin_eql64, bin_lss64, bin_gtr64, bin_eql8, bin_rem8, lst_len]; exact rfl) ?_
  refine areg_al fun l7 => areg_end (by simp [runPre, AOp.ex, AOp.ex0, ex_mov, ex_bin, binA_lit, ex_cvt, ex_iaddrA, ex_iaddrS, ex_faddr, ex_load, ldA, ex_ext, ex_add64, add64A_un, ex_pick, ex_beq, ex_un, ex_len, lenA_sl, lenA_nil, lenA_str, lenA_own, lenRow_row, elA_own, elA_sl, elRow_row, ex_nilc, ex_build, ex_bslice, ex_fieldv, AOp.ro, AS.ev, AS.put, AS.fieldAddr, idxA_ptr, idxA_cptr, AS.peek, AS.poke, AS.blk, AS.setBlk, AV.nav, AV.upd, Blk.loc, Blk.cont, Blk.n, Blk.may, Blk.upd, AV.isAgg, AV.isTup, AV.sz, unVal, ownOk, fillAV, AV.sub, cvt_64j, cvt_64b, cvt_64w, cvt_8u, cvt_8w, bin_add64, bin_mul64, bin_sub64, bin_and51, bin_and32, bin_and1, bin_and8_1, bin_or64, bin_xor64, bin_or8, bin_shl64, bin_shl64j, bin_shr64, bin_shr64j, bin_shl8j, bin_shr8j, bin_quo64, bin_rem64, bin_quo32, bin_rem32, bin_addj, bin_subj, bin_quoj, bin_remj, bin_eqlj, bin_neqj, bin_lssj, bin_leqj, bin_gtrj, bin_geqj, bin_eql64, bin_lss64, bin_gtr64, bin_eql8, bin_rem8, lst_len]; exact rfl) ?_
  refine wp_sg (areg_ca (by simp) hal ?_)
  refine areg_run 9 (by simp [runPre, AOp.ex, AOp.ex0, ex_mov, ex_bin, binA_lit, ex_cvt, ex_iaddrA, ex_iaddrS, ex_faddr, ex_load, ldA, ex_ext, ex_add64, add64A_un, ex_pick, ex_beq, ex_un, ex_len, lenA_sl, lenA_nil, lenA_str, lenA_own, lenRow_row, elA_own, elA_sl, elRow_row, ex_nilc, ex_build, ex_bslice, ex_fieldv, AOp.ro, AS.ev, AS.put, AS.fieldAddr, idxA_ptr, idxA_cptr, AS.peek, AS.poke, AS.blk, AS.setBlk, AV.nav, AV.upd, Blk.loc, Blk.cont, Blk.n, Blk.may, Blk.upd, AV.isAgg, AV.isTup, AV.sz, unVal, ownOk, fillAV, AV.sub, cvt_64j, cvt_64b, cvt_64w, cvt_8u, cvt_8w, bin_add64, bin_mul64, bin_sub64, bin_and51, bin_and32, bin_and1, bin_and8_1, bin_or64, bin_xor64, bin_or8, bin_shl64, bin_shl64j, bin_shr64, bin_shr64j, bin_shl8j, bin_shr8j, bin_quo64, bin_rem64, bin_quo32, bin_rem32, bin_addj, bin_subj, bin_quoj, bin_remj, bin_eqlj, bin_neqj, bin_lssj, bin_leqj, bin_gtrj, bin_geqj, bin_eql64, bin_lss64, bin_gtr64, bin_eql8, bin_rem8, lst_len]; exact rfl) ?_
  refine areg_g (by simp [AS.ev]) (areg_eq (by simp [AS.ev] <;> exact rfl) (by simp [AS.ev] <;> exact rfl) e rfl rfl ?_)
  refine areg_end (by simp [runPre, AOp.ex, AOp.ex0, ex_mov, ex_bin, binA_lit, ex_cvt, ex_iaddrA, ex_iaddrS, ex_faddr, ex_load, ldA, ex_ext, ex_add64, add64A_un, ex_pick, ex_beq, ex_un, ex_len, lenA_sl, lenA_nil, lenA_str, lenA_own, lenRow_row, elA_own, elA_sl, elRow_row, ex_nilc, ex_build, ex_bslice, ex_fieldv, AOp.ro, AS.ev, AS.put, AS.fieldAddr, idxA_ptr, idxA_cptr, AS.peek, AS.poke, AS.blk, AS.setBlk, AV.nav, AV.upd, Blk.loc, Blk.cont, Blk.n, Blk.may, Blk.upd, AV.isAgg, AV.isTup, AV.sz, unVal, ownOk, fillAV, AV.sub, cvt_64j, cvt_64b, cvt_64w, cvt_8u, cvt_8w, bin_add64, bin_mul64, bin_sub64, bin_and51, bin_and32, bin_and1, bin_and8_1, bin_or64, bin_xor64, bin_or8, bin_shl64, bin_shl64j, bin_shr64, bin_shr64j, bin_shl8j, bin_shr8j, bin_quo64, bin_rem64, bin_quo32, bin_rem32, bin_addj, bin_subj, bin_quoj, bin_remj, bin_eqlj, bin_neqj, bin_lssj, bin_leqj, bin_gtrj, bin_geqj, bin_eql64, bin_lss64, bin_gtr64, bin_eql8, bin_rem8]; exact rfl) ?_
  repeat (first | (with_reducible apply wp_sr); focus (simp [runPre, AOp.ex, AOp.ex0, ex_mov, ex_bin, binA_lit, ex_cvt, ex_iaddrA, ex_iaddrS, ex_faddr, ex_load, ldA, ex_ext, ex_add64, add64A_un, ex_pick, ex_beq, ex_un, ex_len, lenA_sl, lenA_nil, lenA_str, lenA_own, lenRow_row, elA_own, elA_sl, elRow_row, ex_nilc, ex_build, ex_bslice, ex_fieldv, AOp.ro, AS.ev, AS.put, AS.fieldAddr, idxA_ptr, idxA_cptr, AS.peek, AS.poke, AS.blk, AS.setBlk, AV.nav, AV.upd, Blk.loc, Blk.cont, Blk.n, Blk.may, Blk.upd, AV.isAgg, AV.isTup, AV.sz, unVal, ownOk, fillAV, AV.sub, cvt_64j, cvt_64b, cvt_64w, cvt_8u, cvt_8w, bin_add64, bin_mul64, bin_sub64, bin_and51, bin_and32, bin_and1, bin_and8_1, bin_or64, bin_xor64, bin_or8, bin_shl64, bin_shl64j, bin_shr64, bin_shr64j, bin_shl8j, bin_shr8j, bin_quo64, bin_rem64, bin_quo32, bin_rem32, bin_addj, bin_subj, bin_quoj, bin_remj, bin_eqlj, bin_neqj, bin_lssj, bin_leqj, bin_gtrj, bin_geqj, bin_eql64, bin_lss64, bin_gtr64, bin_eql8, bin_rem8]; exact rfl) | (with_reducible apply wp_r); focus (simp [runPre, AOp.ex, AOp.ex0, ex_mov, ex_bin, binA_lit, ex_cvt, ex_iaddrA, ex_iaddrS, ex_faddr, ex_load, ldA, ex_ext, ex_add64, add64A_un, ex_pick, ex_beq, ex_un, ex_len, lenA_sl, lenA_nil, lenA_str, lenA_own, lenRow_row, elA_own, elA_sl, elRow_row, ex_nilc, ex_build, ex_bslice, ex_fieldv, AOp.ro, AS.ev, AS.put, AS.fieldAddr, idxA_ptr, idxA_cptr, AS.peek, AS.poke, AS.blk, AS.setBlk, AV.nav, AV.upd, Blk.loc, Blk.cont, Blk.n, Blk.may, Blk.upd, AV.isAgg, AV.isTup, AV.sz, unVal, ownOk, fillAV, AV.sub, cvt_64j, cvt_64b, cvt_64w, cvt_8u, cvt_8w, bin_add64, bin_mul64, bin_sub64, bin_and51, bin_and32, bin_and1, bin_and8_1, bin_or64, bin_xor64, bin_or8, bin_shl64, bin_shl64j, bin_shr64, bin_shr64j, bin_shl8j, bin_shr8j, bin_quo64, bin_rem64, bin_quo32, bin_rem32, bin_addj, bin_subj, bin_quoj, bin_remj, bin_eqlj, bin_neqj, bin_lssj, bin_leqj, bin_gtrj, bin_geqj, bin_eql64, bin_lss64, bin_gtr64, bin_eql8, bin_rem8]; exact rfl) | (with_reducible refine wp_seq' (wp_cond_t ?_ ?_)); focus (simp [AS.ev]; done) | (with_reducible refine wp_seq' (wp_cond_f ?_ ?_)); focus (simp [AS.ev]; done) | (with_reducible refine wp_cond_t ?_ ?_); focus (simp [AS.ev]; done) | (with_reducible refine wp_cond_f ?_ ?_); focus (simp [AS.ev]; done) | with_reducible refine wp_seq' ?_ | with_reducible refine wp_block' ?_ | with_reducible refine wp_skip' ?_ | with_reducible refine wp_exit' ?_ | with_reducible refine wp_ret' ?_ | with_reducible refine if_hit rfl ?_ | with_reducible refine loopN_succ ?_)
  refine fin_tmp (by simp [RVal, AS.coe, tt, AS.ev]) (by simp)
end Go.Cab

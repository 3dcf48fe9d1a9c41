/- Five limbs: what they come to. -/
import Derived.Test.YtjkckdiepdbfeaaCabF4
set_option linter.unusedSimpArgs false
set_option linter.unusedVariables false
set_option linter.unusedSectionVars false
namespace Go.Cab

/-- The modulus. -/
def pp : Nat := 57896044618658097711785492504343953926634992332820282019728792003956564819949

structure L5 where
  a : Nat
  b : Nat
  c : Nat
  d : Nat
  e : Nat

def L5.av (l : L5) : AV := elem l.a l.b l.c l.d l.e
def L5.val (l : L5) : Nat := val5 l.a l.b l.c l.d l.e
def L5.lim (l : L5) (n : Nat) : Prop := l.a < n ∧ l.b < n ∧ l.c < n ∧ l.d < n ∧ l.e < n
/-- Limbs below 2^52. -/
def L5.ok (l : L5) : Prop := l.lim 4503599627370496
/-- Limbs as carry leaves them. -/
def L5.fine (l : L5) : Prop := l.a < 2251799813763072 ∧ l.b < 2251799813685248 ∧ l.c < 2251799813685248 ∧ l.d < 2251799813685248 ∧ l.e < 2251799813685248

theorem L5.fine.ok {l : L5} (h : l.fine) : l.ok := by
  unfold L5.fine at h; unfold L5.ok L5.lim; omega

def L5.carry (l : L5) : L5 := ⟨l.a % 2251799813685248 + 19 * (cy5 l.a l.b l.c l.d l.e / 2251799813685248), cy2 l.a l.b % 2251799813685248, cy3 l.a l.b l.c % 2251799813685248, cy4 l.a l.b l.c l.d % 2251799813685248, cy5 l.a l.b l.c l.d l.e % 2251799813685248⟩

theorem L5.carry_fine {l : L5} (h : l.lim 9223372036854775808) : l.carry.fine := by
  obtain ⟨a, b, c, d, e⟩ := l
  simp only [L5.lim] at h
  simp only [L5.fine, L5.carry, cy5, cy4, cy3, cy2]
  omega

theorem ripple (a b c d e : Nat) : val5 a b c d e = val5 (a % 2251799813685248) (cy2 a b % 2251799813685248) (cy3 a b c % 2251799813685248) (cy4 a b c d % 2251799813685248) (cy5 a b c d e % 2251799813685248) + 57896044618658097711785492504343953926634992332820282019728792003956564819968 * (cy5 a b c d e / 2251799813685248) := by
  have h1 := Nat.div_add_mod a 2251799813685248
  have h2 := Nat.div_add_mod (cy2 a b) 2251799813685248
  have h3 := Nat.div_add_mod (cy3 a b c) 2251799813685248
  have h4 := Nat.div_add_mod (cy4 a b c d) 2251799813685248
  have h5 := Nat.div_add_mod (cy5 a b c d e) 2251799813685248
  have e2 : cy2 a b = b + a / 2251799813685248 := rfl
  have e3 : cy3 a b c = c + cy2 a b / 2251799813685248 := rfl
  have e4 : cy4 a b c d = d + cy3 a b c / 2251799813685248 := rfl
  have e5 : cy5 a b c d e = e + cy4 a b c d / 2251799813685248 := rfl
  unfold val5
  generalize cy5 a b c d e / 2251799813685248 = q5 at *
  generalize cy5 a b c d e % 2251799813685248 = r5 at *
  generalize cy4 a b c d / 2251799813685248 = q4 at *
  generalize cy4 a b c d % 2251799813685248 = r4 at *
  generalize cy3 a b c / 2251799813685248 = q3 at *
  generalize cy3 a b c % 2251799813685248 = r3 at *
  generalize cy2 a b / 2251799813685248 = q2 at *
  generalize cy2 a b % 2251799813685248 = r2 at *
  generalize a / 2251799813685248 = q1 at *
  generalize a % 2251799813685248 = r1 at *
  omega

theorem L5.carry_val (l : L5) : l.val = l.carry.val + pp * (cy5 l.a l.b l.c l.d l.e / 2251799813685248) := by
  have h := ripple l.a l.b l.c l.d l.e
  simp only [L5.val, L5.carry]
  unfold val5 at *
  unfold pp
  omega

theorem L5.carry_mod (l : L5) : l.carry.val % pp = l.val % pp := by
  rw [l.carry_val, Nat.add_mul_mod_self_left]

theorem carry_L {P : Program} (h79 : compF P 29 = some fc79) {l : L5} (h : l.lim 9223372036854775808) : PCall P 29 [l.av] (.val l.carry.av) :=
  carry_call h79 h.1 h.2.1 h.2.2.1 h.2.2.2.1 h.2.2.2.2

theorem L5.ok.lim63 {l : L5} (h : l.ok) : l.lim 9223372036854775808 := by
  unfold L5.ok L5.lim at *; omega

/-- The limbs of a number. -/
def L5.of (n : Nat) : L5 := ⟨n % 2251799813685248, n / 2251799813685248 % 2251799813685248, n / 5070602400912917605986812821504 % 2251799813685248, n / 11417981541647679048466287755595961091061972992 % 2251799813685248, n / 25711008708143844408671393477458601640355247900524685364822016 % 2251799813685248⟩

theorem L5.of_av (n : Nat) : (L5.of n).av = elAV n := by
  have e0 : n / 2 ^ (51 * 0) = n := by simp
  show elem _ _ _ _ _ = .st [5] [.arr 1 [.lit (un (n / 2 ^ (51 * 0) % 2251799813685248)), .lit (un (n / 2 ^ (51 * 1) % 2251799813685248)), .lit (un (n / 2 ^ (51 * 2) % 2251799813685248)), .lit (un (n / 2 ^ (51 * 3) % 2251799813685248)), .lit (un (n / 2 ^ (51 * 4) % 2251799813685248))]]
  rw [e0]
  rfl

theorem L5.of_fine (n : Nat) : (L5.of n).fine := by
  unfold L5.fine L5.of; simp only; omega

theorem L5.of_val {n : Nat} (h : n < 57896044618658097711785492504343953926634992332820282019728792003956564819968) : (L5.of n).val = n := by
  unfold L5.val L5.of val5; simp only; omega

theorem of_val5 {a b c d e : Nat} (ha : a < 2251799813685248) (hb : b < 2251799813685248) (hc : c < 2251799813685248) (hd : d < 2251799813685248) (he : e < 2251799813685248) : L5.of (val5 a b c d e) = ⟨a, b, c, d, e⟩ := by
  unfold L5.of val5
  simp only [L5.mk.injEq]
  omega

theorem val5_lt {a b c d e : Nat} (ha : a < 2251799813685248) (hb : b < 2251799813685248) (hc : c < 2251799813685248) (hd : d < 2251799813685248) (he : e < 2251799813685248) : val5 a b c d e < 57896044618658097711785492504343953926634992332820282019728792003956564819968 := by
  unfold val5; omega

theorem prod_val (a0 a1 a2 a3 a4 b0 b1 b2 b3 b4 : Nat) : val5 a0 a1 a2 a3 a4 * val5 b0 b1 b2 b3 b4 =
    val5 (a0 * b0 + a1 * (b4 * 19) + a2 * (b3 * 19) + a3 * (b2 * 19) + a4 * (b1 * 19)) (a0 * b1 + a1 * b0 + a2 * (b4 * 19) + a3 * (b3 * 19) + a4 * (b2 * 19)) (a0 * b2 + a1 * b1 + a2 * b0 + a3 * (b4 * 19) + a4 * (b3 * 19)) (a0 * b3 + a1 * b2 + a2 * b1 + a3 * b0 + a4 * (b4 * 19)) (a0 * b4 + a1 * b3 + a2 * b2 + a3 * b1 + a4 * b0)
    + pp * (a1 * b4 + a2 * b3 + a3 * b2 + a4 * b1 + 2251799813685248 * (a2 * b4 + a3 * b3 + a4 * b2) + 5070602400912917605986812821504 * (a3 * b4 + a4 * b3) + 11417981541647679048466287755595961091061972992 * (a4 * b4)) := by
  unfold val5 pp
  grind

def L5.sums (l m : L5) : L5 :=
  ⟨l.a * m.a + l.b * (m.e * 19) + l.c * (m.d * 19) + l.d * (m.c * 19) + l.e * (m.b * 19), l.a * m.b + l.b * m.a + l.c * (m.e * 19) + l.d * (m.d * 19) + l.e * (m.c * 19),
   l.a * m.c + l.b * m.b + l.c * m.a + l.d * (m.e * 19) + l.e * (m.d * 19), l.a * m.d + l.b * m.c + l.c * m.b + l.d * m.a + l.e * (m.e * 19), l.a * m.e + l.b * m.d + l.c * m.c + l.d * m.b + l.e * m.a⟩

/-- A product, reduced. -/
def L5.red (n : L5) : L5 :=
  ⟨(n.a % 2251799813685248 + cy5 n.a n.b n.c n.d n.e / 2251799813685248 * 19) % 2251799813685248, cy2 n.a n.b % 2251799813685248 + (n.a % 2251799813685248 + cy5 n.a n.b n.c n.d n.e / 2251799813685248 * 19) / 2251799813685248, cy3 n.a n.b n.c % 2251799813685248, cy4 n.a n.b n.c n.d % 2251799813685248, cy5 n.a n.b n.c n.d n.e % 2251799813685248⟩
def L5.mul (l m : L5) : L5 := (l.sums m).red

theorem L5.red_val (n : L5) : n.val = n.red.val + pp * (cy5 n.a n.b n.c n.d n.e / 2251799813685248) := by
  have h := ripple n.a n.b n.c n.d n.e
  simp only [L5.val, L5.red]
  have h6 := Nat.div_add_mod (n.a % 2251799813685248 + cy5 n.a n.b n.c n.d n.e / 2251799813685248 * 19) 2251799813685248
  unfold val5 at *
  unfold pp
  omega

theorem L5.mul_mod (l m : L5) : (l.mul m).val % pp = l.val * m.val % pp := by
  have h := prod_val l.a l.b l.c l.d l.e m.a m.b m.c m.d m.e
  have h2 := L5.red_val (l.sums m)
  have e : l.val * m.val = (l.sums m).val + pp * (l.b * m.e + l.c * m.d + l.d * m.c + l.e * m.b + 2251799813685248 * (l.c * m.e + l.d * m.d + l.e * m.c) + 5070602400912917605986812821504 * (l.d * m.e + l.e * m.d) + 11417981541647679048466287755595961091061972992 * (l.e * m.e)) := h
  rw [e, h2, Nat.add_mul_mod_self_left, Nat.add_mul_mod_self_left]
  rfl

theorem L5.red_ok {n : L5} (h : n.lim 2596148429267413814265248164610048) : n.red.ok := by
  obtain ⟨a, b, c, d, e⟩ := n
  simp only [L5.lim] at h
  simp only [L5.ok, L5.lim, L5.red, cy5, cy4, cy3, cy2]
  refine ⟨by omega, ?_, by omega, by omega, by omega⟩
  omega

theorem L5.sums_lim {l m : L5} (hl : l.ok) (hm : m.ok) : (l.sums m).lim 2596148429267413814265248164610048 := by
  obtain ⟨a0, a1, a2, a3, a4⟩ := l
  obtain ⟨b0, b1, b2, b3, b4⟩ := m
  simp only [L5.ok, L5.lim] at hl hm
  have pr : ∀ x y : Nat, x < 4503599627370496 → y < 85568392920039424 → x * y < 385365782469381738054997774434304 := fun x y hx hy => by
    have := Nat.mul_lt_mul'' hx hy
    exact this
  obtain ⟨h0, h1, h2, h3, h4⟩ := hl
  obtain ⟨k0, k1, k2, k3, k4⟩ := hm
  simp only [L5.lim, L5.sums]
  have p := fun x (hx : x < 4503599627370496) => (⟨pr x b0 hx (by omega), pr x b1 hx (by omega), pr x b2 hx (by omega), pr x b3 hx (by omega), pr x b4 hx (by omega), pr x (b1 * 19) hx (by omega), pr x (b2 * 19) hx (by omega), pr x (b3 * 19) hx (by omega), pr x (b4 * 19) hx (by omega)⟩ : _ ∧ _ ∧ _ ∧ _ ∧ _ ∧ _ ∧ _ ∧ _ ∧ _)
  have q0 := p a0 h0
  have q1 := p a1 h1
  have q2 := p a2 h2
  have q3 := p a3 h3
  have q4 := p a4 h4
  omega

theorem L5.mul_ok {l m : L5} (hl : l.ok) (hm : m.ok) : (l.mul m).ok := L5.red_ok (L5.sums_lim hl hm)

def L5.add (l m : L5) : L5 := ⟨l.a + m.a, l.b + m.b, l.c + m.c, l.d + m.d, l.e + m.e⟩
def L5.plus (l m : L5) : L5 := (l.add m).carry
theorem L5.add_lim {l m : L5} (hl : l.ok) (hm : m.ok) : (l.add m).lim 9223372036854775808 := by
  unfold L5.ok L5.lim at *; simp only [L5.add]; omega
theorem L5.plus_ok {l m : L5} (hl : l.ok) (hm : m.ok) : (l.plus m).ok := (L5.carry_fine (L5.add_lim hl hm)).ok
theorem L5.add_val (l m : L5) : (l.add m).val = l.val + m.val := by
  simp only [L5.val, L5.add]; unfold val5; omega
theorem L5.plus_mod (l m : L5) : (l.plus m).val % pp = (l.val + m.val) % pp := by
  unfold L5.plus; rw [L5.carry_mod, L5.add_val]

/-- Twice the modulus is added, and the other one, carried, is taken away. -/
def L5.take (l m : L5) : L5 := ⟨l.a + (4503599627370458 - m.a), l.b + (4503599627370494 - m.b), l.c + (4503599627370494 - m.c), l.d + (4503599627370494 - m.d), l.e + (4503599627370494 - m.e)⟩
def L5.minus (l m : L5) : L5 := (l.take m.carry).carry
theorem L5.take_lim {l m : L5} (hl : l.ok) : (l.take m).lim 9223372036854775808 := by
  unfold L5.ok L5.lim at *; simp only [L5.take]; omega
theorem L5.minus_ok {l m : L5} (hl : l.ok) : (l.minus m).ok := (L5.carry_fine (L5.take_lim hl)).ok
theorem L5.take_val {l m : L5} (hm : m.fine) : (l.take m).val + m.val = l.val + 2 * pp := by
  unfold L5.fine at hm
  simp only [L5.val, L5.take]; unfold val5 pp; omega
theorem L5.minus_mod (l m : L5) (hm : m.ok) : ((l.minus m).val + m.val) % pp = l.val % pp := by
  have h1 : (l.minus m).val % pp = (l.take m.carry).val % pp := L5.carry_mod _
  have h2 := L5.take_val (l := l) (L5.carry_fine hm.lim63)
  have h3 := m.carry_mod
  rw [Nat.add_mod, h1, ← h3, ← Nat.add_mod, h2, Nat.mul_comm, Nat.add_mul_mod_self_left]

/-- What least comes to. -/
theorem least_nums {l : L5} (hl : l.ok) : ∃ a b c d e, l.carry.carry = ⟨a, b, c, d, e⟩ ∧ a < 2251799813685248 ∧ b < 2251799813685248 ∧ c < 2251799813685248 ∧ d < 2251799813685248 ∧ e < 2251799813685248 := by
  have h1 := L5.carry_fine hl.lim63
  generalize l.carry = m at *
  refine ⟨_, _, _, _, _, rfl, ?_⟩
  obtain ⟨a, b, c, d, e⟩ := m
  simp only [L5.fine] at h1
  simp only [cy5, cy4, cy3, cy2]
  omega
end Go.Cab

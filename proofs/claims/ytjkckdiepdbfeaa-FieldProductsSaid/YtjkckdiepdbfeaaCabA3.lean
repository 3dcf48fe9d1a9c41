/- Field: sums, differences and products as numbers. -/
import Derived.Test.YtjkckdiepdbfeaaCabA2
import Derived.Test.YtjkckdiepdbfeaaCabN2
set_option linter.unusedSimpArgs false
set_option linter.unusedVariables false
set_option linter.unusedSectionVars false
namespace Go.Cab
/-- The element of a key. -/
def fr (k : Nat) : L5 := L5.of (k % 2 ^ 255)
theorem fr_ok (k : Nat) : (fr k).ok := from_ok k
theorem fr_val (k : Nat) : (fr k).val = k % 2 ^ 255 := from_val k
theorem frs_ok (ks : List Nat) : ∀ m ∈ ks.map fr, m.ok := by
  intro m hm
  obtain ⟨k, _, rfl⟩ := List.mem_map.1 hm
  exact fr_ok k
def wT (w k : Nat) : Nat := (w % 2 ^ 255) * (k % 2 ^ 255) % pp
theorem small_pp {c : Nat} (h : c < pp) : c % 2 ^ 255 = c := Nat.mod_eq_of_lt (Nat.lt_trans h (by decide))
theorem wT_fold_lt : ∀ (ks : List Nat) {c : Nat}, c < pp → ks.foldl wT c < pp
  | [], _, h => h
  | _ :: ks, _, _ => wT_fold_lt ks (pp_lt _)
theorem prods : ∀ (ks : List Nat) {x : L5} {c : Nat}, c < pp → E x.val c → E ((ks.map fr).foldl L5.tim x).val (ks.foldl wT c)
  | [], _, _, _, h => h
  | k :: ks, x, c, hc, h => prods ks (pp_lt _) ((E_tim _ _).trans (by
      rw [fr_val]
      refine (h.mul (E.rfl' _)).trans ?_
      unfold wT
      rw [small_pp hc]
      exact (E.mod _).symm))
theorem E.small {a b : Nat} (h : E a b) (hb : b < pp) : a % pp = b := by
  unfold E at h; rw [h, Nat.mod_eq_of_lt hb]
theorem pp_256 {c : Nat} (h : c < pp) : c < 2 ^ 256 := Nat.lt_trans h (by decide)
theorem eqkk {c : Nat} (h : c < pp) : EqAV Go.Proofs.Try.prog 23 (keyAV c) (keyAV c) true := by
  have := eqk (pp_256 h) (pp_256 h)
  rwa [decide_eq_true rfl] at this

theorem rminus_P (m n : Nat) : PCall Go.Proofs.Try.prog 20 [keyAV m, keyAV n] (.val (keyAV (subN m n))) := rminus_call fc110_eq fc78_eq fc81_eq fc76_eq fc75_eq fc77_eq fc82_eq fc34_eq fc35_eq m n
def wP (w k : Nat) : Nat := (w % 2 ^ 255 + k % 2 ^ 255) % pp
theorem wP_fold_lt : ∀ (ks : List Nat) {c : Nat}, c < pp → ks.foldl wP c < pp
  | [], _, h => h
  | _ :: ks, _, _ => wP_fold_lt ks (pp_lt _)
theorem subN_lt (m n : Nat) : subN m n < pp := pp_lt _
theorem subN_fold_lt : ∀ (ks : List Nat) {c : Nat}, c < pp → ks.foldl subN c < pp
  | [], _, h => h
  | _ :: ks, _, _ => subN_fold_lt ks (pp_lt _)
theorem wP_E {w : Nat} (h : w < pp) (k : Nat) : E (wP w k) (w + k % 2 ^ 255) := by
  unfold wP; rw [small_pp h]; exact E.mod _
theorem subN_E {w : Nat} (h : w < pp) (k : Nat) : E (subN w k + k % 2 ^ 255) w := by
  have := subN_mod w k
  rw [small_pp h] at this
  exact this
theorem sums : ∀ (ks : List Nat) {x : L5} {c : Nat}, c < pp → E x.val c → E ((ks.map fr).foldl L5.plus x).val (ks.foldl wP c)
  | [], _, _, _, h => h
  | k :: ks, x, c, hc, h => sums ks (pp_lt _) ((E_plus _ _).trans (by
      rw [fr_val]
      exact (h.add (E.rfl' _)).trans (wP_E hc k).symm))
theorem minus_step {y : L5} {c : Nat} (hc : c < pp) (h : E y.val c) (k : Nat) : E (y.minus (fr k)).val (subN c k) := by
  have h1 := E_minus y (fr k) (fr_ok k)
  rw [fr_val] at h1
  exact ((h1.trans h).trans (subN_E hc k).symm).cancel
def mi (y : L5) (k : Nat) : L5 := y.minus (fr k)
theorem mi_ok : ∀ (ks : List Nat) {y : L5}, y.ok → (ks.foldl mi y).ok
  | [], _, h => h
  | _ :: ks, _, h => mi_ok ks (L5.minus_ok h)
theorem diffs : ∀ (ks : List Nat) {y : L5} {c : Nat}, c < pp → E y.val c → E (ks.foldl mi y).val (ks.foldl subN c)
  | [], _, _, _, h => h
  | k :: ks, _, _, hc, h => diffs ks (pp_lt _) (minus_step hc h k)

/-- Nothing at all stands for an empty list. -/
theorem PCall.nilArg {P : Program} {f : FuncId} {v : AV} {e : Nat} {r : Res} (h : PCall P f [v, .sl e []] r) : PCall P f [v, .lit (.slice none 0 0)] r := by
  intro w St Vs hth hargs
  refine h w St Vs hth ?_
  match Vs, hargs with
  | [V1, V2], ⟨h1, h2, h3⟩ =>
    refine ⟨h1, ?_, h3⟩
    have := (h2.lit).1
    subst this
    exact .inr ⟨_, .slnil e, rfl⟩

/-- A list's elements. -/
def elsF (ks : List Nat) : List AV := ks.map fun k => (fr k).av
theorem elsF_map (ks : List Nat) : (ks.map fr).map L5.av = elsF ks := by rw [List.map_map]; rfl

end Go.Cab

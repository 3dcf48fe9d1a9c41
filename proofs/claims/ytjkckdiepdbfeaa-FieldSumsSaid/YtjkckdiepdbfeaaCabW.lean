/- Part twenty-one: lists that grow, and loops over them. -/
import Derived.Test.YtjkckdiepdbfeaaCabV
set_option linter.unusedSimpArgs false
set_option linter.unusedVariables false
set_option linter.unusedSectionVars false
namespace Go.Cab
open Go.RowKit
open Classical

section
variable {P : Program} {s s' : AS} {K : AS → Prop} {Q : AX → AS → Prop} {xs : List AOp}

theorem areg_ap {d : Tmp} {e : TypeId} {esz bytes : Nat} {x y : Operand} {fo : List Tmp} {ow : Option Tmp} {b : Nat} {V : Value} {els ys : List AV} {sl : Nat} (hx : s.ev x = .own b V) (hb : s.blk b = some (.row e V esz els sl))
    (hy : s.coe (AOp.ro ⟨some d, none, .append e esz bytes x y, fo, ow⟩ s.nr) (s.ev y) = .sl esz ys) (h1 : els.length + ys.length ≤ maxLen) (h2 : (els.length + ys.length) * bytes ≤ 140737488355328)
    (h : ∀ V', AReg P xs ⟨s.nr, s.tm.set d (.own (s.nr + d) V'), (s.hp.set b none).set (s.nr + d) (some (.row e V' esz (els ++ ys) sl))⟩ K) : AReg P (⟨some d, none, .append e esz bytes x y, fo, ow⟩ :: xs) s K := by
  unfold AReg AOp.go AOp.mine
  simp only [AI.go, hx, AS.rowOf, hb, hy, if_true, and_self]
  exact ⟨trivial, trivial, h1, h2, h⟩

theorem areg_mk {d : Tmp} {e : TypeId} {esz bytes : Nat} {z : AV} {x y : Operand} {fo : List Tmp} {ow : Option Tmp} {n : Nat} (hx : s.ev x = .lit (jn n)) (hy : s.ev y = .lit (jn n)) (h1 : n ≤ maxLen) (h2 : bytes * n ≤ 140737488355328)
    (h : ∀ V, AReg P xs ⟨s.nr, s.tm.set d (.own (s.nr + d) V), s.hp.set (s.nr + d) (some (.row e V esz (List.replicate n z) 0))⟩ K) : AReg P (⟨some d, none, .mkslice e esz bytes z x y, fo, ow⟩ :: xs) s K := by
  unfold AReg AOp.go AOp.mine
  simp only [AI.go, hx, hy, jn, Int.toNat_natCast]
  exact ⟨trivial, by omega, by omega, h1, by rw [← Int.natCast_mul]; omega, h⟩

/-- A loop with a counter, over states that hang on a value too. -/
theorem wp_loop_v {c : AC} (n : Nat) (S : Nat → Value → AS) (h0 : ∃ V, Le s (S 0 V)) (hstep : ∀ i V, i < n → c.wp P (S i V) fun x s' => match x with | .normal => ∃ V', Le s' (S (i + 1) V') | x => Q x s')
    (hlast : ∀ V, c.wp P (S n V) fun x s' => match x with | .normal => False | x => Q x s') : (AC.loop c).wp P s Q := by
  obtain ⟨V0, h0⟩ := h0
  refine ⟨fun m t => ∃ i V, i + m = n ∧ t = S i V, n, ⟨S 0 V0, h0, 0, V0, by omega, rfl⟩, ?_⟩
  rintro m t ⟨i, V, him, rfl⟩
  rcases Nat.lt_or_ge i n with hlt | hge
  · refine AC.mono c (fun x s g => ?_) (hstep i V hlt)
    cases x with
    | normal => obtain ⟨V', g⟩ := g; exact ⟨m - 1, by omega, S (i + 1) V', g, i + 1, V', by omega, rfl⟩
    | exit id => exact g
    | ret => exact g
  · have : i = n := by omega
    subst this
    exact AC.mono c (fun x s g => by cases x <;> first | exact g.elim | exact g) (hlast V)

/-- A loop with a counter, which may be left in any round. -/
theorem wp_loop_ret {c : AC} (n : Nat) (S : Nat → AS) (Inv : Nat → Prop) (h0 : Le s (S 0)) (hI : Inv 0) (hstep : ∀ i, i ≤ n → Inv i → c.wp P (S i) fun x s' => match x with | .normal => i < n ∧ Inv (i + 1) ∧ Le s' (S (i + 1)) | x => Q x s') : (AC.loop c).wp P s Q := by
  refine ⟨fun m t => ∃ i, i + m = n ∧ Inv i ∧ t = S i, n, ⟨S 0, h0, 0, by omega, hI, rfl⟩, ?_⟩
  rintro m t ⟨i, him, hIi, rfl⟩
  refine AC.mono c (fun x s g => ?_) (hstep i (by omega) hIi)
  cases x with
  | normal => obtain ⟨g1, g2, g3⟩ := g; exact ⟨m - 1, by omega, S (i + 1), g3, i + 1, by omega, g2, rfl⟩
  | exit id => exact g
  | ret => exact g

/-- .. over states that hang on a value too. -/
theorem wp_loop_retv {c : AC} (n : Nat) (S : Nat → Value → AS) (Inv : Nat → Prop) (h0 : ∃ V, Le s (S 0 V)) (hI : Inv 0) (hstep : ∀ i V, i ≤ n → Inv i → c.wp P (S i V) fun x s' => match x with | .normal => i < n ∧ Inv (i + 1) ∧ ∃ V', Le s' (S (i + 1) V') | x => Q x s') : (AC.loop c).wp P s Q := by
  obtain ⟨V0, h0⟩ := h0
  refine ⟨fun m t => ∃ i V, i + m = n ∧ Inv i ∧ t = S i V, n, ⟨S 0 V0, h0, 0, V0, by omega, hI, rfl⟩, ?_⟩
  rintro m t ⟨i, V, him, hIi, rfl⟩
  refine AC.mono c (fun x s g => ?_) (hstep i V (by omega) hIi)
  cases x with
  | normal => obtain ⟨g1, g2, V', g3⟩ := g; exact ⟨m - 1, by omega, S (i + 1) V', g3, i + 1, V', by omega, g2, rfl⟩
  | exit id => exact g
  | ret => exact g

/-- A list of the call's own, sealed, is a list. -/
theorem Le.unown {t b : Nat} {e : TypeId} {V : Value} {esz : Nat} {els : List AV} (ht : s.tm[t]? = some (.own b V)) (hb : s.blk b = some (.row e V esz els els.length)) : Le s { s with tm := s.tm.set t (.sl esz els) } := fun w0 regs St a w h => by
  obtain ⟨Imm, h1, h2, h3, hseal⟩ := h.seals
  refine ⟨h.defers, by simpa using h.tsize, h.frame, Imm, h1, fun t' v hv => ?_, h3⟩
  simp only [List.getElem?_set] at hv
  by_cases e1 : t = t'
  · subst e1
    simp only [if_true] at hv
    split at hv
    · cases hv
      have := coe_sound (ro := tt) h3 hseal (h2 t _ ht)
      simpa [AS.coe, tt, hb] using this
    · cases hv
  · rw [if_neg e1] at hv; exact h2 t' v hv

/-- A loop with a measure. -/
theorem wp_loop_m {X : Type} {c : AC} (S : X → AS) (μ : X → Nat) (Inv : X → Prop) (x0 : X) (h0 : Le s (S x0)) (hI : Inv x0)
    (hstep : ∀ x, Inv x → c.wp P (S x) fun ex s' => match ex with | .normal => ∃ y, Inv y ∧ μ y < μ x ∧ Le s' (S y) | ex => Q ex s') : (AC.loop c).wp P s Q := by
  refine ⟨fun m t => ∃ x, μ x = m ∧ Inv x ∧ t = S x, μ x0, ⟨S x0, h0, x0, rfl, hI, rfl⟩, ?_⟩
  rintro m t ⟨x, rfl, hx, rfl⟩
  refine AC.mono c (fun ex s g => ?_) (hstep x hx)
  cases ex with
  | normal => obtain ⟨y, g1, g2, g3⟩ := g; exact ⟨μ y, g2, S y, g3, y, rfl, g1, rfl⟩
  | exit id => exact g
  | ret => exact g

/-- The digits as values. -/
def dl (l : List Nat) : List AV := l.map fun n => .lit (un n)
theorem dl_len (l : List Nat) : (dl l).length = l.length := by simp [dl]
theorem dl_get {l : List Nat} {i : Nat} : (dl l)[i]? = (l[i]?).map fun n => .lit (un n) := by simp [dl]
theorem dl_app (l m : List Nat) : dl l ++ dl m = dl (l ++ m) := by simp [dl]
theorem dl_set (l : List Nat) (i n : Nat) : (dl l).set i (.lit (un n)) = dl (l.set i n) := by simp [dl, List.map_set]
theorem dl_one (n : Nat) : [AV.lit (un n)] = dl [n] := rfl

end
end Go.Cab

/- Part 8 of what the proof stands on: H1, H2. -/
import Derived.Test.YtbioecfkifbkbaaGreatDoorCab07
set_option linter.unusedSimpArgs false
set_option linter.unnecessarySimpa false
set_option linter.unusedVariables false
set_option linter.unusedSectionVars false
namespace Go.Cab
open Classical
def fb523 : AC := (.seq (.reg [⟨some 2, none, .mov (.const (.bool false)), [], none⟩]) (.seq (.reg [⟨some 3, none, .mov (.tmp 0), [], none⟩, ⟨some 4, none, .bin .geq (.tmp 3) (.const (jn 0)), [], none⟩, ⟨some 5, none, .mov (.tmp 4), [], none⟩, ⟨some 6, some (5, true), .mov (.tmp 0), [], none⟩, ⟨some 7, some (5, true), .bin .lss (.tmp 6) (.const (jn 8)), [], none⟩, ⟨some 8, none, .pick (.tmp 5) (.tmp 7) (.const (.bool false)), [], none⟩, ⟨some 2, none, .mov (.tmp 8), [], none⟩]) .ret))
def fc523 : FC := ⟨1, 9, [(.tmp 2)], fb523⟩
theorem fc523_eq : compF Go.Proofs.Tryz.prog 62 = some fc523 := by kernel_rfl
def fb524 : AC := (.seq (.reg [⟨some 2, none, .box 32 (.tmp 0), [], none⟩, ⟨some 3, none, .box 32 (.tmp 1), [], none⟩, ⟨some 4, none, .mov (.const (jn 0)), [], none⟩]) (.seq (.reg [⟨some 5, none, .rdp (.vslice 1 32 false false) [.tmp 2], [], none⟩, ⟨some 6, none, .rdp (.vslice 1 32 false false) [.tmp 3], [], none⟩, ⟨some 7, none, .xc (.dir 49) [.tmp 5, .tmp 6] [] [], [], none⟩, ⟨some 4, none, .mov (.tmp 7), [], none⟩]) .ret))
def fc524 : FC := ⟨2, 8, [(.tmp 4)], fb524⟩
theorem fc524_eq : compF Go.Proofs.Tryz.prog 63 = some fc524 := by kernel_rfl
def fb529 : AC := (.seq (.reg [⟨some 4, none, .mov (.const (jn 0)), [], none⟩]) (.seq (.block 0 (.seq (.reg [⟨some 6, none, .mov (.tmp 0), [], none⟩, ⟨some 7, none, .mov (.tmp 1), [], none⟩, ⟨some 8, none, .bin .lss (.tmp 6) (.tmp 7), [], none⟩, ⟨some 5, none, .mov (.tmp 8), [], none⟩]) (.cond (.tmp 5) (.seq (.reg [⟨some 4, none, .mov (.const (.int .i64 (-1))), [], none⟩]) .ret) (.seq (.reg [⟨some 10, none, .mov (.tmp 0), [], none⟩, ⟨some 11, none, .mov (.tmp 1), [], none⟩, ⟨some 12, none, .bin .gtr (.tmp 10) (.tmp 11), [], none⟩, ⟨some 9, none, .mov (.tmp 12), [], none⟩]) (.cond (.tmp 9) (.seq (.reg [⟨some 4, none, .mov (.const (jn 1)), [], none⟩]) .ret) .skip))))) (.seq (.reg [⟨some 4, none, .mov (.const (jn 0)), [], none⟩]) .ret)))
def fc529 : FC := ⟨2, 13, [(.tmp 4)], fb529⟩
theorem fc529_eq : compF Go.Proofs.Tryz.prog 78 = some fc529 := by kernel_rfl
def fb525 : AC := (.seq (.reg [⟨some 1, none, .box 2 (.tmp 0), [], none⟩, ⟨some 2, none, .mov (.const (.bool false)), [], none⟩]) (.seq (.seq (.reg [⟨some 3, none, .mov (.const (jn 1)), [], none⟩]) (.block 0 (.loop (.seq (.seq (.reg [⟨some 4, none, .mov (.tmp 3), [], none⟩, ⟨some 5, none, .faddr 0 0 (.tmp 1), [], none⟩, ⟨some 6, none, .load false 1 (.tmp 5), [], none⟩, ⟨some 7, none, .len false (.tmp 6), [], none⟩, ⟨some 8, none, .bin .lss (.tmp 4) (.tmp 7), [], none⟩]) (.cond (.tmp 8) .skip (.exit 0))) (.seq (.block 1 (.seq (.reg [⟨some 11, none, .faddr 1 1 (.tmp 1), [], none⟩, ⟨some 12, none, .load false 1 (.tmp 11), [], none⟩, ⟨some 13, none, .faddr 0 0 (.tmp 1), [], none⟩, ⟨some 14, none, .load false 1 (.tmp 13), [], (.some 1)⟩, ⟨some 15, none, .mov (.tmp 3), [], none⟩, ⟨some 16, none, .bin .sub (.tmp 15) (.const (jn 1)), [], none⟩, ⟨some 17, none, .iaddrS 32 (.tmp 14) (.tmp 16), [], (.some 1000000)⟩, ⟨some 18, none, .load true 32 (.tmp 17), [], none⟩, ⟨some 19, none, .faddr 0 0 (.tmp 1), [], none⟩, ⟨some 20, none, .load false 1 (.tmp 19), [], (.some 1)⟩, ⟨some 21, none, .mov (.tmp 3), [], none⟩, ⟨some 22, none, .iaddrS 32 (.tmp 20) (.tmp 21), [], (.some 1000000)⟩, ⟨some 23, none, .load true 32 (.tmp 22), [], none⟩, ⟨some 24, none, .xc .val [.tmp 12, .tmp 18, .tmp 23] [] [], [], none⟩, ⟨some 25, none, .bin .geq (.tmp 24) (.const (jn 0)), [], none⟩]) (.cond (.tmp 25) (.seq (.reg [⟨some 2, none, .mov (.const (.bool false)), [], none⟩]) .ret) .skip))) (.reg [⟨some 9, none, .mov (.tmp 3), [], none⟩, ⟨some 10, none, .bin .add (.tmp 9) (.const (jn 1)), [], none⟩, ⟨some 3, none, .mov (.tmp 10), [], none⟩])))))) (.seq (.reg [⟨some 2, none, .mov (.const (.bool true)), [], none⟩]) .ret)))
def fc525 : FC := ⟨1, 26, [(.tmp 2)], fb525⟩
theorem fc525_eq : compF Go.Proofs.Tryz.prog 64 = some fc525 := by kernel_rfl
def fb530 : AC := (.seq (.reg [⟨some 1, none, .box 2 (.tmp 0), [], none⟩, ⟨some 2, none, .mov (.const (.bool false)), [], none⟩]) (.seq (.seq (.reg [⟨some 3, none, .mov (.const (jn 1)), [], none⟩]) (.block 0 (.loop (.seq (.seq (.reg [⟨some 4, none, .mov (.tmp 3), [], none⟩, ⟨some 5, none, .faddr 0 0 (.tmp 1), [], none⟩, ⟨some 6, none, .load false 1 (.tmp 5), [], none⟩, ⟨some 7, none, .len false (.tmp 6), [], none⟩, ⟨some 8, none, .bin .lss (.tmp 4) (.tmp 7), [], none⟩]) (.cond (.tmp 8) .skip (.exit 0))) (.seq (.block 1 (.seq (.reg [⟨some 11, none, .faddr 1 1 (.tmp 1), [], none⟩, ⟨some 12, none, .load false 1 (.tmp 11), [], none⟩, ⟨some 13, none, .faddr 0 0 (.tmp 1), [], none⟩, ⟨some 14, none, .load false 1 (.tmp 13), [], (.some 1)⟩, ⟨some 15, none, .mov (.tmp 3), [], none⟩, ⟨some 16, none, .bin .sub (.tmp 15) (.const (jn 1)), [], none⟩, ⟨some 17, none, .iaddrS 1 (.tmp 14) (.tmp 16), [], (.some 1000000)⟩, ⟨some 18, none, .load false 1 (.tmp 17), [], none⟩, ⟨some 19, none, .faddr 0 0 (.tmp 1), [], none⟩, ⟨some 20, none, .load false 1 (.tmp 19), [], (.some 1)⟩, ⟨some 21, none, .mov (.tmp 3), [], none⟩, ⟨some 22, none, .iaddrS 1 (.tmp 20) (.tmp 21), [], (.some 1000000)⟩, ⟨some 23, none, .load false 1 (.tmp 22), [], none⟩, ⟨some 24, none, .xc .val [.tmp 12, .tmp 18, .tmp 23] [] [], [], none⟩, ⟨some 25, none, .bin .geq (.tmp 24) (.const (jn 0)), [], none⟩]) (.cond (.tmp 25) (.seq (.reg [⟨some 2, none, .mov (.const (.bool false)), [], none⟩]) .ret) .skip))) (.reg [⟨some 9, none, .mov (.tmp 3), [], none⟩, ⟨some 10, none, .bin .add (.tmp 9) (.const (jn 1)), [], none⟩, ⟨some 3, none, .mov (.tmp 10), [], none⟩])))))) (.seq (.reg [⟨some 2, none, .mov (.const (.bool true)), [], none⟩]) .ret)))
def fc530 : FC := ⟨1, 26, [(.tmp 2)], fb530⟩
theorem fc530_eq : compF Go.Proofs.Tryz.prog 79 = some fc530 := by kernel_rfl
def fb535 : AC := (.seq (.reg [⟨some 1, none, .box 2 (.tmp 0), [], none⟩, ⟨some 2, none, .mov (.const (.bool false)), [], none⟩]) (.seq (.seq (.reg [⟨some 3, none, .mov (.const (jn 1)), [], none⟩]) (.block 0 (.loop (.seq (.seq (.reg [⟨some 4, none, .mov (.tmp 3), [], none⟩, ⟨some 5, none, .faddr 0 0 (.tmp 1), [], none⟩, ⟨some 6, none, .load false 1 (.tmp 5), [], none⟩, ⟨some 7, none, .len false (.tmp 6), [], none⟩, ⟨some 8, none, .bin .lss (.tmp 4) (.tmp 7), [], none⟩]) (.cond (.tmp 8) .skip (.exit 0))) (.seq (.block 1 (.seq (.reg [⟨some 11, none, .faddr 1 1 (.tmp 1), [], none⟩, ⟨some 12, none, .load false 1 (.tmp 11), [], none⟩, ⟨some 13, none, .faddr 0 0 (.tmp 1), [], none⟩, ⟨some 14, none, .load false 1 (.tmp 13), [], (.some 1)⟩, ⟨some 15, none, .mov (.tmp 3), [], none⟩, ⟨some 16, none, .bin .sub (.tmp 15) (.const (jn 1)), [], none⟩, ⟨some 17, none, .iaddrS 36 (.tmp 14) (.tmp 16), [], (.some 1000000)⟩, ⟨some 18, none, .load true 36 (.tmp 17), [], none⟩, ⟨some 19, none, .faddr 0 0 (.tmp 1), [], none⟩, ⟨some 20, none, .load false 1 (.tmp 19), [], (.some 1)⟩, ⟨some 21, none, .mov (.tmp 3), [], none⟩, ⟨some 22, none, .iaddrS 36 (.tmp 20) (.tmp 21), [], (.some 1000000)⟩, ⟨some 23, none, .load true 36 (.tmp 22), [], none⟩, ⟨some 24, none, .xc .val [.tmp 12, .tmp 18, .tmp 23] [] [], [], none⟩, ⟨some 25, none, .bin .geq (.tmp 24) (.const (jn 0)), [], none⟩]) (.cond (.tmp 25) (.seq (.reg [⟨some 2, none, .mov (.const (.bool false)), [], none⟩]) .ret) .skip))) (.reg [⟨some 9, none, .mov (.tmp 3), [], none⟩, ⟨some 10, none, .bin .add (.tmp 9) (.const (jn 1)), [], none⟩, ⟨some 3, none, .mov (.tmp 10), [], none⟩])))))) (.seq (.reg [⟨some 2, none, .mov (.const (.bool true)), [], none⟩]) .ret)))
def fc535 : FC := ⟨1, 26, [(.tmp 2)], fb535⟩
theorem fc535_eq : compF Go.Proofs.Tryz.prog 84 = some fc535 := by kernel_rfl
def fb531 : AC := (.seq (.reg [⟨some 4, none, .mov (.const (.bool false)), [], none⟩]) (.seq (.reg [⟨some 5, none, .mov (.tmp 0), [], none⟩, ⟨some 6, none, .mov (.tmp 1), [], none⟩, ⟨some 7, none, .xc (.dir 95) [.tmp 5, .tmp 6] [] [], [], none⟩, ⟨some 8, none, .bin .geq (.tmp 7) (.const (jn 0)), [], none⟩, ⟨some 4, none, .mov (.tmp 8), [], none⟩]) .ret))
def fc531 : FC := ⟨2, 9, [(.tmp 4)], fb531⟩
theorem fc531_eq : compF Go.Proofs.Tryz.prog 80 = some fc531 := by kernel_rfl
def fb539 : AC := (.seq (.reg [⟨some 4, none, .mov (.const (jn 0)), [], none⟩]) (.seq (.seq (.reg [⟨some 6, none, .mov (.tmp 0), [], none⟩, ⟨some 7, none, .len false (.tmp 6), [], none⟩, ⟨some 8, none, .mov (.const (jn 0)), [], none⟩]) (.block 0 (.loop (.seq (.reg [⟨some 9, none, .bin .lss (.tmp 8) (.tmp 7), [], none⟩]) (.seq (.cond (.tmp 9) .skip (.exit 0)) (.seq (.block 1 (.seq (.reg [⟨some 10, none, .mov (.tmp 8), [], none⟩, ⟨some 5, none, .mov (.tmp 10), [], none⟩]) (.seq (.reg [⟨some 11, none, .mov (.tmp 1), [], none⟩, ⟨some 12, none, .mov (.tmp 0), [], none⟩, ⟨some 13, none, .mov (.tmp 5), [], none⟩, ⟨some 14, none, .iaddrS 1 (.tmp 12) (.tmp 13), [], none⟩, ⟨some 15, none, .load false 1 (.tmp 14), [], none⟩, ⟨some 16, none, .xc .val [.tmp 11, .tmp 15] [] [], [], none⟩]) (.cond (.tmp 16) (.seq (.reg [⟨some 17, none, .mov (.tmp 5), [], none⟩, ⟨some 4, none, .mov (.tmp 17), [], none⟩]) .ret) .skip)))) (.reg [⟨some 18, none, .bin .add (.tmp 8) (.const (jn 1)), [], none⟩, ⟨some 8, none, .mov (.tmp 18), [], none⟩]))))))) (.seq (.reg [⟨some 4, none, .mov (.const (.int .i64 (-1))), [], none⟩]) .ret)))
def fc539 : FC := ⟨2, 19, [(.tmp 4)], fb539⟩
theorem fc539_eq : compF Go.Proofs.Tryz.prog 95 = some fc539 := by kernel_rfl
def fb532 : AC := (.seq (.reg [⟨some 2, none, .mov (.const (.bool false)), [], none⟩]) (.seq (.reg [⟨some 3, none, .mov (.tmp 0), [], none⟩, ⟨some 4, none, .call 62 [.tmp 3], [], none⟩, ⟨some 5, none, .un .not (.tmp 4), [], none⟩, ⟨some 2, none, .mov (.tmp 5), [], none⟩]) .ret))
def fc532 : FC := ⟨1, 6, [(.tmp 2)], fb532⟩
theorem fc532_eq : compF Go.Proofs.Tryz.prog 81 = some fc532 := by kernel_rfl
def fb533 : AC := (.seq (.reg [⟨some 4, none, .mov (.const (.bool false)), [], none⟩]) (.seq (.reg [⟨some 5, none, .mov (.tmp 0), [], none⟩, ⟨some 6, none, .mov (.tmp 1), [], none⟩, ⟨some 7, none, .lcall 96 [.tmp 5, .tmp 6], [], none⟩, ⟨some 8, none, .bin .geq (.tmp 7) (.const (jn 0)), [], none⟩, ⟨some 4, none, .mov (.tmp 8), [], none⟩]) .ret))
def fc533 : FC := ⟨2, 9, [(.tmp 4)], fb533⟩
theorem fc533_eq : compF Go.Proofs.Tryz.prog 82 = some fc533 := by kernel_rfl
def fb540 : AC := (.seq (.reg [⟨some 4, none, .mov (.const (jn 0)), [], none⟩]) (.seq (.seq (.reg [⟨some 6, none, .mov (.tmp 0), [], none⟩, ⟨some 7, none, .len false (.tmp 6), [], none⟩, ⟨some 8, none, .mov (.const (jn 0)), [], none⟩]) (.block 0 (.loop (.seq (.reg [⟨some 9, none, .bin .lss (.tmp 8) (.tmp 7), [], none⟩]) (.seq (.cond (.tmp 9) .skip (.exit 0)) (.seq (.block 1 (.seq (.reg [⟨some 10, none, .mov (.tmp 8), [], none⟩, ⟨some 5, none, .mov (.tmp 10), [], none⟩]) (.seq (.reg [⟨some 11, none, .mov (.tmp 1), [], none⟩, ⟨some 12, none, .mov (.tmp 0), [], none⟩, ⟨some 13, none, .mov (.tmp 5), [], none⟩, ⟨some 14, none, .iaddrS 1 (.tmp 12) (.tmp 13), [], none⟩, ⟨some 15, none, .load false 1 (.tmp 14), [], none⟩, ⟨some 16, none, .bin .eql (.tmp 11) (.tmp 15), [], none⟩]) (.cond (.tmp 16) (.seq (.reg [⟨some 17, none, .mov (.tmp 5), [], none⟩, ⟨some 4, none, .mov (.tmp 17), [], none⟩]) .ret) .skip)))) (.reg [⟨some 18, none, .bin .add (.tmp 8) (.const (jn 1)), [], none⟩, ⟨some 8, none, .mov (.tmp 18), [], none⟩]))))))) (.seq (.reg [⟨some 4, none, .mov (.const (.int .i64 (-1))), [], none⟩]) .ret)))
def fc540 : FC := ⟨2, 19, [(.tmp 4)], fb540⟩
theorem fc540_eq : compF Go.Proofs.Tryz.prog 96 = some fc540 := by kernel_rfl
def fb534 : AC := (.seq (.reg [⟨some 2, none, .box 36 (.tmp 0), [], none⟩, ⟨some 3, none, .box 36 (.tmp 1), [], none⟩, ⟨some 4, none, .mov (.const (jn 0)), [], none⟩]) (.seq (.reg [⟨some 5, none, .faddr 0 0 (.tmp 2), [], none⟩, ⟨some 6, none, .load false 1 (.tmp 5), [], none⟩, ⟨some 7, none, .faddr 0 0 (.tmp 3), [], none⟩, ⟨some 8, none, .load false 1 (.tmp 7), [], none⟩, ⟨some 9, none, .call 78 [.tmp 6, .tmp 8], [], none⟩, ⟨some 4, none, .mov (.tmp 9), [], none⟩]) .ret))
def fc534 : FC := ⟨2, 10, [(.tmp 4)], fb534⟩
theorem fc534_eq : compF Go.Proofs.Tryz.prog 83 = some fc534 := by kernel_rfl
def fb536 : AC := (.seq (.reg [⟨some 4, none, .mov (.const (.bool false)), [], none⟩]) (.seq (.reg [⟨some 5, none, .mov (.tmp 0), [], none⟩, ⟨some 6, none, .mov (.tmp 1), [], none⟩, ⟨some 7, none, .xc (.dir 97) [.tmp 5, .tmp 6] [] [], [], none⟩, ⟨some 8, none, .bin .geq (.tmp 7) (.const (jn 0)), [], none⟩, ⟨some 4, none, .mov (.tmp 8), [], none⟩]) .ret))
def fc536 : FC := ⟨2, 9, [(.tmp 4)], fb536⟩
theorem fc536_eq : compF Go.Proofs.Tryz.prog 85 = some fc536 := by kernel_rfl
def fb541 : AC := (.seq (.reg [⟨some 4, none, .mov (.const (jn 0)), [], none⟩]) (.seq (.seq (.reg [⟨some 6, none, .mov (.tmp 0), [], none⟩, ⟨some 7, none, .len false (.tmp 6), [], none⟩, ⟨some 8, none, .mov (.const (jn 0)), [], none⟩]) (.block 0 (.loop (.seq (.reg [⟨some 9, none, .bin .lss (.tmp 8) (.tmp 7), [], none⟩]) (.seq (.cond (.tmp 9) .skip (.exit 0)) (.seq (.block 1 (.seq (.reg [⟨some 10, none, .mov (.tmp 8), [], none⟩, ⟨some 5, none, .mov (.tmp 10), [], none⟩]) (.seq (.reg [⟨some 11, none, .mov (.tmp 1), [], none⟩, ⟨some 12, none, .mov (.tmp 0), [], none⟩, ⟨some 13, none, .mov (.tmp 5), [], none⟩, ⟨some 14, none, .iaddrS 36 (.tmp 12) (.tmp 13), [], none⟩, ⟨some 15, none, .load true 36 (.tmp 14), [], none⟩, ⟨some 16, none, .xc .val [.tmp 11, .tmp 15] [] [], [], none⟩]) (.cond (.tmp 16) (.seq (.reg [⟨some 17, none, .mov (.tmp 5), [], none⟩, ⟨some 4, none, .mov (.tmp 17), [], none⟩]) .ret) .skip)))) (.reg [⟨some 18, none, .bin .add (.tmp 8) (.const (jn 1)), [], none⟩, ⟨some 8, none, .mov (.tmp 18), [], none⟩]))))))) (.seq (.reg [⟨some 4, none, .mov (.const (.int .i64 (-1))), [], none⟩]) .ret)))
def fc541 : FC := ⟨2, 19, [(.tmp 4)], fb541⟩
theorem fc541_eq : compF Go.Proofs.Tryz.prog 97 = some fc541 := by kernel_rfl
def ji (x : Int) : Value := .int .i64 x
theorem jn_ji (n : Nat) : jn n = ji n := rfl
theorem ji_nat (n : Nat) : ji (n : Int) = jn n := rfl
theorem bin_lssi (a b : Int) : binVal .lss (ji a) (ji b) = some (.bool (decide (a < b))) := by simp [binVal, ji]
theorem bin_gtri' (a b : Int) : binVal .gtr (ji a) (ji b) = some (.bool (decide (b < a))) := by simp [binVal, ji]
theorem bin_eqli (a b : Int) : binVal .eql (ji a) (ji b) = some (.bool (decide (a = b))) := by
  simp only [binVal, ji, ne_eq, not_true_eq_false, if_false, Option.some.injEq, Value.bool.injEq]; rw [Bool.eq_iff_iff]; simp
theorem bin_neqi (a b : Int) : binVal .neq (ji a) (ji b) = some (.bool (decide (a ≠ b))) := by
  simp only [binVal, ji, ne_eq, not_true_eq_false, if_false, Option.some.injEq, Value.bool.injEq]; rw [Bool.eq_iff_iff]; simp
theorem bin_lssij (a : Int) (n : Nat) : binVal .lss (ji a) (jn n) = some (.bool (decide (a < n))) := bin_lssi a n
theorem bin_gtrij (a : Int) (n : Nat) : binVal .gtr (ji a) (jn n) = some (.bool (decide ((n : Int) < a))) := bin_gtri' a n
theorem bin_eqlij (a : Int) (n : Nat) : binVal .eql (ji a) (jn n) = some (.bool (decide (a = n))) := bin_eqli a n
theorem bin_geqij (a : Int) (n : Nat) : binVal .geq (ji a) (jn n) = some (.bool (decide ((n : Int) ≤ a))) := by simp [binVal, ji, jn]
attribute [push_cast] bin_lssi bin_gtri' bin_eqli bin_neqi bin_lssij bin_gtrij bin_eqlij bin_geqij
theorem member_call (a : Int) : PCall Go.Proofs.Tryz.prog 62 [.lit (ji a)] (.val (.lit (.bool (decide (0 ≤ a ∧ a < 8))))) := by
  have h523 := fc523_eq
  refine PCall.of h523 rfl ?_; show AC.wp _ fb523 (AS.init [.lit (ji a)] 1 9) (fun x s => match x with | .exit _ => False | _ => Fin [(.tmp 2)] s _); unfold fb523 AS.init
  by_cases h : 0 ≤ a
  · refine wp_sr (by simp [push_cast]; exact rfl) (wp_sr (by simp [push_cast, h]; exact rfl) (wp_ret' ?_))
    exact fin_tmp (by simp [RVal, AS.ev, AS.coe, h]) (by simp)
  · refine wp_sr (by simp [push_cast]; exact rfl) (wp_sr (by simp [push_cast, h]; exact rfl) (wp_ret' ?_))
    exact fin_tmp (by simp [RVal, AS.ev, AS.coe, h]) (by simp)
theorem notmember_call (a : Int) : PCall Go.Proofs.Tryz.prog 81 [.lit (ji a)] (.val (.lit (.bool (!decide (0 ≤ a ∧ a < 8))))) := by
  have h532 := fc532_eq
  have c := member_call a
  generalize decide (0 ≤ a ∧ a < 8) = b at *
  refine PCall.of h532 rfl ?_; show AC.wp _ fb532 (AS.init [.lit (ji a)] 1 6) (fun x s => match x with | .exit _ => False | _ => Fin [(.tmp 2)] s _); unfold fb532 AS.init
  refine wp_sr (by simp [push_cast]; exact rfl) (wp_sg ?_)
  refine areg_run 1 (by simp [push_cast]; exact rfl) ?_
  refine areg_ca (by simp [AS.ev, AS.coe, AS.put] <;> exact rfl) c ?_
  refine areg_end (by simp [push_cast]; exact rfl) (wp_ret' ?_)
  exact fin_tmp (by simp [RVal, AS.ev, AS.coe]) (by simp)
def cmpN (a b : Int) : Int := if a < b then -1 else if b < a then 1 else 0
theorem byNumber_call (a b : Int) : PCall Go.Proofs.Tryz.prog 78 [.lit (ji a), .lit (ji b)] (.val (.lit (ji (cmpN a b)))) := by
  have h529 := fc529_eq
  unfold cmpN
  refine PCall.of h529 rfl ?_; show AC.wp _ fb529 (AS.init [.lit (ji a), .lit (ji b)] 2 13) (fun x s => match x with | .exit _ => False | _ => Fin [(.tmp 4)] s _); unfold fb529 AS.init
  refine wp_sr (by simp [push_cast]; exact rfl) (wp_seq' (wp_block' ?_))
  by_cases h : a < b
  · refine wp_sr (by simp [push_cast, h]; exact rfl) (wp_cond_t (by simp [AS.ev]) ?_)
    refine wp_sr (by simp [push_cast]; exact rfl) (wp_ret' ?_)
    exact fin_tmp (by simp [RVal, AS.ev, AS.coe, h]; rfl) (by simp)
  · refine wp_sr (by simp [push_cast, h]; exact rfl) (wp_cond_f (by simp [AS.ev]) ?_)
    by_cases h2 : b < a
    · refine wp_sr (by simp [push_cast, h2]; exact rfl) (wp_cond_t (by simp [AS.ev]) ?_)
      refine wp_sr (by simp [push_cast]; exact rfl) (wp_ret' ?_)
      exact fin_tmp (by simp [RVal, AS.ev, AS.coe, h, h2]; rfl) (by simp)
    · refine wp_sr (by simp [push_cast, h2]; exact rfl) (wp_cond_f (by simp [AS.ev]) (wp_skip' ?_))
      refine wp_sr (by simp [push_cast]; exact rfl) (wp_ret' ?_)
      exact fin_tmp (by simp [RVal, AS.ev, AS.coe, h, h2]; rfl) (by simp)
theorem byKey_call {a b : List UInt8} (ha : a.length = 32) (hb : b.length = 32) : PCall Go.Proofs.Tryz.prog 63 [keyA a, keyA b] (.val (.lit (ji (Go.Lib.compareBytes a b)))) := by
  have h524 := fc524_eq
  have hcal : callable Go.Proofs.Tryz.prog 49 = true := by kernel_rfl
  refine PCall.of h524 rfl ?_; show AC.wp _ fb524 (AS.init [keyA a, keyA b] 2 8) (fun x s => match x with | .exit _ => False | _ => Fin [(.tmp 4)] s _); unfold fb524 AS.init
  refine wp_sg (areg_bx rfl (by simp [AS.ev, keyA, AV.sz, bl, ha]) fun l1 => areg_bx rfl (by simp [AS.ev, AS.put, keyA, AV.sz, bl, hb]) fun l2 => areg_end (by simp [push_cast]; exact rfl) ?_)
  refine wp_sg ?_
  refine areg_run 2 (by simp [push_cast]; exact rfl) ?_
  refine areg_xq (us := [.view 2 l1 0 [] 1 0 32 32, .view 3 l2 0 [] 1 0 32 32]) rfl (by simp only [tgtA, tgtB, Option.bind_some, hcal, if_true]) (cmp_call (b1 := 2) (b2 := 3) (l1 := l1) (l2 := l2) (n1 := 32) (n2 := 32) (k1 := a) (k2 := b) rfl rfl ha hb) ⟨_, _, rfl, rfl⟩ (fun r hp' _ t' ht' => by cases ht') ?_
  rintro r H' ⟨rfl, rfl⟩
  refine areg_end (by simp [push_cast]; exact rfl) (wp_ret' ?_)
  exact fin_tmp (by simp [RVal, AS.ev, AS.coe]; rfl) (by simp)
structure BoxV where
  to : Int
  pub : List UInt8
  n : Nat
  prev : Nat
  body : List UInt8
def boxA (b : BoxV) : AV := .st [1, 34, 1] [.lit (ji b.to), .st [32, 1, 1] [keyA b.pub, .lit (wn b.n), .lit (wn b.prev)], .lit (tx b.body)]
structure BoxOk (b : BoxV) : Prop where
  pub : b.pub.length = 32
  n : b.n < 4294967296
  prev : b.prev < 4294967296
theorem boxA_sz {b : BoxV} : (boxA b).sz = 36 := rfl
theorem boxCmp_call (a b : BoxV) : PCall Go.Proofs.Tryz.prog 83 [boxA a, boxA b] (.val (.lit (ji (cmpN a.to b.to)))) := by
  have h534 := fc534_eq
  have c := byNumber_call a.to b.to
  unfold boxA
  generalize a.to = x at *
  generalize b.to = y at *
  refine PCall.of h534 rfl ?_; show AC.wp _ fb534 (AS.init [.st [1, 34, 1] [.lit (ji x), .st [32, 1, 1] [keyA a.pub, .lit (wn a.n), .lit (wn a.prev)], .lit (tx a.body)], .st [1, 34, 1] [.lit (ji y), .st [32, 1, 1] [keyA b.pub, .lit (wn b.n), .lit (wn b.prev)], .lit (tx b.body)]] 2 10) (fun x s => match x with | .exit _ => False | _ => Fin [(.tmp 4)] s _); unfold fb534 AS.init
  refine wp_sg (areg_bx rfl rfl fun l1 => areg_bx rfl rfl fun l2 => areg_end (by simp [push_cast]; exact rfl) ?_)
  refine wp_sg ?_
  refine areg_run 4 (by simp [push_cast]; exact rfl) ?_
  refine areg_ca (by simp [AS.ev, AS.coe, AS.put] <;> exact rfl) c ?_
  refine areg_end (by simp [push_cast]; exact rfl) (wp_ret' ?_)
  exact fin_tmp (by simp [RVal, AS.ev, AS.coe]) (by simp)
def fnL (g : FuncId) : AV := .lit (.func (.func g) #[] #[])
theorem AVle.fn (g : FuncId) : AVle (fnL g) (.fnv (.func g) [] []) := fun Imm w cs h => by
  cases h with
  | lit _ hs => exact .fnv (.func g) [] [] [] [] .tup0 .tup0
theorem RelLe.fn (g : FuncId) : RelLe (fnL g) (.fnv (.func g) [] []) := fun Imm w V h => by
  rcases h with h | ⟨cs, h, e⟩
  · cases h
  · exact .inr ⟨cs, AVle.fn g _ _ _ h, by rw [e]; cases h; rfl⟩
theorem RelLe.rowF (z : Nat) (T : List AV) (g : FuncId) : RelLe (.st [1, 1] [.sl z T, fnL g]) (.st [1, 1] [.sl z T, .fnv (.func g) [] []]) := RelLe.st (AVle.st1 (AVle.refl _) (AVle.st1 (AVle.fn g) AVle.st0))
def risV {α : Type} (cmp : α → α → Int) : List α → Bool
  | a :: b :: r => decide (cmp a b < 0) && risV cmp (b :: r)
  | _ => true
theorem risV_short {α : Type} (cmp : α → α → Int) : ∀ {l : List α}, l.length ≤ 1 → risV cmp l = true
  | [], _ => rfl
  | [_], _ => rfl
  | _ :: _ :: _, h => by simp at h
set_option maxHeartbeats 4000000 in
theorem risN_call {fn : AV} {g : FuncId} {cmp : Int → Int → Int} {l : List (Int)} (htg : ∀ x y, tgtA Go.Proofs.Tryz.prog .val [fn, x, y] = some (g, [x, y])) (hfn : fn = .fnv (.func g) [] [])
    (hc : ∀ a ∈ l, ∀ b ∈ l, PCall Go.Proofs.Tryz.prog g [AV.lit (ji a), AV.lit (ji b)] (.val (.lit (ji (cmp a b))))) (hl : l.length < 100000) : PCall Go.Proofs.Tryz.prog 79 [.st [1, 1] [.sl 1 (l.map fun x => AV.lit (ji x)), fn]] (.val (.lit (.bool (risV cmp l)))) := by
  have h530 := fc530_eq
  have hml : (l.map fun x => AV.lit (ji x)).length = l.length := List.length_map _
  have hget : ∀ i a, l[i]? = some a → (l.map fun x => AV.lit (ji x))[i]? = some (AV.lit (ji a)) := fun i a h => by rw [List.getElem?_map, h]; rfl
  generalize hT : (l.map fun x => AV.lit (ji x)) = T at *
  subst hfn
  refine PCall.of h530 rfl ?_; show AC.wp _ fb530 (AS.init [.st [1, 1] [.sl 1 T, .fnv (.func g) [] []]] 1 26) (fun x s => match x with | .exit _ => False | _ => Fin [(.tmp 2)] s _); unfold fb530 AS.init
  refine wp_sg (areg_bx rfl rfl fun lo => areg_end (by simp [push_cast]; exact rfl) ?_)
  refine wp_seq' (wp_sr (by simp [push_cast]; exact rfl) ?_)
  refine wp_block' (wp_loop_m (fun i : Nat => (⟨0, [.st [1, 1] [.sl 1 T, .fnv (.func g) [] []], .ptr 1 lo 0 [], .lit (.bool false), .lit (jn (i + 1))] ++ List.replicate 22 .any, [none, some (.box lo 2 (.st [1, 1] [.sl 1 T, .fnv (.func g) [] []]))] ++ List.replicate 24 none⟩ : AS)) (fun i => l.length - i) (fun i => risV cmp (l.drop i) = risV cmp l ∧ i ≤ l.length) 0 (Le.mk rfl (by simp [leT]) (by simp [leH])) ⟨rfl, by simp⟩ ?_)
  rintro i ⟨hI, hi⟩
  simp only at hI hi ⊢
  by_cases hlt : i + 1 < l.length
  · obtain ⟨a, ha⟩ : ∃ a, l[i]? = some a := ⟨_, List.getElem?_eq_getElem (by omega)⟩
    obtain ⟨b, hb⟩ : ∃ b, l[i + 1]? = some b := ⟨_, List.getElem?_eq_getElem hlt⟩
    have hd : l.drop i = a :: b :: l.drop (i + 2) := by
      rw [List.drop_eq_getElem_cons (by omega : i < l.length), List.drop_eq_getElem_cons hlt]
      rw [List.getElem?_eq_getElem (by omega : i < l.length)] at ha
      rw [List.getElem?_eq_getElem hlt] at hb
      rw [Option.some.inj ha, Option.some.inj hb]
    have hd1 : l.drop (i + 1) = b :: l.drop (i + 2) := by
      rw [List.drop_eq_getElem_cons hlt]
      rw [List.getElem?_eq_getElem hlt] at hb
      rw [Option.some.inj hb]
    rw [hd, risV, ← hd1] at hI
    have c := hc a (List.mem_of_getElem? ha) b (List.mem_of_getElem? hb)
    have ga := hget i a ha
    have gb := hget (i + 1) b hb
    have ga' : ∀ h, T[i]'h = AV.lit (ji a) := fun h => by rw [List.getElem?_eq_getElem h] at ga; exact Option.some.inj ga
    have gb' : ∀ h, T[i + 1]'h = AV.lit (ji b) := fun h => by rw [List.getElem?_eq_getElem h] at gb; exact Option.some.inj gb
    have q1 : i + 1 + 1 < 9223372036854775808 := by omega
    have q2 : i < l.length := by omega
    have q3 : binVal .sub (jn (i + 1)) (jn 1) = some (jn i) := by rw [bin_subj _ _ (by omega) (by omega)]; rfl
    refine wp_seq' (wp_sr (by simp [push_cast, hml, hlt]; exact rfl) ?_)
    refine wp_cond_t (by simp [AS.ev]) (wp_skip' ?_)
    refine wp_seq' (wp_block' (wp_seq' (wp_rg ?_)))
    refine areg_run 13 (by simp [push_cast, hml, hlt, ga, gb, ga', gb', q2, q3]; exact rfl) ?_
    refine areg_xq (us := [.fnv (.func g) [] [], AV.lit (ji a), AV.lit (ji b)]) rfl (htg _ _) (PCall.x _ c) ⟨_, _, rfl, rfl⟩ (fun r hp' _ t' ht' => by cases ht') ?_
    rintro r H' ⟨rfl, rfl⟩
    by_cases hz : cmp a b < 0
    · have hz' : ¬ 0 ≤ cmp a b := by omega
      refine areg_end (by simp [push_cast, hz']; exact rfl) ?_
      refine wp_cond_f (by simp [AS.ev]) (wp_skip' ?_)
      rw [decide_eq_true hz, Bool.true_and] at hI
      refine wp_r (by simp [push_cast, q1]; exact rfl) ?_
      exact Exists.intro (i + 1) ⟨⟨hI, by omega⟩, by omega, Le.mk rfl (by simp [leT]) (by simp [leH])⟩
    · have hz' : 0 ≤ cmp a b := by omega
      rw [decide_eq_false hz, Bool.false_and] at hI
      refine areg_end (by simp [push_cast, hz']; exact rfl) ?_
      refine wp_cond_t (by simp [AS.ev]) ?_
      refine wp_sr (by simp [push_cast]; exact rfl) (wp_ret' ?_)
      rw [← hI]
      exact fin_tmp (by simp [RVal, AS.ev, AS.coe]) (by simp)
  · have hs := risV_short cmp (l := l.drop i) (by rw [List.length_drop]; omega)
    rw [hs] at hI
    refine wp_seq' (wp_sr (by simp [push_cast, hml, hlt]; exact rfl) ?_)
    refine wp_cond_f (by simp [AS.ev]) (wp_exit' (if_hit rfl ?_))
    refine wp_sr (by simp [push_cast]; exact rfl) (wp_ret' ?_)
    rw [← hI]
    exact fin_tmp (by simp [RVal, AS.ev, AS.coe]) (by simp)
set_option maxHeartbeats 4000000 in
theorem risK_call {fn : AV} {g : FuncId} {cmp : List UInt8 → List UInt8 → Int} {l : List (List UInt8)} (htg : ∀ x y, tgtA Go.Proofs.Tryz.prog .val [fn, x, y] = some (g, [x, y])) (hfn : fn = .fnv (.func g) [] [])
    (hc : ∀ a ∈ l, ∀ b ∈ l, PCall Go.Proofs.Tryz.prog g [keyA a, keyA b] (.val (.lit (ji (cmp a b))))) (hl : l.length < 100000) (h32 : ∀ k ∈ l, k.length = 32) : PCall Go.Proofs.Tryz.prog 64 [.st [1, 1] [.sl 32 (l.map fun x => keyA x), fn]] (.val (.lit (.bool (risV cmp l)))) := by
  have h525 := fc525_eq
  have hml : (l.map fun x => keyA x).length = l.length := List.length_map _
  have hget : ∀ i a, l[i]? = some a → (l.map fun x => keyA x)[i]? = some (keyA a) := fun i a h => by rw [List.getElem?_map, h]; rfl
  generalize hT : (l.map fun x => keyA x) = T at *
  subst hfn
  refine PCall.of h525 rfl ?_; show AC.wp _ fb525 (AS.init [.st [1, 1] [.sl 32 T, .fnv (.func g) [] []]] 1 26) (fun x s => match x with | .exit _ => False | _ => Fin [(.tmp 2)] s _); unfold fb525 AS.init
  refine wp_sg (areg_bx rfl rfl fun lo => areg_end (by simp [push_cast]; exact rfl) ?_)
  refine wp_seq' (wp_sr (by simp [push_cast]; exact rfl) ?_)
  refine wp_block' (wp_loop_m (fun i : Nat => (⟨0, [.st [1, 1] [.sl 32 T, .fnv (.func g) [] []], .ptr 1 lo 0 [], .lit (.bool false), .lit (jn (i + 1))] ++ List.replicate 22 .any, [none, some (.box lo 2 (.st [1, 1] [.sl 32 T, .fnv (.func g) [] []]))] ++ List.replicate 24 none⟩ : AS)) (fun i => l.length - i) (fun i => risV cmp (l.drop i) = risV cmp l ∧ i ≤ l.length) 0 (Le.mk rfl (by simp [leT]) (by simp [leH])) ⟨rfl, by simp⟩ ?_)
  rintro i ⟨hI, hi⟩
  simp only at hI hi ⊢
  by_cases hlt : i + 1 < l.length
  · obtain ⟨a, ha⟩ : ∃ a, l[i]? = some a := ⟨_, List.getElem?_eq_getElem (by omega)⟩
    obtain ⟨b, hb⟩ : ∃ b, l[i + 1]? = some b := ⟨_, List.getElem?_eq_getElem hlt⟩
    have hd : l.drop i = a :: b :: l.drop (i + 2) := by
      rw [List.drop_eq_getElem_cons (by omega : i < l.length), List.drop_eq_getElem_cons hlt]
      rw [List.getElem?_eq_getElem (by omega : i < l.length)] at ha
      rw [List.getElem?_eq_getElem hlt] at hb
      rw [Option.some.inj ha, Option.some.inj hb]
    have hd1 : l.drop (i + 1) = b :: l.drop (i + 2) := by
      rw [List.drop_eq_getElem_cons hlt]
      rw [List.getElem?_eq_getElem hlt] at hb
      rw [Option.some.inj hb]
    rw [hd, risV, ← hd1] at hI
    have c := hc a (List.mem_of_getElem? ha) b (List.mem_of_getElem? hb)
    have ga := hget i a ha
    have gb := hget (i + 1) b hb
    have ga' : ∀ h, T[i]'h = keyA a := fun h => by rw [List.getElem?_eq_getElem h] at ga; exact Option.some.inj ga
    have gb' : ∀ h, T[i + 1]'h = keyA b := fun h => by rw [List.getElem?_eq_getElem h] at gb; exact Option.some.inj gb
    have q1 : i + 1 + 1 < 9223372036854775808 := by omega
    have q2 : i < l.length := by omega
    have q3 : binVal .sub (jn (i + 1)) (jn 1) = some (jn i) := by rw [bin_subj _ _ (by omega) (by omega)]; rfl
    have a32 := h32 a (List.mem_of_getElem? ha)
    have b32 := h32 b (List.mem_of_getElem? hb)
    refine wp_seq' (wp_sr (by simp [push_cast, hml, hlt]; exact rfl) ?_)
    refine wp_cond_t (by simp [AS.ev]) (wp_skip' ?_)
    refine wp_seq' (wp_block' (wp_seq' (wp_rg ?_)))
    refine areg_run 13 (by simp [push_cast, hml, hlt, ga, gb, ga', gb', q2, q3, a32, b32]; exact rfl) ?_
    refine areg_xq (us := [.fnv (.func g) [] [], keyA a, keyA b]) rfl (htg _ _) (PCall.x _ c) ⟨_, _, rfl, rfl⟩ (fun r hp' _ t' ht' => by cases ht') ?_
    rintro r H' ⟨rfl, rfl⟩
    by_cases hz : cmp a b < 0
    · have hz' : ¬ 0 ≤ cmp a b := by omega
      refine areg_end (by simp [push_cast, hz']; exact rfl) ?_
      refine wp_cond_f (by simp [AS.ev]) (wp_skip' ?_)
      rw [decide_eq_true hz, Bool.true_and] at hI
      refine wp_r (by simp [push_cast, q1]; exact rfl) ?_
      exact Exists.intro (i + 1) ⟨⟨hI, by omega⟩, by omega, Le.mk rfl (by simp [leT]) (by simp [leH])⟩
    · have hz' : 0 ≤ cmp a b := by omega
      rw [decide_eq_false hz, Bool.false_and] at hI
      refine areg_end (by simp [push_cast, hz']; exact rfl) ?_
      refine wp_cond_t (by simp [AS.ev]) ?_
      refine wp_sr (by simp [push_cast]; exact rfl) (wp_ret' ?_)
      rw [← hI]
      exact fin_tmp (by simp [RVal, AS.ev, AS.coe]) (by simp)
  · have hs := risV_short cmp (l := l.drop i) (by rw [List.length_drop]; omega)
    rw [hs] at hI
    refine wp_seq' (wp_sr (by simp [push_cast, hml, hlt]; exact rfl) ?_)
    refine wp_cond_f (by simp [AS.ev]) (wp_exit' (if_hit rfl ?_))
    refine wp_sr (by simp [push_cast]; exact rfl) (wp_ret' ?_)
    rw [← hI]
    exact fin_tmp (by simp [RVal, AS.ev, AS.coe]) (by simp)
set_option maxHeartbeats 4000000 in
theorem risB_call {fn : AV} {g : FuncId} {cmp : BoxV → BoxV → Int} {l : List (BoxV)} (htg : ∀ x y, tgtA Go.Proofs.Tryz.prog .val [fn, x, y] = some (g, [x, y])) (hfn : fn = .fnv (.func g) [] [])
    (hc : ∀ a ∈ l, ∀ b ∈ l, PCall Go.Proofs.Tryz.prog g [boxA a, boxA b] (.val (.lit (ji (cmp a b))))) (hl : l.length < 100000) : PCall Go.Proofs.Tryz.prog 84 [.st [1, 1] [.sl 36 (l.map fun x => boxA x), fn]] (.val (.lit (.bool (risV cmp l)))) := by
  have h535 := fc535_eq
  have hml : (l.map fun x => boxA x).length = l.length := List.length_map _
  have hget : ∀ i a, l[i]? = some a → (l.map fun x => boxA x)[i]? = some (boxA a) := fun i a h => by rw [List.getElem?_map, h]; rfl
  generalize hT : (l.map fun x => boxA x) = T at *
  subst hfn
  refine PCall.of h535 rfl ?_; show AC.wp _ fb535 (AS.init [.st [1, 1] [.sl 36 T, .fnv (.func g) [] []]] 1 26) (fun x s => match x with | .exit _ => False | _ => Fin [(.tmp 2)] s _); unfold fb535 AS.init
  refine wp_sg (areg_bx rfl rfl fun lo => areg_end (by simp [push_cast]; exact rfl) ?_)
  refine wp_seq' (wp_sr (by simp [push_cast]; exact rfl) ?_)
  refine wp_block' (wp_loop_m (fun i : Nat => (⟨0, [.st [1, 1] [.sl 36 T, .fnv (.func g) [] []], .ptr 1 lo 0 [], .lit (.bool false), .lit (jn (i + 1))] ++ List.replicate 22 .any, [none, some (.box lo 2 (.st [1, 1] [.sl 36 T, .fnv (.func g) [] []]))] ++ List.replicate 24 none⟩ : AS)) (fun i => l.length - i) (fun i => risV cmp (l.drop i) = risV cmp l ∧ i ≤ l.length) 0 (Le.mk rfl (by simp [leT]) (by simp [leH])) ⟨rfl, by simp⟩ ?_)
  rintro i ⟨hI, hi⟩
  simp only at hI hi ⊢
  by_cases hlt : i + 1 < l.length
  · obtain ⟨a, ha⟩ : ∃ a, l[i]? = some a := ⟨_, List.getElem?_eq_getElem (by omega)⟩
    obtain ⟨b, hb⟩ : ∃ b, l[i + 1]? = some b := ⟨_, List.getElem?_eq_getElem hlt⟩
    have hd : l.drop i = a :: b :: l.drop (i + 2) := by
      rw [List.drop_eq_getElem_cons (by omega : i < l.length), List.drop_eq_getElem_cons hlt]
      rw [List.getElem?_eq_getElem (by omega : i < l.length)] at ha
      rw [List.getElem?_eq_getElem hlt] at hb
      rw [Option.some.inj ha, Option.some.inj hb]
    have hd1 : l.drop (i + 1) = b :: l.drop (i + 2) := by
      rw [List.drop_eq_getElem_cons hlt]
      rw [List.getElem?_eq_getElem hlt] at hb
      rw [Option.some.inj hb]
    rw [hd, risV, ← hd1] at hI
    have c := hc a (List.mem_of_getElem? ha) b (List.mem_of_getElem? hb)
    have ga := hget i a ha
    have gb := hget (i + 1) b hb
    have ga' : ∀ h, T[i]'h = boxA a := fun h => by rw [List.getElem?_eq_getElem h] at ga; exact Option.some.inj ga
    have gb' : ∀ h, T[i + 1]'h = boxA b := fun h => by rw [List.getElem?_eq_getElem h] at gb; exact Option.some.inj gb
    have q1 : i + 1 + 1 < 9223372036854775808 := by omega
    have q2 : i < l.length := by omega
    have q3 : binVal .sub (jn (i + 1)) (jn 1) = some (jn i) := by rw [bin_subj _ _ (by omega) (by omega)]; rfl
    have asz : (boxA a).sz = 36 := rfl
    have bsz : (boxA b).sz = 36 := rfl
    have aag : (boxA a).isAgg = true := rfl
    have bag : (boxA b).isAgg = true := rfl
    have atp : (boxA a).isTup = false := rfl
    have btp : (boxA b).isTup = false := rfl
    refine wp_seq' (wp_sr (by simp [push_cast, hml, hlt]; exact rfl) ?_)
    refine wp_cond_t (by simp [AS.ev]) (wp_skip' ?_)
    refine wp_seq' (wp_block' (wp_seq' (wp_rg ?_)))
    refine areg_run 13 (by simp [push_cast, hml, hlt, ga, gb, ga', gb', q2, q3, boxA]; exact rfl) ?_
    refine areg_xq (us := [.fnv (.func g) [] [], boxA a, boxA b]) rfl (htg _ _) (PCall.x _ c) ⟨_, _, rfl, rfl⟩ (fun r hp' _ t' ht' => by cases ht') ?_
    rintro r H' ⟨rfl, rfl⟩
    by_cases hz : cmp a b < 0
    · have hz' : ¬ 0 ≤ cmp a b := by omega
      refine areg_end (by simp [push_cast, hz']; exact rfl) ?_
      refine wp_cond_f (by simp [AS.ev]) (wp_skip' ?_)
      rw [decide_eq_true hz, Bool.true_and] at hI
      refine wp_r (by simp [push_cast, q1]; exact rfl) ?_
      exact Exists.intro (i + 1) ⟨⟨hI, by omega⟩, by omega, Le.mk rfl (by simp [leT]) (by simp [leH])⟩
    · have hz' : 0 ≤ cmp a b := by omega
      rw [decide_eq_false hz, Bool.false_and] at hI
      refine areg_end (by simp [push_cast, hz']; exact rfl) ?_
      refine wp_cond_t (by simp [AS.ev]) ?_
      refine wp_sr (by simp [push_cast]; exact rfl) (wp_ret' ?_)
      rw [← hI]
      exact fin_tmp (by simp [RVal, AS.ev, AS.coe]) (by simp)
  · have hs := risV_short cmp (l := l.drop i) (by rw [List.length_drop]; omega)
    rw [hs] at hI
    refine wp_seq' (wp_sr (by simp [push_cast, hml, hlt]; exact rfl) ?_)
    refine wp_cond_f (by simp [AS.ev]) (wp_exit' (if_hit rfl ?_))
    refine wp_sr (by simp [push_cast]; exact rfl) (wp_ret' ?_)
    rw [← hI]
    exact fin_tmp (by simp [RVal, AS.ev, AS.coe]) (by simp)
def idxQ {α : Type} (p : α → Bool) : List α → Nat → Option Nat
  | [], _ => none
  | k :: ks, i => if p k then some i else idxQ p ks (i + 1)
theorem idxQ_any {α : Type} (p : α → Bool) : ∀ (ks : List α) (i : Nat), (idxQ p ks i).isSome = ks.any p
  | [], _ => rfl
  | k :: ks, i => by
    rw [idxQ, List.any_cons]
    split
    · rename_i h; rw [h]; rfl
    · rename_i h; rw [idxQ_any p ks (i + 1)]; simp [h]
theorem idxV_geq' (o : Option Nat) : binVal .geq (idxV o) (jn 0) = some (.bool o.isSome) := by
  cases o with
  | none => simp [idxV, binVal, jn]
  | some n => show binVal .geq (jn n) (jn 0) = _; rw [bin_geqj]; simp
set_option maxHeartbeats 8000000 in
theorem idxN_call {H : List (Option Blk)} {clo : AV} {g : FuncId} {as' : Int → List AV} {p : Int → Bool} {l : List (Int)} (htg : ∀ x, tgtA Go.Proofs.Tryz.prog .val [clo, AV.lit (ji x)] = some (g, as' x)) (hcl : clo.isTup = false)
    (hc : ∀ L, ∀ x ∈ l, XCall Go.Proofs.Tryz.prog g (as' x) (H ++ L) fun r H' => r = .lit (.bool (p x)) ∧ H' = H ++ L) (hks : l.length < 100000) :
    XCall Go.Proofs.Tryz.prog 95 [.sl 1 (l.map fun x => AV.lit (ji x)), clo] H fun r H' => r = .lit (idxV (idxQ p l 0)) ∧ H' = H := by
  have h539 := fc539_eq
  refine XCall.le ?_
  have hml : (l.map fun x => AV.lit (ji x)).length = l.length := List.length_map _
  have hget : ∀ i a, l[i]? = some a → (l.map fun x => AV.lit (ji x))[i]? = some (AV.lit (ji a)) := fun i a h => by rw [List.getElem?_map, h]; rfl
  generalize hT : (l.map fun x => AV.lit (ji x)) = T at *
  refine XCall.of h539 rfl ?_; show AC.wp _ fb539 ⟨H.length, [.sl 1 T, clo] ++ List.replicate (19 - 2) .any, H ++ List.replicate 19 none⟩ (fun x s => match x with | .exit _ => False | _ => ∃ s1, Le s s1 ∧ FinX [(.tmp 4)] s1 _); unfold fb539
  generalize hN : H.length = N at *
  refine wp_sr (by simp [push_cast]; exact rfl) ?_
  refine wp_seq' (wp_seq' (wp_r (by simp [push_cast, hml]; exact rfl) ?_))
  refine wp_block' (wp_loop_m (fun i => ⟨N, [.sl 1 T, clo, .any, .any, .lit (jn 0), .any, .sl 1 T, .lit (jn l.length), .lit (jn i)] ++ List.replicate 10 .any, H ++ List.replicate 19 none⟩) (fun i => l.length - i) (fun i => idxQ p (l.drop i) i = idxQ p l 0 ∧ i ≤ l.length) 0 ?_ ⟨rfl, by simp⟩ ?_)
  · exact Le.mk rfl (by simp [leT]) (leH_refl _)
  · rintro i ⟨hI, hi⟩
    simp only at hI hi ⊢
    by_cases hlt : i < l.length
    · obtain ⟨x, hx⟩ : ∃ x, l[i]? = some x := ⟨_, List.getElem?_eq_getElem hlt⟩
      have hdrop : l.drop i = x :: l.drop (i + 1) := by
        rw [List.drop_eq_getElem_cons hlt]
        rw [List.getElem?_eq_getElem hlt] at hx
        rw [Option.some.inj hx]
      rw [hdrop, idxQ] at hI
      have c := fun L => hc L x (List.mem_of_getElem? hx)
      have g1 := hget i x hx
      have g2 : ∀ h, T[i]'h = AV.lit (ji x) := fun h => by rw [List.getElem?_eq_getElem h] at g1; exact Option.some.inj g1
      have q1 : i + 1 < 9223372036854775808 := by omega
      refine wp_sr (by simp [push_cast, hlt]; exact rfl) (wp_seq' (wp_cond_t (by simp [AS.ev]) (wp_skip' ?_)))
      refine wp_seq' (wp_block' (wp_sr (by simp [push_cast]; exact rfl) ?_))
      refine wp_seq' (wp_rg ?_)
      refine areg_run 5 (by simp [push_cast, g1, g2, hlt, hml]; exact rfl) ?_
      refine areg_xq (us := [clo, AV.lit (ji x)]) rfl (htg _) (c _) ⟨_, _, rfl, rfl⟩ (fun r hp' _ t' ht' => by cases ht') ?_
      rintro r H' ⟨rfl, rfl⟩
      refine areg_end (by simp [push_cast]; exact rfl) ?_
      by_cases hk : p x = true
      · rw [if_pos hk] at hI
        refine wp_cond_t (by simp [AS.ev, AS.put, hk]) ?_
        refine wp_sr (by simp [push_cast]; exact rfl) (wp_ret' ?_)
        exact ⟨_, Le.refl _, finX1 (v := .lit (jn i)) rfl (by simp) ⟨_, H, RelLe.refl _, by simp, HpLe.trim _ _, by rw [← hI]; rfl, rfl⟩⟩
      · rw [if_neg hk] at hI
        refine wp_cond_f (by simp [AS.ev, AS.put, hk]) (wp_skip' ?_)
        refine wp_r (by simp [push_cast, q1]; exact rfl) ?_
        exact Exists.intro (i + 1) ⟨⟨hI, by omega⟩, by omega, Le.mk rfl (by simp [leT]) (leH_refl _)⟩
    · have hin : i = l.length := by omega
      subst hin
      rw [List.drop_length, idxQ] at hI
      refine wp_sr (by simp [push_cast]; exact rfl) (wp_seq' (wp_cond_f (by simp [AS.ev]) (wp_exit' (if_hit rfl ?_))))
      refine wp_sr (by simp [push_cast]; exact rfl) (wp_ret' ?_)
      exact ⟨_, Le.refl _, finX1 (v := .lit (.int .i64 (-1))) rfl (by simp) ⟨_, H, RelLe.refl _, by simp, HpLe.trim _ _, by rw [← hI]; rfl, rfl⟩⟩
set_option maxHeartbeats 4000000 in
theorem conN_call {H : List (Option Blk)} {clo : AV} {g : FuncId} {as' : Int → List AV} {p : Int → Bool} {l : List (Int)} (htg : ∀ x, tgtA Go.Proofs.Tryz.prog .val [clo, AV.lit (ji x)] = some (g, as' x)) (hcl : clo.isTup = false)
    (hc : ∀ L, ∀ x ∈ l, XCall Go.Proofs.Tryz.prog g (as' x) (H ++ L) fun r H' => r = .lit (.bool (p x)) ∧ H' = H ++ L) (hks : l.length < 100000) :
    XCall Go.Proofs.Tryz.prog 80 [.sl 1 (l.map fun x => AV.lit (ji x)), clo] H fun r H' => r = .lit (.bool (l.any p)) ∧ H' = H := by
  have h531 := fc531_eq
  refine XCall.le ?_
  have hcI : callable Go.Proofs.Tryz.prog 95 = true := by kernel_rfl
  have ci := fun L => idxN_call (H := H ++ L) htg hcl (fun L' x hx => by rw [List.append_assoc]; exact hc _ x hx) hks
  have hge := idxV_geq' (idxQ p l 0)
  rw [idxQ_any] at hge
  generalize (l.map fun x => AV.lit (ji x)) = T at *
  refine XCall.of h531 rfl ?_; show AC.wp _ fb531 ⟨H.length, [.sl 1 T, clo] ++ List.replicate (9 - 2) .any, H ++ List.replicate 9 none⟩ (fun x s => match x with | .exit _ => False | _ => ∃ s1, Le s s1 ∧ FinX [(.tmp 4)] s1 _); unfold fb531
  generalize hN : H.length = N at *
  refine wp_sr (by simp [push_cast]; exact rfl) ?_
  refine wp_sg ?_
  refine areg_run 2 (by simp [push_cast]; exact rfl) ?_
  refine areg_xq (us := [.sl 1 T, clo]) rfl (by simp only [tgtA, tgtB, Option.bind_some, hcI, if_true]) (ci _) ⟨_, _, rfl, rfl⟩ (fun r hp' _ t' ht' => by cases ht') ?_
  rintro r H' ⟨rfl, rfl⟩
  refine areg_end (by simp [push_cast, hge]; exact rfl) (wp_ret' ?_)
  exact ⟨_, Le.refl _, finX1 (v := .lit (.bool (l.any p))) rfl (by simp) ⟨_, H, RelLe.refl _, by simp, HpLe.trim _ _, rfl, rfl⟩⟩
set_option maxHeartbeats 8000000 in
theorem idxB_call {H : List (Option Blk)} {clo : AV} {g : FuncId} {as' : BoxV → List AV} {p : BoxV → Bool} {l : List (BoxV)} (htg : ∀ x, tgtA Go.Proofs.Tryz.prog .val [clo, boxA x] = some (g, as' x)) (hcl : clo.isTup = false)
    (hc : ∀ L, ∀ x ∈ l, XCall Go.Proofs.Tryz.prog g (as' x) (H ++ L) fun r H' => r = .lit (.bool (p x)) ∧ H' = H ++ L) (hks : l.length < 100000) :
    XCall Go.Proofs.Tryz.prog 97 [.sl 36 (l.map fun x => boxA x), clo] H fun r H' => r = .lit (idxV (idxQ p l 0)) ∧ H' = H := by
  have h541 := fc541_eq
  refine XCall.le ?_
  have hml : (l.map fun x => boxA x).length = l.length := List.length_map _
  have hget : ∀ i a, l[i]? = some a → (l.map fun x => boxA x)[i]? = some (boxA a) := fun i a h => by rw [List.getElem?_map, h]; rfl
  generalize hT : (l.map fun x => boxA x) = T at *
  refine XCall.of h541 rfl ?_; show AC.wp _ fb541 ⟨H.length, [.sl 36 T, clo] ++ List.replicate (19 - 2) .any, H ++ List.replicate 19 none⟩ (fun x s => match x with | .exit _ => False | _ => ∃ s1, Le s s1 ∧ FinX [(.tmp 4)] s1 _); unfold fb541
  generalize hN : H.length = N at *
  refine wp_sr (by simp [push_cast]; exact rfl) ?_
  refine wp_seq' (wp_seq' (wp_r (by simp [push_cast, hml]; exact rfl) ?_))
  refine wp_block' (wp_loop_m (fun i => ⟨N, [.sl 36 T, clo, .any, .any, .lit (jn 0), .any, .sl 36 T, .lit (jn l.length), .lit (jn i)] ++ List.replicate 10 .any, H ++ List.replicate 19 none⟩) (fun i => l.length - i) (fun i => idxQ p (l.drop i) i = idxQ p l 0 ∧ i ≤ l.length) 0 ?_ ⟨rfl, by simp⟩ ?_)
  · exact Le.mk rfl (by simp [leT]) (leH_refl _)
  · rintro i ⟨hI, hi⟩
    simp only at hI hi ⊢
    by_cases hlt : i < l.length
    · obtain ⟨x, hx⟩ : ∃ x, l[i]? = some x := ⟨_, List.getElem?_eq_getElem hlt⟩
      have hdrop : l.drop i = x :: l.drop (i + 1) := by
        rw [List.drop_eq_getElem_cons hlt]
        rw [List.getElem?_eq_getElem hlt] at hx
        rw [Option.some.inj hx]
      rw [hdrop, idxQ] at hI
      have c := fun L => hc L x (List.mem_of_getElem? hx)
      have g1 := hget i x hx
      have g2 : ∀ h, T[i]'h = boxA x := fun h => by rw [List.getElem?_eq_getElem h] at g1; exact Option.some.inj g1
      have q1 : i + 1 < 9223372036854775808 := by omega
      have xsz : (boxA x).sz = 36 := rfl
      have xag : (boxA x).isAgg = true := rfl
      have xtp : (boxA x).isTup = false := rfl
      refine wp_sr (by simp [push_cast, hlt]; exact rfl) (wp_seq' (wp_cond_t (by simp [AS.ev]) (wp_skip' ?_)))
      refine wp_seq' (wp_block' (wp_sr (by simp [push_cast]; exact rfl) ?_))
      refine wp_seq' (wp_rg ?_)
      refine areg_run 5 (by simp [push_cast, g1, g2, hlt, hml, boxA]; exact rfl) ?_
      refine areg_xq (us := [clo, boxA x]) rfl (htg _) (c _) ⟨_, _, rfl, rfl⟩ (fun r hp' _ t' ht' => by cases ht') ?_
      rintro r H' ⟨rfl, rfl⟩
      refine areg_end (by simp [push_cast]; exact rfl) ?_
      by_cases hk : p x = true
      · rw [if_pos hk] at hI
        refine wp_cond_t (by simp [AS.ev, AS.put, hk]) ?_
        refine wp_sr (by simp [push_cast]; exact rfl) (wp_ret' ?_)
        exact ⟨_, Le.refl _, finX1 (v := .lit (jn i)) rfl (by simp) ⟨_, H, RelLe.refl _, by simp, HpLe.trim _ _, by rw [← hI]; rfl, rfl⟩⟩
      · rw [if_neg hk] at hI
        refine wp_cond_f (by simp [AS.ev, AS.put, hk]) (wp_skip' ?_)
        refine wp_r (by simp [push_cast, q1]; exact rfl) ?_
        exact Exists.intro (i + 1) ⟨⟨hI, by omega⟩, by omega, Le.mk rfl (by simp [leT]) (leH_refl _)⟩
    · have hin : i = l.length := by omega
      subst hin
      rw [List.drop_length, idxQ] at hI
      refine wp_sr (by simp [push_cast]; exact rfl) (wp_seq' (wp_cond_f (by simp [AS.ev]) (wp_exit' (if_hit rfl ?_))))
      refine wp_sr (by simp [push_cast]; exact rfl) (wp_ret' ?_)
      exact ⟨_, Le.refl _, finX1 (v := .lit (.int .i64 (-1))) rfl (by simp) ⟨_, H, RelLe.refl _, by simp, HpLe.trim _ _, by rw [← hI]; rfl, rfl⟩⟩
set_option maxHeartbeats 4000000 in
theorem conB_call {H : List (Option Blk)} {clo : AV} {g : FuncId} {as' : BoxV → List AV} {p : BoxV → Bool} {l : List (BoxV)} (htg : ∀ x, tgtA Go.Proofs.Tryz.prog .val [clo, boxA x] = some (g, as' x)) (hcl : clo.isTup = false)
    (hc : ∀ L, ∀ x ∈ l, XCall Go.Proofs.Tryz.prog g (as' x) (H ++ L) fun r H' => r = .lit (.bool (p x)) ∧ H' = H ++ L) (hks : l.length < 100000) :
    XCall Go.Proofs.Tryz.prog 85 [.sl 36 (l.map fun x => boxA x), clo] H fun r H' => r = .lit (.bool (l.any p)) ∧ H' = H := by
  have h536 := fc536_eq
  refine XCall.le ?_
  have hcI : callable Go.Proofs.Tryz.prog 97 = true := by kernel_rfl
  have ci := fun L => idxB_call (H := H ++ L) htg hcl (fun L' x hx => by rw [List.append_assoc]; exact hc _ x hx) hks
  have hge := idxV_geq' (idxQ p l 0)
  rw [idxQ_any] at hge
  generalize (l.map fun x => boxA x) = T at *
  refine XCall.of h536 rfl ?_; show AC.wp _ fb536 ⟨H.length, [.sl 36 T, clo] ++ List.replicate (9 - 2) .any, H ++ List.replicate 9 none⟩ (fun x s => match x with | .exit _ => False | _ => ∃ s1, Le s s1 ∧ FinX [(.tmp 4)] s1 _); unfold fb536
  generalize hN : H.length = N at *
  refine wp_sr (by simp [push_cast]; exact rfl) ?_
  refine wp_sg ?_
  refine areg_run 2 (by simp [push_cast]; exact rfl) ?_
  refine areg_xq (us := [.sl 36 T, clo]) rfl (by simp only [tgtA, tgtB, Option.bind_some, hcI, if_true]) (ci _) ⟨_, _, rfl, rfl⟩ (fun r hp' _ t' ht' => by cases ht') ?_
  rintro r H' ⟨rfl, rfl⟩
  refine areg_end (by simp [push_cast, hge]; exact rfl) (wp_ret' ?_)
  exact ⟨_, Le.refl _, finX1 (v := .lit (.bool (l.any p))) rfl (by simp) ⟨_, H, RelLe.refl _, by simp, HpLe.trim _ _, rfl, rfl⟩⟩
set_option maxHeartbeats 4000000 in
theorem indexN_call {v : Int} {l : List Int} (hks : l.length < 100000) : PCall Go.Proofs.Tryz.prog 96 [.sl 1 (l.map fun x => AV.lit (ji x)), .lit (ji v)] (.val (.lit (idxV (idxQ (fun x => decide (v = x)) l 0)))) := by
  have h540 := fc540_eq
  have hml : (l.map fun x => AV.lit (ji x)).length = l.length := List.length_map _
  have hget : ∀ i a, l[i]? = some a → (l.map fun x => AV.lit (ji x))[i]? = some (AV.lit (ji a)) := fun i a h => by rw [List.getElem?_map, h]; rfl
  generalize hT : (l.map fun x => AV.lit (ji x)) = T at *
  refine PCall.of h540 rfl ?_; show AC.wp _ fb540 (AS.init [.sl 1 T, .lit (ji v)] 2 19) (fun x s => match x with | .exit _ => False | _ => Fin [(.tmp 4)] s _); unfold fb540 AS.init
  refine wp_sr (by simp [push_cast]; exact rfl) ?_
  refine wp_seq' (wp_seq' (wp_r (by simp [push_cast, hml]; exact rfl) ?_))
  refine wp_block' (wp_loop_m (fun i => ⟨0, [.sl 1 T, .lit (ji v), .any, .any, .lit (jn 0), .any, .sl 1 T, .lit (jn l.length), .lit (jn i)] ++ List.replicate 10 .any, List.replicate 19 none⟩) (fun i => l.length - i) (fun i => idxQ (fun x => decide (v = x)) (l.drop i) i = idxQ (fun x => decide (v = x)) l 0 ∧ i ≤ l.length) 0 ?_ ⟨rfl, by simp⟩ ?_)
  · exact Le.mk rfl (by simp [leT]) (leH_refl _)
  · rintro i ⟨hI, hi⟩
    simp only at hI hi ⊢
    by_cases hlt : i < l.length
    · obtain ⟨x, hx⟩ : ∃ x, l[i]? = some x := ⟨_, List.getElem?_eq_getElem hlt⟩
      have hdrop : l.drop i = x :: l.drop (i + 1) := by
        rw [List.drop_eq_getElem_cons hlt]
        rw [List.getElem?_eq_getElem hlt] at hx
        rw [Option.some.inj hx]
      rw [hdrop, idxQ] at hI
      have g1 := hget i x hx
      have g2 : ∀ h, T[i]'h = AV.lit (ji x) := fun h => by rw [List.getElem?_eq_getElem h] at g1; exact Option.some.inj g1
      have q1 : i + 1 < 9223372036854775808 := by omega
      refine wp_sr (by simp [push_cast, hlt]; exact rfl) (wp_seq' (wp_cond_t (by simp [AS.ev]) (wp_skip' ?_)))
      refine wp_seq' (wp_block' (wp_sr (by simp [push_cast]; exact rfl) ?_))
      by_cases hk : v = x
      · rw [if_pos (by simpa using hk)] at hI
        refine wp_seq' (wp_r (by simp [push_cast, g1, g2, hlt, hml, hk]; exact rfl) ?_)
        refine wp_cond_t (by simp [AS.ev, AS.put]) ?_
        refine wp_sr (by simp [push_cast]; exact rfl) (wp_ret' ?_)
        rw [← hI]
        exact fin_tmp (by simp [RVal, AS.ev, AS.coe, idxV]) (by simp)
      · rw [if_neg (by simpa using hk)] at hI
        refine wp_seq' (wp_r (by simp [push_cast, g1, g2, hlt, hml, hk]; exact rfl) ?_)
        refine wp_cond_f (by simp [AS.ev, AS.put]) (wp_skip' ?_)
        refine wp_r (by simp [push_cast, q1]; exact rfl) ?_
        exact Exists.intro (i + 1) ⟨⟨hI, by omega⟩, by omega, Le.mk rfl (by simp [leT]) (leH_refl _)⟩
    · have hin : i = l.length := by omega
      subst hin
      rw [List.drop_length, idxQ] at hI
      refine wp_sr (by simp [push_cast]; exact rfl) (wp_seq' (wp_cond_f (by simp [AS.ev]) (wp_exit' (if_hit rfl ?_))))
      refine wp_sr (by simp [push_cast]; exact rfl) (wp_ret' ?_)
      rw [← hI]
      exact fin_tmp (by simp [RVal, AS.ev, AS.coe, idxV]) (by simp)
theorem containsN_call {v : Int} {l : List Int} (hks : l.length < 100000) : PCall Go.Proofs.Tryz.prog 82 [.sl 1 (l.map fun x => AV.lit (ji x)), .lit (ji v)] (.val (.lit (.bool (l.any fun x => decide (v = x))))) := by
  have h533 := fc533_eq
  have ci := indexN_call (v := v) hks
  have hge := idxV_geq' (idxQ (fun x => decide (v = x)) l 0)
  rw [idxQ_any] at hge
  generalize (l.map fun x => AV.lit (ji x)) = T at *
  refine PCall.of h533 rfl ?_; show AC.wp _ fb533 (AS.init [.sl 1 T, .lit (ji v)] 2 9) (fun x s => match x with | .exit _ => False | _ => Fin [(.tmp 4)] s _); unfold fb533 AS.init
  refine wp_sr (by simp [push_cast]; exact rfl) (wp_sg ?_)
  refine areg_run 2 (by simp [push_cast]; exact rfl) ?_
  refine areg_lc (by simp [AS.ev, AS.lend, AS.lendF, AS.put, AOp.ro, AS.blk] <;> exact rfl) rfl ci ?_
  refine areg_end (by simp [push_cast, hge]; exact rfl) (wp_ret' ?_)
  exact fin_tmp (by simp [RVal, AS.ev, AS.coe]) (by simp)
end Go.Cab
namespace Go.Cab
open Classical
def fb526 : AC := (.seq (.reg [⟨some 1, none, .box 71 (.tmp 0), [], none⟩, ⟨some 2, none, .mov (.const (.bool false)), [], none⟩]) (.seq (.seq (.reg [⟨some 3, none, .faddr 4 4 (.tmp 1), [], none⟩, ⟨some 4, none, .load false 1 (.tmp 3), [], none⟩, ⟨some 5, none, .build (.st [1, 1] [(.lit (.slice .none 0 0)), (.lit .nilFunc)]) [(0, (.tmp 4)), (1, (.func 78))], [], none⟩, ⟨some 6, none, .call 79 [.tmp 5], [], none⟩, ⟨some 7, none, .un .not (.tmp 6), [], none⟩, ⟨some 8, none, .mov (.tmp 7), [], none⟩, ⟨some 9, some (8, false), .faddr 4 4 (.tmp 1), [], none⟩, ⟨some 10, some (8, false), .load false 1 (.tmp 9), [], none⟩, ⟨some 11, some (8, false), .xc (.dir 80) [.tmp 10, .func 81] [] [], [], none⟩, ⟨some 12, none, .pick (.tmp 8) (.const (.bool true)) (.tmp 11), [], none⟩]) (.cond (.tmp 12) (.seq (.reg [⟨some 2, none, .mov (.const (.bool false)), [], none⟩]) .ret) .skip)) (.seq (.seq (.reg [⟨some 13, none, .faddr 3 3 (.tmp 1), [], none⟩, ⟨some 14, none, .load false 1 (.tmp 13), [], none⟩]) (.block 0 (.seq (.reg [⟨some 16, none, .bin .eql (.tmp 14) (.const (jn 1)), [], none⟩, ⟨some 15, none, .mov (.tmp 16), [], none⟩]) (.cond (.tmp 15) (.seq (.reg [⟨some 17, none, .faddr 4 4 (.tmp 1), [], none⟩, ⟨some 18, none, .load false 1 (.tmp 17), [], none⟩, ⟨some 19, none, .faddr 0 0 (.tmp 1), [], none⟩, ⟨some 20, none, .load false 1 (.tmp 19), [], none⟩, ⟨some 21, none, .lcall 82 [.tmp 18, .tmp 20], [], none⟩, ⟨some 2, none, .mov (.tmp 21), [], none⟩]) .ret) (.seq (.seq (.reg [⟨some 23, none, .bin .eql (.tmp 14) (.const (jn 2)), [], none⟩, ⟨some 22, none, .mov (.tmp 23), [], none⟩]) (.cond (.tmp 22) .skip (.reg [⟨some 24, none, .bin .eql (.tmp 14) (.const (jn 3)), [], none⟩, ⟨some 22, none, .mov (.tmp 24), [], none⟩]))) (.cond (.tmp 22) (.seq (.reg [⟨some 25, none, .faddr 4 4 (.tmp 1), [], none⟩, ⟨some 26, none, .load false 1 (.tmp 25), [], none⟩, ⟨some 27, none, .len false (.tmp 26), [], none⟩, ⟨some 28, none, .bin .eql (.tmp 27) (.const (jn 1)), [], none⟩, ⟨some 29, none, .mov (.tmp 28), [], none⟩, ⟨some 30, some (29, true), .faddr 4 4 (.tmp 1), [], none⟩, ⟨some 31, some (29, true), .load false 1 (.tmp 30), [], none⟩, ⟨some 32, some (29, true), .iaddrS 1 (.tmp 31) (.const (jn 0)), [], none⟩, ⟨some 33, some (29, true), .load false 1 (.tmp 32), [], none⟩, ⟨some 34, some (29, true), .faddr 0 0 (.tmp 1), [], none⟩, ⟨some 35, some (29, true), .load false 1 (.tmp 34), [], none⟩, ⟨some 36, some (29, true), .bin .neq (.tmp 33) (.tmp 35), [], none⟩, ⟨some 37, none, .pick (.tmp 29) (.tmp 36) (.const (.bool false)), [], none⟩, ⟨some 2, none, .mov (.tmp 37), [], none⟩]) .ret) .skip)))))) (.seq (.reg [⟨some 38, none, .faddr 4 4 (.tmp 1), [], none⟩, ⟨some 39, none, .load false 1 (.tmp 38), [], none⟩, ⟨some 40, none, .len false (.tmp 39), [], none⟩, ⟨some 41, none, .bin .eql (.tmp 40) (.const (jn 0)), [], none⟩, ⟨some 2, none, .mov (.tmp 41), [], none⟩]) .ret))))
def fc526 : FC := ⟨1, 42, [(.tmp 2)], fb526⟩
theorem fc526_eq : compF Go.Proofs.Tryz.prog 65 = some fc526 := by kernel_rfl
def fb527 : AC := (.seq (.reg [⟨some 1, none, .box 71 (.tmp 0), [], none⟩, ⟨some 2, none, .mov (.const (.bool false)), [], none⟩]) (.seq (.reg [⟨some 3, none, .faddr 70 8 (.tmp 1), [], none⟩, ⟨some 4, none, .load false 1 (.tmp 3), [], none⟩, ⟨some 5, none, .len false (.tmp 4), [], none⟩, ⟨some 6, none, .bin .leq (.tmp 5) (.const (jn 8)), [], none⟩, ⟨some 7, none, .mov (.tmp 6), [], none⟩, ⟨some 8, some (7, true), .faddr 70 8 (.tmp 1), [], none⟩, ⟨some 9, some (7, true), .load false 1 (.tmp 8), [], none⟩, ⟨some 10, some (7, true), .build (.st [1, 1] [(.lit (.slice .none 0 0)), (.lit .nilFunc)]) [(0, (.tmp 9)), (1, (.func 83))], [], none⟩, ⟨some 11, some (7, true), .call 84 [.tmp 10], [], none⟩, ⟨some 12, none, .pick (.tmp 7) (.tmp 11) (.const (.bool false)), [], none⟩, ⟨some 13, none, .mov (.tmp 12), [], none⟩, ⟨some 14, some (13, true), .faddr 70 8 (.tmp 1), [], none⟩, ⟨some 15, some (13, true), .load false 1 (.tmp 14), [], none⟩, ⟨some 16, some (13, true), .rdp (.mkfn (.func 86) 0) [.tmp 1], [], none⟩, ⟨some 17, some (13, true), .xc (.dir 85) [.tmp 15, .tmp 16] [] [], [], none⟩, ⟨some 18, some (13, true), .un .not (.tmp 17), [], none⟩, ⟨some 19, none, .pick (.tmp 13) (.tmp 18) (.const (.bool false)), [], none⟩, ⟨some 2, none, .mov (.tmp 19), [], none⟩]) .ret))
def fc527 : FC := ⟨1, 20, [(.tmp 2)], fb527⟩
theorem fc527_eq : compF Go.Proofs.Tryz.prog 66 = some fc527 := by kernel_rfl
def fb537 : AC := (.seq (.reg [⟨some 2, none, .box 36 (.tmp 0), [], none⟩, ⟨some 3, none, .mov (.const (.bool false)), [], none⟩]) (.seq (.reg [⟨some 4, none, .faddr 0 0 (.tmp 2), [], none⟩, ⟨some 5, none, .load false 1 (.tmp 4), [], none⟩, ⟨some 6, none, .call 62 [.tmp 5], [], none⟩, ⟨some 7, none, .un .not (.tmp 6), [], none⟩, ⟨some 8, none, .mov (.tmp 7), [], none⟩, ⟨some 9, some (8, false), .faddr 0 0 (.tmp 2), [], none⟩, ⟨some 10, some (8, false), .load false 1 (.tmp 9), [], none⟩, ⟨some 11, some (8, false), .faddr 0 0 (.tmp 1), [], none⟩, ⟨some 12, some (8, false), .load false 1 (.tmp 11), [], none⟩, ⟨some 13, some (8, false), .bin .eql (.tmp 10) (.tmp 12), [], none⟩, ⟨some 14, none, .pick (.tmp 8) (.const (.bool true)) (.tmp 13), [], none⟩, ⟨some 15, none, .mov (.tmp 14), [], none⟩, ⟨some 16, some (15, false), .faddr 35 2 (.tmp 2), [], none⟩, ⟨some 17, some (15, false), .load false 1 (.tmp 16), [], none⟩, ⟨some 18, some (15, false), .len true (.tmp 17), [], none⟩, ⟨some 19, some (15, false), .bin .gtr (.tmp 18) (.const (jn 256)), [], none⟩, ⟨some 20, none, .pick (.tmp 15) (.const (.bool true)) (.tmp 19), [], none⟩, ⟨some 3, none, .mov (.tmp 20), [], none⟩]) .ret))
def fc537 : FC := ⟨1, 21, [(.tmp 3)], fb537⟩
theorem fc537_eq : compF Go.Proofs.Tryz.prog 86 = some fc537 := by kernel_rfl
structure OpV where
  author : Int
  seq : Nat
  parents : List (List UInt8)
  kind : Int
  who : List Int
  ofk : List UInt8
  check : List UInt8
  text : List UInt8
  boxes : List BoxV
def opA (o : OpV) : AV := .st [1, 1, 1, 1, 1, 32, 32, 1, 1] [.lit (ji o.author), .lit (wn o.seq), .sl 32 (klA o.parents), .lit (ji o.kind), .sl 1 (o.who.map fun x => AV.lit (ji x)), keyA o.ofk, keyA o.check, .lit (tx o.text), .sl 36 (o.boxes.map fun x => boxA x)]
structure OpOk (o : OpV) : Prop where
  seq : o.seq < 4294967296
  parents : o.parents.length < 100000
  p32 : ∀ k ∈ o.parents, k.length = 32
  who : o.who.length < 100000
  ofk : o.ofk.length = 32
  check : o.check.length = 32
  text : o.text.length < 9223372036854775808
  boxes : o.boxes.length < 100000
  bok : ∀ b ∈ o.boxes, BoxOk b
def memB (a : Int) : Bool := decide (0 ≤ a ∧ a < 8)
def badBox (o : OpV) (b : BoxV) : Bool := !memB b.to || decide (b.to = o.author) || decide (256 < b.body.length)
def whoV (o : OpV) : Bool :=
  if !risV cmpN o.who || o.who.any (fun n => !memB n) then false
  else if o.kind = 1 then o.who.any (fun x => decide (o.author = x))
  else if o.kind = 2 ∨ o.kind = 3 then decide (o.who.length = 1 ∧ o.who.getD 0 0 ≠ o.author)
  else decide (o.who.length = 0)
def boxesV (o : OpV) : Bool := decide (o.boxes.length ≤ 8) && risV (fun a b => cmpN a.to b.to) o.boxes && !o.boxes.any (badBox o)
set_option maxHeartbeats 8000000 in
theorem badBox_call {H : List (Option Blk)} {c : Nat} {lc : Nat × Nat} {o : OpV} (hc : H[c]? = some (some (.box lc 71 (opA o)))) (b : BoxV) (hb : b.body.length < 9223372036854775808) :
    XCall Go.Proofs.Tryz.prog 86 [boxA b, .ptr c lc 0 []] H fun r H' => r = .lit (.bool (badBox o b)) ∧ H' = H := by
  have h537 := fc537_eq
  refine XCall.le ?_
  have cm := member_call b.to
  have lcc := (List.getElem?_eq_some_iff.1 hc).1
  unfold badBox memB
  unfold boxA
  unfold opA at hc
  obtain ⟨bto, bpub, bn', bprev, body⟩ := b
  simp only at cm hb ⊢
  refine XCall.ofC h537 (by show 2 ≤ 21; omega) ?_; show AC.wp _ fb537 ⟨H.length, [.st [1, 34, 1] [.lit (ji bto), .st [32, 1, 1] [keyA bpub, .lit (wn bn'), .lit (wn bprev)], .lit (tx body)], .ptr c lc 0 []] ++ List.replicate (21 - 2) .any, H ++ List.replicate 21 none⟩ (fun x s => match x with | .exit _ => False | _ => ∃ s1, Le s s1 ∧ FinX [(.tmp 3)] s1 _); unfold fb537
  generalize hN : H.length = N at *
  have q1 : ∀ L k, (H ++ L)[N + k]? = L[k]? := fun L k => cat1 N H L k hN
  have q2 : ∀ L k x, (H ++ L).set (N + k) x = H ++ L.set k x := fun L k x => cat2 N H L k x hN
  have q3 := fun L => (cat4 N H L c hN lcc).trans hc
  have efin : ∀ (b : Bool) (R : List (Option Blk)) (s : AS), b = (!decide (0 ≤ bto ∧ bto < 8) || decide (bto = o.author) || decide (256 < body.length)) → RVal s (.tmp 3) = some (.lit (.bool b)) → s.hp = H ++ R → ∃ s1, Le s s1 ∧ FinX [RV.tmp 3] s1 fun r H' => ∃ r' A, RelLe r r' ∧ r' ≠ .any ∧ HpLe H' A ∧ r' = .lit (.bool (!decide (0 ≤ bto ∧ bto < 8) || decide (bto = o.author) || decide (256 < body.length))) ∧ A = H := fun b R s e hr hR =>
    ⟨s, Le.refl _, finX1 hr (by simp) ⟨_, H, RelLe.refl _, by simp, by rw [hR]; exact HpLe.trim _ _, by rw [e], rfl⟩⟩
  generalize decide (0 ≤ bto ∧ bto < 8) = m at *
  refine wp_sg (areg_bx rfl rfl fun l => areg_end (by simp [push_cast, q2]; exact rfl) ?_)
  refine wp_sg ?_
  refine areg_run 2 (by simp [push_cast, q1]; exact rfl) ?_
  refine areg_ca (by simp [AS.ev, AS.coe, AS.put] <;> exact rfl) cm ?_
  cases m with
  | false =>
    refine areg_run 2 (by simp [push_cast]; exact rfl) ?_
    refine areg_run 6 (by simp [push_cast]; exact rfl) ?_
    refine areg_end (by simp [push_cast]; exact rfl) (wp_ret' ?_)
    exact efin true _ _ (by simp) rfl rfl
  | true =>
    by_cases h1 : bto = o.author
    · refine areg_run 7 (by simp [push_cast, q1, q3, h1]; exact rfl) ?_
      refine areg_run 2 (by simp [push_cast]; exact rfl) ?_
      refine areg_end (by simp [push_cast]; exact rfl) (wp_ret' ?_)
      exact efin true _ _ (by simp [h1]) rfl rfl
    · refine areg_run 7 (by simp [push_cast, q1, q3, h1]; exact rfl) ?_
      refine areg_run 2 (by simp [push_cast]; exact rfl) ?_
      refine areg_end (by simp [push_cast, q1]; exact rfl) (wp_ret' ?_)
      exact efin (decide (256 < body.length)) _ _ (by simp [h1]) (by simp [RVal, AS.ev, AS.coe]) rfl
def cloB (c : Nat) (lc : Nat × Nat) : AV := .fnv (.func 86) [] [.ptr c lc 0 []]
theorem tgt_cloB (c : Nat) (lc : Nat × Nat) (x : AV) : tgtA Go.Proofs.Tryz.prog .val [cloB c lc, x] = some (86, [x, .ptr c lc 0 []]) := by kernel_rfl
theorem mkfn_cloB (c : Nat) (lc : Nat × Nat) : rdA Go.Proofs.Tryz.prog (fun _ => none) (.mkfn (.func 86) 0) [.ptr c lc 0 []] = some (cloB c lc) := by kernel_rfl
theorem tgt_mem (x : AV) : tgtA Go.Proofs.Tryz.prog .val [.fnv (.func 81) [] [], x] = some (81, [x]) := by kernel_rfl
theorem tgt_num (x y : AV) : tgtA Go.Proofs.Tryz.prog .val [.fnv (.func 78) [] [], x, y] = some (78, [x, y]) := by kernel_rfl
theorem tgt_key (x y : AV) : tgtA Go.Proofs.Tryz.prog .val [.fnv (.func 63) [] [], x, y] = some (63, [x, y]) := by kernel_rfl
theorem tgt_box (x y : AV) : tgtA Go.Proofs.Tryz.prog .val [.fnv (.func 83) [] [], x, y] = some (83, [x, y]) := by kernel_rfl
set_option maxHeartbeats 16000000 in
theorem boxes_call {o : OpV} (ho : OpOk o) (hbl : ∀ b ∈ o.boxes, b.body.length < 9223372036854775808) : PCall Go.Proofs.Tryz.prog 66 [opA o] (.val (.lit (.bool (boxesV o)))) := by
  have h527 := fc527_eq
  have hcC : callable Go.Proofs.Tryz.prog 85 = true := by kernel_rfl
  have cr : PCall Go.Proofs.Tryz.prog 84 [.st [1, 1] [.sl 36 (o.boxes.map fun x => boxA x), fnL 83]] _ := PCall.args (m := [.st [1, 1] [.sl 36 (o.boxes.map fun x => boxA x), .fnv (.func 83) [] []]]) ⟨RelLe.rowF _ _ _, trivial⟩ (risB_call (fn := .fnv (.func 83) [] []) (g := 83) (cmp := fun a b => cmpN a.to b.to) (l := o.boxes) tgt_box rfl (fun a _ b _ => boxCmp_call a b) ho.boxes)
  have cc := fun (H : List (Option Blk)) (lc : Nat × Nat) (hc : H[1]? = some (some (.box lc 71 (opA o)))) => conB_call (H := H) (clo := cloB 1 lc) (g := 86) (as' := fun x => [boxA x, .ptr 1 lc 0 []]) (p := badBox o) (l := o.boxes) (fun x => tgt_cloB _ _ _) rfl
    (fun L x hx => badBox_call (by rw [List.getElem?_append_left (List.getElem?_eq_some_iff.1 hc).1]; exact hc) x (hbl x hx)) ho.boxes
  have hml : (o.boxes.map fun x => boxA x).length = o.boxes.length := List.length_map _
  have hopA : opA o = .st [1, 1, 1, 1, 1, 32, 32, 1, 1] [.lit (ji o.author), .lit (wn o.seq), .sl 32 (klA o.parents), .lit (ji o.kind), .sl 1 (o.who.map fun x => AV.lit (ji x)), keyA o.ofk, keyA o.check, .lit (tx o.text), .sl 36 (o.boxes.map fun x => boxA x)] := rfl
  unfold boxesV
  generalize hris : risV (fun a b => cmpN a.to b.to) o.boxes = ris at *
  generalize hany : o.boxes.any (badBox o) = any at *
  obtain ⟨_, _, _, _, o5, o6, _, _, _⟩ := ho
  generalize (o.boxes.map fun x => boxA x) = T at *
  rw [hopA]
  rw [hopA] at cc
  refine PCall.of h527 rfl ?_; show AC.wp _ fb527 (AS.init [.st [1, 1, 1, 1, 1, 32, 32, 1, 1] [.lit (ji o.author), .lit (wn o.seq), .sl 32 (klA o.parents), .lit (ji o.kind), .sl 1 (o.who.map fun x => AV.lit (ji x)), keyA o.ofk, keyA o.check, .lit (tx o.text), .sl 36 T]] 1 20) (fun x s => match x with | .exit _ => False | _ => Fin [(.tmp 2)] s _); unfold fb527 AS.init
  refine wp_sg (areg_bx rfl (by simp [AS.ev, AV.sz]) fun l1 => areg_end (by simp [push_cast]; exact rfl) ?_)
  refine wp_sg ?_
  by_cases h8 : o.boxes.length ≤ 8
  · refine areg_run 8 (by simp [push_cast, hml, h8, o5, o6]; exact rfl) ?_
    refine areg_g (b := true) (by simp [AS.ev, AS.put]) (areg_ca (by simp [AS.ev, AS.coe, AS.put] <;> exact rfl) cr ?_)
    cases ris with
    | false =>
      refine areg_run 2 (by simp [push_cast]; exact rfl) ?_
      refine areg_run 3 (by simp [push_cast]; exact rfl) ?_
      refine areg_end (by simp [push_cast]; exact rfl) (wp_ret' ?_)
      exact fin_tmp (by simp [RVal, AS.ev, AS.coe, h8]) (by simp)
    | true =>
      refine areg_run 4 (by simp [push_cast, o5, o6]; exact rfl) ?_
      refine areg_g (b := true) (by simp [AS.ev, AS.put]) (areg_rdp (us := [.ptr 1 l1 0 []]) rfl (mkfn_cloB _ _) ?_)
      refine areg_run 0 (by simp [push_cast]; exact rfl) ?_
      refine areg_g (b := true) (by simp [AS.ev, AS.put]) (areg_xq (us := [.sl 36 T, cloB 1 l1]) rfl (by simp only [tgtA, tgtB, Option.bind_some, hcC, if_true]) (cc _ l1 rfl) ⟨_, _, rfl, rfl⟩ (fun r hp' _ t' ht' => by cases ht') ?_)
      rintro r H' ⟨rfl, rfl⟩
      refine areg_end (by simp [push_cast]; exact rfl) (wp_ret' ?_)
      exact fin_tmp (by simp [RVal, AS.ev, AS.coe, h8]) (by simp)
  · refine areg_run 5 (by simp [push_cast, hml, h8, o5, o6]; exact rfl) ?_
    refine areg_run 3 (by simp [push_cast]; exact rfl) ?_
    refine areg_run 3 (by simp [push_cast]; exact rfl) ?_
    refine areg_run 3 (by simp [push_cast]; exact rfl) ?_
    refine areg_end (by simp [push_cast]; exact rfl) (wp_ret' ?_)
    exact fin_tmp (by simp [RVal, AS.ev, AS.coe, h8]) (by simp)
set_option maxHeartbeats 16000000 in
theorem who_call {o : OpV} (ho : OpOk o) : PCall Go.Proofs.Tryz.prog 65 [opA o] (.val (.lit (.bool (whoV o)))) := by
  have h526 := fc526_eq
  have hcC : callable Go.Proofs.Tryz.prog 80 = true := by kernel_rfl
  have cr : PCall Go.Proofs.Tryz.prog 79 [.st [1, 1] [.sl 1 (o.who.map fun x => AV.lit (ji x)), fnL 78]] _ := PCall.args (m := [.st [1, 1] [.sl 1 (o.who.map fun x => AV.lit (ji x)), .fnv (.func 78) [] []]]) ⟨RelLe.rowF _ _ _, trivial⟩ (risN_call (fn := .fnv (.func 78) [] []) (g := 78) (cmp := cmpN) (l := o.who) tgt_num rfl (fun a _ b _ => byNumber_call a b) ho.who)
  have cc := fun H => XCall.args (l := [.sl 1 (o.who.map fun x => AV.lit (ji x)), fnL 81]) (m := [.sl 1 (o.who.map fun x => AV.lit (ji x)), .fnv (.func 81) [] []]) ⟨RelLe.refl _, RelLe.fn _, trivial⟩ (conN_call (H := H) (clo := .fnv (.func 81) [] []) (g := 81) (as' := fun x => [.lit (ji x)]) (p := fun n => !memB n) (l := o.who) (fun x => tgt_mem _) rfl
    (fun L x hx => PCall.x _ (notmember_call x)) ho.who)
  have cin := containsN_call (v := o.author) (l := o.who) ho.who
  have hml : (o.who.map fun x => AV.lit (ji x)).length = o.who.length := List.length_map _
  have hopA : opA o = .st [1, 1, 1, 1, 1, 32, 32, 1, 1] [.lit (ji o.author), .lit (wn o.seq), .sl 32 (klA o.parents), .lit (ji o.kind), .sl 1 (o.who.map fun x => AV.lit (ji x)), keyA o.ofk, keyA o.check, .lit (tx o.text), .sl 36 (o.boxes.map fun x => boxA x)] := rfl
  have hhd : ∀ h : 0 < o.who.length, (o.who.map fun x => AV.lit (ji x))[0]? = some (.lit (ji (o.who.getD 0 0))) := fun h => by
    rw [List.getElem?_map, List.getElem?_eq_getElem h, List.getD_eq_getElem?_getD, List.getElem?_eq_getElem h]; rfl
  obtain ⟨_, _, _, hw, o5, o6, _, _, _⟩ := ho
  unfold whoV
  generalize risV cmpN o.who = ris at *
  generalize (o.who.any fun n => !memB n) = any at *
  generalize (o.who.any fun x => decide (o.author = x)) = cin0 at *
  generalize o.who.getD 0 0 = w0 at *
  generalize (o.who.map fun x => AV.lit (ji x)) = T at *
  rw [hopA]
  generalize hau : o.author = au at *
  generalize hkd : o.kind = kd at *
  refine PCall.of h526 rfl ?_; show AC.wp _ fb526 (AS.init [.st [1, 1, 1, 1, 1, 32, 32, 1, 1] [.lit (ji au), .lit (wn o.seq), .sl 32 (klA o.parents), .lit (ji kd), .sl 1 T, keyA o.ofk, keyA o.check, .lit (tx o.text), .sl 36 (o.boxes.map fun x => boxA x)]] 1 42) (fun x s => match x with | .exit _ => False | _ => Fin [(.tmp 2)] s _); unfold fb526 AS.init
  refine wp_sg (areg_bx rfl (by simp [AS.ev, AV.sz]) fun l1 => areg_end (by simp [push_cast]; exact rfl) ?_)
  refine wp_seq' (wp_seq' (wp_rg ?_))
  refine areg_run 3 (by simp [push_cast, o5, o6]; exact rfl) ?_
  refine areg_ca (by simp [AS.ev, AS.coe, AS.put] <;> exact rfl) cr ?_
  cases ris with
  | false =>
    refine areg_run 2 (by simp [push_cast]; exact rfl) ?_
    refine areg_run 3 (by simp [push_cast]; exact rfl) ?_
    refine areg_end (by simp [push_cast]; exact rfl) ?_
    refine wp_cond_t (by simp [AS.ev]) (wp_sr (by simp [push_cast]; exact rfl) (wp_ret' ?_))
    exact fin_tmp (by simp [RVal, AS.ev, AS.coe]) (by simp)
  | true =>
    refine areg_run 4 (by simp [push_cast, o5, o6]; exact rfl) ?_
    refine areg_g (b := false) (by simp [AS.ev, AS.put]) (areg_xq (us := [.sl 1 T, fnL 81]) rfl (by simp only [tgtA, tgtB, Option.bind_some, hcC, if_true]) (cc _) ⟨_, _, rfl, rfl⟩ (fun r hp' _ t' ht' => by cases ht') ?_)
    rintro r H' ⟨rfl, rfl⟩
    refine areg_end (by simp [push_cast]; exact rfl) ?_
    cases any with
    | true =>
      refine wp_cond_t (by simp [AS.ev]) (wp_sr (by simp [push_cast]; exact rfl) (wp_ret' ?_))
      exact fin_tmp (by simp [RVal, AS.ev, AS.coe]) (by simp)
    | false =>
      refine wp_cond_f (by simp [AS.ev]) (wp_skip' ?_)
      simp only [Bool.not_true, Bool.or_self, Bool.false_eq_true, if_false]
      refine wp_seq' (wp_sr (by simp [push_cast, o5, o6]; exact rfl) (wp_block' ?_))
      by_cases k1 : kd = 1
      · refine wp_sr (by simp [push_cast, k1]; exact rfl) (wp_cond_t (by simp [AS.ev, k1]) ?_)
        refine wp_sg ?_
        refine areg_run 4 (by simp [push_cast, o5, o6]; exact rfl) ?_
        refine areg_lc (by simp [AS.ev, AS.lend, AS.lendF, AS.put, AOp.ro, AS.blk] <;> exact rfl) rfl cin ?_
        refine areg_end (by simp [push_cast]; exact rfl) (wp_ret' ?_)
        rw [if_pos k1]
        exact fin_tmp (by simp [RVal, AS.ev, AS.coe]) (by simp)
      · rw [if_neg k1]
        refine wp_sr (by simp [push_cast]; exact rfl) (wp_cond_f (by simp [AS.ev, k1]) ?_)
        have key : ∀ b : Bool, b = decide (kd = 2 ∨ kd = 3) → True := fun _ _ => trivial
        by_cases k23 : kd = 2 ∨ kd = 3
        · rw [if_pos k23]
          have hfin : ∀ (s : AS), s = s → True := fun _ _ => trivial
          have step : ∀ (b2 b3 : Bool), True := fun _ _ => trivial
          by_cases hl1 : o.who.length = 1
          · have h0 := hhd (by omega)
            have h0' : ∀ h, T[0]'h = .lit (ji w0) := fun h => by rw [List.getElem?_eq_getElem h] at h0; exact Option.some.inj h0
            rcases k23 with k2 | k3
            · refine wp_seq' (wp_seq' (wp_r (by simp [push_cast, k2]; exact rfl) (wp_cond_t (by simp [AS.ev, k2]) (wp_skip' ?_))))
              refine wp_cond_t (by simp [AS.ev]) ?_
              refine wp_sg ?_
              refine areg_run 5 (by simp [push_cast, hml, hl1, o5, o6]; exact rfl) ?_
              refine areg_end (by simp [push_cast, hml, hl1, o5, o6, h0, h0']; exact rfl) (wp_ret' ?_)
              exact fin_tmp (by simp [RVal, AS.ev, AS.coe, hl1]) (by simp)
            · have k2 : ¬ kd = 2 := by omega
              refine wp_seq' (wp_seq' (wp_r (by simp [push_cast, k2]; exact rfl) (wp_cond_f (by simp [AS.ev, k2]) (wp_r (by simp [push_cast, k3]; exact rfl) ?_))))
              refine wp_cond_t (by simp [AS.ev]) ?_
              refine wp_sg ?_
              refine areg_run 5 (by simp [push_cast, hml, hl1, o5, o6]; exact rfl) ?_
              refine areg_end (by simp [push_cast, hml, hl1, o5, o6, h0, h0']; exact rfl) (wp_ret' ?_)
              exact fin_tmp (by simp [RVal, AS.ev, AS.coe, hl1]) (by simp)
          · rcases k23 with k2 | k3
            · refine wp_seq' (wp_seq' (wp_r (by simp [push_cast, k2]; exact rfl) (wp_cond_t (by simp [AS.ev, k2]) (wp_skip' ?_))))
              refine wp_cond_t (by simp [AS.ev]) ?_
              refine wp_sg ?_
              refine areg_run 5 (by simp [push_cast, hml, hl1, o5, o6]; exact rfl) ?_
              refine areg_run 4 (by simp [push_cast]; exact rfl) ?_
              refine areg_end (by simp [push_cast]; exact rfl) (wp_ret' ?_)
              exact fin_tmp (by simp [RVal, AS.ev, AS.coe, hl1]) (by simp)
            · have k2 : ¬ kd = 2 := by omega
              refine wp_seq' (wp_seq' (wp_r (by simp [push_cast, k2]; exact rfl) (wp_cond_f (by simp [AS.ev, k2]) (wp_r (by simp [push_cast, k3]; exact rfl) ?_))))
              refine wp_cond_t (by simp [AS.ev]) ?_
              refine wp_sg ?_
              refine areg_run 5 (by simp [push_cast, hml, hl1, o5, o6]; exact rfl) ?_
              refine areg_run 4 (by simp [push_cast]; exact rfl) ?_
              refine areg_end (by simp [push_cast]; exact rfl) (wp_ret' ?_)
              exact fin_tmp (by simp [RVal, AS.ev, AS.coe, hl1]) (by simp)
        · have k2 : ¬ kd = 2 := fun h => k23 (.inl h)
          have k3 : ¬ kd = 3 := fun h => k23 (.inr h)
          rw [if_neg k23]
          refine wp_seq' (wp_seq' (wp_r (by simp [push_cast, k2]; exact rfl) (wp_cond_f (by simp [AS.ev, k2]) (wp_r (by simp [push_cast, k3]; exact rfl) ?_))))
          refine wp_cond_f (by simp [AS.ev, k3]) (wp_skip' ?_)
          refine wp_sr (by simp [push_cast, hml, o5, o6]; exact rfl) (wp_ret' ?_)
          exact fin_tmp (by simp [RVal, AS.ev, AS.coe]) (by simp)
end Go.Cab
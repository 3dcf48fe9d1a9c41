/- Part 9 of what the proof stands on: H3, H4, H5. -/
import Derived.Test.YtbioecfkifbkbaaGreatDoorCab08
import Derived.Test.YtbioecfkifbkbaaGreatDoorCab07
set_option linter.unusedSimpArgs false
set_option linter.unnecessarySimpa false
set_option linter.unusedVariables false
set_option linter.unusedSectionVars false
namespace Go.Cab
open Classical
def fb520 : AC := (.seq (.reg [⟨some 1, none, .box 71 (.tmp 0), [], none⟩, ⟨some 2, none, .mov (.const (.bool false)), [], none⟩]) (.seq (.reg [⟨some 7, none, .build (.arr 1 (List.replicate 32 (.lit (bn 0)))) [], [], none⟩, ⟨some 3, none, .alloc 32 (.arr 1 (List.replicate 32 (.lit (bn 0)))), [], none⟩, ⟨none, none, .store 32 (.tmp 3) (.tmp 7), [], none⟩]) (.seq (.reg [⟨some 8, none, .faddr 3 3 (.tmp 1), [], none⟩, ⟨some 9, none, .load false 1 (.tmp 8), [], none⟩, ⟨some 10, none, .bin .eql (.tmp 9) (.const (jn 5)), [], none⟩, ⟨some 11, none, .mov (.tmp 10), [], none⟩, ⟨some 12, some (11, false), .faddr 3 3 (.tmp 1), [], none⟩, ⟨some 13, some (11, false), .load false 1 (.tmp 12), [], none⟩, ⟨some 14, some (11, false), .bin .eql (.tmp 13) (.const (jn 6)), [], none⟩, ⟨some 15, none, .pick (.tmp 11) (.const (.bool true)) (.tmp 14), [], none⟩, ⟨some 16, none, .faddr 3 3 (.tmp 1), [], none⟩, ⟨some 17, none, .load false 1 (.tmp 16), [], none⟩, ⟨some 18, none, .bin .eql (.tmp 17) (.const (jn 7)), [], none⟩, ⟨some 19, none, .faddr 3 3 (.tmp 1), [], none⟩, ⟨some 20, none, .load false 1 (.tmp 19), [], none⟩, ⟨some 21, none, .bin .eql (.tmp 20) (.const (jn 1)), [], none⟩, ⟨some 4, none, .mov (.tmp 15), [], none⟩, ⟨some 5, none, .mov (.tmp 18), [], none⟩, ⟨some 6, none, .mov (.tmp 21), [], none⟩]) (.seq (.block 0 (.seq (.reg [⟨some 23, none, .faddr 0 0 (.tmp 1), [], none⟩, ⟨some 24, none, .load false 1 (.tmp 23), [], none⟩, ⟨some 25, none, .call 62 [.tmp 24], [], none⟩, ⟨some 26, none, .un .not (.tmp 25), [], none⟩, ⟨some 27, none, .mov (.tmp 26), [], none⟩, ⟨some 28, some (27, false), .faddr 1 1 (.tmp 1), [], none⟩, ⟨some 29, some (27, false), .load false 1 (.tmp 28), [], none⟩, ⟨some 30, some (27, false), .bin .eql (.tmp 29) (.const (wn 0)), [], none⟩, ⟨some 31, none, .pick (.tmp 27) (.const (.bool true)) (.tmp 30), [], none⟩, ⟨some 32, none, .mov (.tmp 31), [], none⟩, ⟨some 33, some (32, false), .faddr 3 3 (.tmp 1), [], none⟩, ⟨some 34, some (32, false), .load false 1 (.tmp 33), [], none⟩, ⟨some 35, some (32, false), .bin .lss (.tmp 34) (.const (jn 1)), [], none⟩, ⟨some 36, none, .pick (.tmp 32) (.const (.bool true)) (.tmp 35), [], none⟩, ⟨some 37, none, .mov (.tmp 36), [], none⟩, ⟨some 38, some (37, false), .faddr 3 3 (.tmp 1), [], none⟩, ⟨some 39, some (37, false), .load false 1 (.tmp 38), [], none⟩, ⟨some 40, some (37, false), .bin .gtr (.tmp 39) (.const (jn 7)), [], none⟩, ⟨some 41, none, .pick (.tmp 37) (.const (.bool true)) (.tmp 40), [], none⟩, ⟨some 22, none, .mov (.tmp 41), [], none⟩]) (.cond (.tmp 22) (.seq (.reg [⟨some 2, none, .mov (.const (.bool false)), [], none⟩]) .ret) (.seq (.reg [⟨some 43, none, .faddr 2 2 (.tmp 1), [], none⟩, ⟨some 44, none, .load false 1 (.tmp 43), [], none⟩, ⟨some 45, none, .len false (.tmp 44), [], none⟩, ⟨some 46, none, .bin .gtr (.tmp 45) (.const (jn 8)), [], none⟩, ⟨some 47, none, .mov (.tmp 46), [], none⟩, ⟨some 48, some (47, false), .faddr 2 2 (.tmp 1), [], none⟩, ⟨some 49, some (47, false), .load false 1 (.tmp 48), [], none⟩, ⟨some 50, some (47, false), .build (.st [1, 1] [(.lit (.slice .none 0 0)), (.lit .nilFunc)]) [(0, (.tmp 49)), (1, (.func 63))], [], none⟩, ⟨some 51, some (47, false), .call 64 [.tmp 50], [], none⟩, ⟨some 52, some (47, false), .un .not (.tmp 51), [], none⟩, ⟨some 53, none, .pick (.tmp 47) (.const (.bool true)) (.tmp 52), [], none⟩, ⟨some 54, none, .mov (.tmp 53), [], none⟩, ⟨some 55, some (54, false), .mov (.tmp 6), [], none⟩, ⟨some 56, some (54, false), .faddr 2 2 (.tmp 1), [], none⟩, ⟨some 57, some (54, false), .load false 1 (.tmp 56), [], none⟩, ⟨some 58, some (54, false), .len false (.tmp 57), [], none⟩, ⟨some 59, some (54, false), .bin .eql (.tmp 58) (.const (jn 0)), [], none⟩, ⟨some 60, some (54, false), .beq true (.tmp 55) (.tmp 59), [], none⟩, ⟨some 61, none, .pick (.tmp 54) (.const (.bool true)) (.tmp 60), [], none⟩, ⟨some 62, none, .mov (.tmp 61), [], none⟩, ⟨some 63, some (62, false), .mov (.tmp 6), [], none⟩, ⟨some 64, some (62, false), .mov (.tmp 63), [], none⟩, ⟨some 65, some (64, true), .faddr 1 1 (.tmp 1), [], none⟩, ⟨some 66, some (64, true), .load false 1 (.tmp 65), [], none⟩, ⟨some 67, some (64, true), .bin .neq (.tmp 66) (.const (wn 1)), [], none⟩, ⟨some 68, some (62, false), .pick (.tmp 64) (.tmp 67) (.const (.bool false)), [], none⟩, ⟨some 69, none, .pick (.tmp 62) (.const (.bool true)) (.tmp 68), [], none⟩, ⟨some 42, none, .mov (.tmp 69), [], none⟩]) (.cond (.tmp 42) (.seq (.reg [⟨some 2, none, .mov (.const (.bool false)), [], none⟩]) .ret) (.seq (.reg [⟨some 71, none, .mov (.tmp 4), [], none⟩, ⟨some 72, none, .faddr 5 5 (.tmp 1), [], none⟩, ⟨some 73, none, .load true 32 (.tmp 72), [], none⟩, ⟨some 74, none, .load true 32 (.tmp 3), [], none⟩, ⟨some 75, none, .eqv 23 true (.tmp 73) (.tmp 74), [], none⟩, ⟨some 76, none, .beq true (.tmp 71) (.tmp 75), [], none⟩, ⟨some 77, none, .mov (.tmp 76), [], none⟩, ⟨some 78, some (77, false), .mov (.tmp 5), [], none⟩, ⟨some 79, some (77, false), .faddr 37 6 (.tmp 1), [], none⟩, ⟨some 80, some (77, false), .load true 32 (.tmp 79), [], none⟩, ⟨some 81, some (77, false), .load true 32 (.tmp 3), [], none⟩, ⟨some 82, some (77, false), .eqv 23 true (.tmp 80) (.tmp 81), [], none⟩, ⟨some 83, some (77, false), .beq false (.tmp 78) (.tmp 82), [], none⟩, ⟨some 84, none, .pick (.tmp 77) (.const (.bool true)) (.tmp 83), [], none⟩, ⟨some 85, none, .mov (.tmp 84), [], none⟩, ⟨some 86, some (85, false), .mov (.tmp 5), [], none⟩, ⟨some 87, some (85, false), .faddr 69 7 (.tmp 1), [], none⟩, ⟨some 88, some (85, false), .load false 1 (.tmp 87), [], none⟩, ⟨some 89, some (85, false), .len true (.tmp 88), [], none⟩, ⟨some 90, some (85, false), .bin .gtr (.tmp 89) (.const (jn 0)), [], none⟩, ⟨some 91, some (85, false), .beq true (.tmp 86) (.tmp 90), [], none⟩, ⟨some 92, none, .pick (.tmp 85) (.const (.bool true)) (.tmp 91), [], none⟩, ⟨some 93, none, .mov (.tmp 92), [], none⟩, ⟨some 94, some (93, false), .faddr 69 7 (.tmp 1), [], none⟩, ⟨some 95, some (93, false), .load false 1 (.tmp 94), [], none⟩, ⟨some 96, some (93, false), .len true (.tmp 95), [], none⟩, ⟨some 97, some (93, false), .bin .gtr (.tmp 96) (.const (jn 256)), [], none⟩, ⟨some 98, none, .pick (.tmp 93) (.const (.bool true)) (.tmp 97), [], none⟩, ⟨some 70, none, .mov (.tmp 98), [], none⟩]) (.cond (.tmp 70) (.seq (.reg [⟨some 2, none, .mov (.const (.bool false)), [], none⟩]) .ret) .skip))))))) (.seq (.reg [⟨some 99, none, .load true 71 (.tmp 1), [], none⟩, ⟨some 100, none, .call 65 [.tmp 99], [], none⟩, ⟨some 101, none, .mov (.tmp 100), [], none⟩, ⟨some 102, some (101, true), .load true 71 (.tmp 1), [], none⟩, ⟨some 103, some (101, true), .call 66 [.tmp 102], [], none⟩, ⟨some 104, none, .pick (.tmp 101) (.tmp 103) (.const (.bool false)), [], none⟩, ⟨some 2, none, .mov (.tmp 104), [], none⟩]) .ret)))))
def fc520 : FC := ⟨1, 105, [(.tmp 2)], fb520⟩
theorem fc520_eq : compF Go.Proofs.Tryz.prog 43 = some fc520 := by kernel_rfl
def fb517 : AC := (.seq (.reg [⟨some 1, none, .box 71 (.tmp 0), [], none⟩, ⟨some 2, none, .mov (.const (.bool false)), [], none⟩]) (.seq (.reg [⟨some 3, none, .load true 71 (.tmp 1), [], none⟩, ⟨some 4, none, .call 43 [.tmp 3], [], none⟩, ⟨some 5, none, .mov (.tmp 4), [], none⟩, ⟨some 6, some (5, true), .faddr 3 3 (.tmp 1), [], none⟩, ⟨some 7, some (5, true), .load false 1 (.tmp 6), [], none⟩, ⟨some 8, some (5, true), .bin .eql (.tmp 7) (.const (jn 7)), [], none⟩, ⟨some 9, none, .pick (.tmp 5) (.tmp 8) (.const (.bool false)), [], none⟩, ⟨some 2, none, .mov (.tmp 9), [], none⟩]) .ret))
def fc517 : FC := ⟨1, 10, [(.tmp 2)], fb517⟩
theorem fc517_eq : compF Go.Proofs.Tryz.prog 24 = some fc517 := by kernel_rfl
theorem bin_eqlw (a b : Nat) : binVal .eql (wn a) (wn b) = some (.bool (decide (a = b))) := by
  simp only [binVal, wn, ne_eq, not_true_eq_false, if_false, Option.some.injEq, Value.bool.injEq]; rw [Bool.eq_iff_iff]; simp; try omega
theorem bin_neqw (a b : Nat) : binVal .neq (wn a) (wn b) = some (.bool (decide (a ≠ b))) := by
  simp only [binVal, wn, ne_eq, not_true_eq_false, if_false, Option.some.injEq, Value.bool.injEq]; rw [Bool.eq_iff_iff]; simp; try omega
attribute [push_cast] bin_eqlw bin_neqw
def c1V (o : OpV) : Bool := decide (memB o.author = false ∨ o.seq = 0 ∨ o.kind < 1 ∨ 7 < o.kind)
def c2V (o : OpV) : Bool := decide (8 < o.parents.length ∨ risV Go.Lib.compareBytes o.parents = false ∨ ¬ (o.kind = 1 ↔ o.parents.length = 0) ∨ (o.kind = 1 ∧ o.seq ≠ 1))
def c3V (o : OpV) : Bool := decide (¬ ((o.kind = 5 ∨ o.kind = 6) ↔ o.ofk ≠ zk) ∨ (o.kind = 7 ↔ o.check ≠ zk) ∨ ¬ (o.kind = 7 ↔ 0 < o.text.length) ∨ 256 < o.text.length)
def rightV (o : OpV) : Bool := !c1V o && !c2V o && !c3V o && (whoV o && boxesV o)
def rtS (A : AV) (l1 l3 : Nat × Nat) (y : Bool × Bool × Bool) : AS :=
  ⟨0, [A, .ptr 1 l1 0 [], .lit (.bool false), .ptr 3 l3 0 [], .lit (.bool y.1), .lit (.bool y.2.1), .lit (.bool y.2.2)] ++ List.replicate 98 .any, [none, some (.box l1 71 A), none, some (.box l3 32 (keyA zk))] ++ List.replicate 101 none⟩
def rtC (A : AV) (l1 l3 : Nat × Nat) (y : Bool × Bool × Bool) (i j : Nat) (c : Bool) : AS :=
  ⟨0, [A, .ptr 1 l1 0 [], .lit (.bool false), .ptr 3 l3 0 [], .lit (.bool y.1), .lit (.bool y.2.1), .lit (.bool y.2.2)] ++ List.replicate i .any ++ [.lit (.bool c)] ++ List.replicate j .any, [none, some (.box l1 71 A), none, some (.box l3 32 (keyA zk))] ++ List.replicate 101 none⟩
def opB (au : Int) (sq : Nat) (ps : List (List UInt8)) (kd : Int) (W : List AV) (ofk check text : List UInt8) (B : List AV) : AV := .st [1, 1, 1, 1, 1, 32, 32, 1, 1] [.lit (ji au), .lit (wn sq), .sl 32 (klA ps), .lit (ji kd), .sl 1 W, keyA ofk, keyA check, .lit (tx text), .sl 36 B]
section
variable {au kd : Int} {sq pn tl : Nat} {ps : List (List UInt8)} {W B : List AV} {ofk check text : List UInt8} {l1 l3 : Nat × Nat} {mem ris : Bool}
set_option maxHeartbeats 16000000 in
theorem chain1 {Q : AX → AS → Prop} {y : Bool × Bool × Bool} {b : AC} (o5 : ofk.length = 32) (o6 : check.length = 32) (cm : PCall Go.Proofs.Tryz.prog 62 [.lit (ji au)] (.val (.lit (.bool mem))))
    (k : ∀ c, c = decide (mem = false ∨ sq = 0 ∨ kd < 1 ∨ 7 < kd) → b.wp Go.Proofs.Tryz.prog (rtC (opB au sq ps kd W ofk check text B) l1 l3 y 15 82 c) Q) : (AC.seq (.reg [⟨(.some 23), .none, (.faddr 0 0 (.tmp 1)), [], .none⟩, ⟨(.some 24), .none, (.load .false 1 (.tmp 23)), [], .none⟩, ⟨(.some 25), .none, (.call 62 [(.tmp 24)]), [], .none⟩, ⟨(.some 26), .none, (.un .not (.tmp 25)), [], .none⟩, ⟨(.some 27), .none, (.mov (.tmp 26)), [], .none⟩, ⟨(.some 28), (.some (27, .false)), (.faddr 1 1 (.tmp 1)), [], .none⟩, ⟨(.some 29), (.some (27, .false)), (.load .false 1 (.tmp 28)), [], .none⟩, ⟨(.some 30), (.some (27, .false)), (.bin .eql (.tmp 29) (.const (wn 0))), [], .none⟩, ⟨(.some 31), .none, (.pick (.tmp 27) (.const (.bool .true)) (.tmp 30)), [], .none⟩, ⟨(.some 32), .none, (.mov (.tmp 31)), [], .none⟩, ⟨(.some 33), (.some (32, .false)), (.faddr 3 3 (.tmp 1)), [], .none⟩, ⟨(.some 34), (.some (32, .false)), (.load .false 1 (.tmp 33)), [], .none⟩, ⟨(.some 35), (.some (32, .false)), (.bin .lss (.tmp 34) (.const (jn 1))), [], .none⟩, ⟨(.some 36), .none, (.pick (.tmp 32) (.const (.bool .true)) (.tmp 35)), [], .none⟩, ⟨(.some 37), .none, (.mov (.tmp 36)), [], .none⟩, ⟨(.some 38), (.some (37, .false)), (.faddr 3 3 (.tmp 1)), [], .none⟩, ⟨(.some 39), (.some (37, .false)), (.load .false 1 (.tmp 38)), [], .none⟩, ⟨(.some 40), (.some (37, .false)), (.bin .gtr (.tmp 39) (.const (jn 7))), [], .none⟩, ⟨(.some 41), .none, (.pick (.tmp 37) (.const (.bool .true)) (.tmp 40)), [], .none⟩, ⟨(.some 22), .none, (.mov (.tmp 41)), [], .none⟩]) b).wp Go.Proofs.Tryz.prog (rtS (opB au sq ps kd W ofk check text B) l1 l3 y) Q := by
  refine wp_seqM (fun c => rtC (opB au sq ps kd W ofk check text B) l1 l3 y 15 82 c) (fun c => c = decide (mem = false ∨ sq = 0 ∨ kd < 1 ∨ 7 < kd)) k (wp_rg ?_)
  unfold rtS opB
  refine areg_run 2 (by simp [push_cast, o5, o6]; exact rfl) ?_
  refine areg_ca (by simp [AS.ev, AS.coe, AS.put] <;> exact rfl) cm ?_
  cases mem with
  | false =>
    refine areg_run 2 (by simp [push_cast]; exact rfl) ?_
    refine areg_run 5 (by simp [push_cast]; exact rfl) ?_
    refine areg_run 5 (by simp [push_cast]; exact rfl) ?_
    refine areg_end (by simp [push_cast]; exact rfl) ?_
    refine ⟨true, by simp, Le.mk rfl (by simp [rtC, leT, keyA, opB]) (by simp [rtC, leH, keyA, opB])⟩
  | true =>
  by_cases a2 : sq = 0
  · refine areg_run 6 (by simp [push_cast, o5, o6, a2]; exact rfl) ?_
    refine areg_run 5 (by simp [push_cast]; exact rfl) ?_
    refine areg_end (by simp [push_cast]; exact rfl) ?_
    refine ⟨true, by simp [a2], Le.mk rfl (by simp [rtC, leT, keyA, opB, a2]) (by simp [rtC, leH, keyA, opB, a2])⟩
  by_cases a3 : kd < 1
  · refine areg_run 6 (by simp [push_cast, o5, o6, a2]; exact rfl) ?_
    refine areg_run 6 (by simp [push_cast, o5, o6, a3]; exact rfl) ?_
    refine areg_end (by simp [push_cast]; exact rfl) ?_
    refine ⟨true, by simp [a3], Le.mk rfl (by simp [rtC, leT, keyA, opB]) (by simp [rtC, leH, keyA, opB])⟩
  by_cases a4 : 7 < kd
  · refine areg_run 6 (by simp [push_cast, o5, o6, a2]; exact rfl) ?_
    refine areg_run 6 (by simp [push_cast, o5, o6, a3]; exact rfl) ?_
    refine areg_end (by simp [push_cast, o5, o6, a4]; exact rfl) ?_
    refine ⟨true, by simp [a4], Le.mk rfl (by simp [rtC, leT, keyA, opB]) (by simp [rtC, leH, keyA, opB])⟩
  refine areg_run 6 (by simp [push_cast, o5, o6, a2]; exact rfl) ?_
  refine areg_run 6 (by simp [push_cast, o5, o6, a3]; exact rfl) ?_
  refine areg_end (by simp [push_cast, o5, o6, a4]; exact rfl) ?_
  refine ⟨false, by simp [a2, a3, a4], Le.mk rfl (by simp [rtC, leT, keyA, opB]) (by simp [rtC, leH, keyA, opB])⟩
set_option maxHeartbeats 16000000 in
theorem chain2 {Q : AX → AS → Prop} {b : AC} {ac sa : Bool} {c0 : Bool} (hpl : (klA ps).length = pn) (o5 : ofk.length = 32) (o6 : check.length = 32) (cr : PCall Go.Proofs.Tryz.prog 64 [.st [1, 1] [.sl 32 (klA ps), fnL 63]] (.val (.lit (.bool ris))))
    (k : ∀ c, c = decide (8 < pn ∨ ris = false ∨ ¬ (kd = 1 ↔ pn = 0) ∨ (kd = 1 ∧ sq ≠ 1)) → b.wp Go.Proofs.Tryz.prog (rtC (opB au sq ps kd W ofk check text B) l1 l3 (ac, sa, decide (kd = 1)) 35 62 c) Q) : (AC.seq (.reg [⟨(.some 43), .none, (.faddr 2 2 (.tmp 1)), [], .none⟩, ⟨(.some 44), .none, (.load .false 1 (.tmp 43)), [], .none⟩, ⟨(.some 45), .none, (.len .false (.tmp 44)), [], .none⟩, ⟨(.some 46), .none, (.bin .gtr (.tmp 45) (.const (jn 8))), [], .none⟩, ⟨(.some 47), .none, (.mov (.tmp 46)), [], .none⟩, ⟨(.some 48), (.some (47, .false)), (.faddr 2 2 (.tmp 1)), [], .none⟩, ⟨(.some 49), (.some (47, .false)), (.load .false 1 (.tmp 48)), [], .none⟩, ⟨(.some 50), (.some (47, .false)), (.build (.st [1, 1] [(.lit (.slice .none 0 0)), (.lit .nilFunc)]) [(0, (.tmp 49)), (1, (.func 63))]), [], .none⟩, ⟨(.some 51), (.some (47, .false)), (.call 64 [(.tmp 50)]), [], .none⟩, ⟨(.some 52), (.some (47, .false)), (.un .not (.tmp 51)), [], .none⟩, ⟨(.some 53), .none, (.pick (.tmp 47) (.const (.bool .true)) (.tmp 52)), [], .none⟩, ⟨(.some 54), .none, (.mov (.tmp 53)), [], .none⟩, ⟨(.some 55), (.some (54, .false)), (.mov (.tmp 6)), [], .none⟩, ⟨(.some 56), (.some (54, .false)), (.faddr 2 2 (.tmp 1)), [], .none⟩, ⟨(.some 57), (.some (54, .false)), (.load .false 1 (.tmp 56)), [], .none⟩, ⟨(.some 58), (.some (54, .false)), (.len .false (.tmp 57)), [], .none⟩, ⟨(.some 59), (.some (54, .false)), (.bin .eql (.tmp 58) (.const (jn 0))), [], .none⟩, ⟨(.some 60), (.some (54, .false)), (.beq .true (.tmp 55) (.tmp 59)), [], .none⟩, ⟨(.some 61), .none, (.pick (.tmp 54) (.const (.bool .true)) (.tmp 60)), [], .none⟩, ⟨(.some 62), .none, (.mov (.tmp 61)), [], .none⟩, ⟨(.some 63), (.some (62, .false)), (.mov (.tmp 6)), [], .none⟩, ⟨(.some 64), (.some (62, .false)), (.mov (.tmp 63)), [], .none⟩, ⟨(.some 65), (.some (64, .true)), (.faddr 1 1 (.tmp 1)), [], .none⟩, ⟨(.some 66), (.some (64, .true)), (.load .false 1 (.tmp 65)), [], .none⟩, ⟨(.some 67), (.some (64, .true)), (.bin .neq (.tmp 66) (.const (wn 1))), [], .none⟩, ⟨(.some 68), (.some (62, .false)), (.pick (.tmp 64) (.tmp 67) (.const (.bool .false))), [], .none⟩, ⟨(.some 69), .none, (.pick (.tmp 62) (.const (.bool .true)) (.tmp 68)), [], .none⟩, ⟨(.some 42), .none, (.mov (.tmp 69)), [], .none⟩]) b).wp Go.Proofs.Tryz.prog (rtC (opB au sq ps kd W ofk check text B) l1 l3 (ac, sa, decide (kd = 1)) 15 82 c0) Q := by
  refine wp_seqM (fun c => rtC (opB au sq ps kd W ofk check text B) l1 l3 (ac, sa, decide (kd = 1)) 35 62 c) (fun c => c = decide (8 < pn ∨ ris = false ∨ ¬ (kd = 1 ↔ pn = 0) ∨ (kd = 1 ∧ sq ≠ 1))) k (wp_rg ?_)
  simp only [rtC, opB]
  by_cases b1 : 8 < pn
  · refine areg_run 5 (by simp [push_cast, hpl, o5, o6, b1]; exact rfl) ?_
    refine areg_run 5 (by simp [push_cast]; exact rfl) ?_
    refine areg_run 5 (by simp [push_cast]; exact rfl) ?_
    refine areg_run 5 (by simp [push_cast]; exact rfl) ?_
    refine areg_run 5 (by simp [push_cast]; exact rfl) ?_
    refine areg_end (by simp [push_cast]; exact rfl) ?_
    refine ⟨true, by simp [b1], Le.mk rfl (by simp [rtC, leT, keyA, opB]) (by simp [rtC, leH, keyA, opB])⟩
  refine areg_run 8 (by simp [push_cast, hpl, o5, o6, b1]; exact rfl) ?_
  refine areg_g (b := false) (by simp [AS.ev, AS.put]) (areg_ca (by simp [AS.ev, AS.coe, AS.put] <;> exact rfl) cr ?_)
  cases ris with
  | false =>
    refine areg_run 3 (by simp [push_cast]; exact rfl) ?_
    refine areg_run 5 (by simp [push_cast]; exact rfl) ?_
    refine areg_run 5 (by simp [push_cast]; exact rfl) ?_
    refine areg_end (by simp [push_cast]; exact rfl) ?_
    refine ⟨true, by simp, Le.mk rfl (by simp [rtC, leT, keyA, opB]) (by simp [rtC, leH, keyA, opB])⟩
  | true =>
  by_cases b2 : kd = 1
  · subst b2
    by_cases b3 : pn = 0
    · by_cases b4 : sq = 1
      · subst b4
        refine areg_run 10 (by simp [push_cast, hpl, o5, o6, b3]; exact rfl) ?_
        refine areg_end (by simp [push_cast, o5, o6]; exact rfl) ?_
        refine ⟨false, by simp [b1, b3], Le.mk rfl (by simp [rtC, leT, keyA, opB]) (by simp [rtC, leH, keyA, opB])⟩
      · refine areg_run 10 (by simp [push_cast, hpl, o5, o6, b3]; exact rfl) ?_
        refine areg_end (by simp [push_cast, o5, o6, b4]; exact rfl) ?_
        refine ⟨true, by simp [b4], Le.mk rfl (by simp [rtC, leT, keyA, opB]) (by simp [rtC, leH, keyA, opB])⟩
    · refine areg_run 10 (by simp [push_cast, hpl, o5, o6, b3]; exact rfl) ?_
      refine areg_run 4 (by simp [push_cast]; exact rfl) ?_
      refine areg_end (by simp [push_cast]; exact rfl) ?_
      refine ⟨true, by simp [b3], Le.mk rfl (by simp [rtC, leT, keyA, opB]) (by simp [rtC, leH, keyA, opB])⟩
  · by_cases b3 : pn = 0
    · refine areg_run 10 (by simp [push_cast, hpl, o5, o6, b3, b2]; exact rfl) ?_
      refine areg_run 4 (by simp [push_cast]; exact rfl) ?_
      refine areg_end (by simp [push_cast]; exact rfl) ?_
      refine ⟨true, by simp [b3, b2], Le.mk rfl (by simp [rtC, leT, keyA, opB, b2]) (by simp [rtC, leH, keyA, opB, b2])⟩
    · refine areg_run 10 (by simp [push_cast, hpl, o5, o6, b3, b2]; exact rfl) ?_
      refine areg_run 4 (by simp [push_cast, b2]; exact rfl) ?_
      refine areg_end (by simp [push_cast]; exact rfl) ?_
      refine ⟨false, by simp [b3, b2, b1], Le.mk rfl (by simp [rtC, leT, keyA, opB, b2]) (by simp [rtC, leH, keyA, opB, b2])⟩
set_option maxHeartbeats 16000000 in
theorem chain3 {Q : AX → AS → Prop} {b : AC} {bg : Bool} {c0 ofz chz : Bool} (htl : text.length = tl) (o5 : ofk.length = 32) (o6 : check.length = 32) (eof : EqAV Go.Proofs.Tryz.prog 23 (keyA ofk) (keyA zk) (!ofz)) (ech : EqAV Go.Proofs.Tryz.prog 23 (keyA check) (keyA zk) (!chz))
    (k : ∀ c, c = decide (¬ ((kd = 5 ∨ kd = 6) ↔ ofz = true) ∨ (kd = 7 ↔ chz = true) ∨ ¬ (kd = 7 ↔ 0 < tl) ∨ 256 < tl) → b.wp Go.Proofs.Tryz.prog (rtC (opB au sq ps kd W ofk check text B) l1 l3 (decide (kd = 5 ∨ kd = 6), decide (kd = 7), bg) 63 34 c) Q) : (AC.seq (.reg [⟨(.some 71), .none, (.mov (.tmp 4)), [], .none⟩, ⟨(.some 72), .none, (.faddr 5 5 (.tmp 1)), [], .none⟩, ⟨(.some 73), .none, (.load .true 32 (.tmp 72)), [], .none⟩, ⟨(.some 74), .none, (.load .true 32 (.tmp 3)), [], .none⟩, ⟨(.some 75), .none, (.eqv 23 .true (.tmp 73) (.tmp 74)), [], .none⟩, ⟨(.some 76), .none, (.beq .true (.tmp 71) (.tmp 75)), [], .none⟩, ⟨(.some 77), .none, (.mov (.tmp 76)), [], .none⟩, ⟨(.some 78), (.some (77, .false)), (.mov (.tmp 5)), [], .none⟩, ⟨(.some 79), (.some (77, .false)), (.faddr 37 6 (.tmp 1)), [], .none⟩, ⟨(.some 80), (.some (77, .false)), (.load .true 32 (.tmp 79)), [], .none⟩, ⟨(.some 81), (.some (77, .false)), (.load .true 32 (.tmp 3)), [], .none⟩, ⟨(.some 82), (.some (77, .false)), (.eqv 23 .true (.tmp 80) (.tmp 81)), [], .none⟩, ⟨(.some 83), (.some (77, .false)), (.beq .false (.tmp 78) (.tmp 82)), [], .none⟩, ⟨(.some 84), .none, (.pick (.tmp 77) (.const (.bool .true)) (.tmp 83)), [], .none⟩, ⟨(.some 85), .none, (.mov (.tmp 84)), [], .none⟩, ⟨(.some 86), (.some (85, .false)), (.mov (.tmp 5)), [], .none⟩, ⟨(.some 87), (.some (85, .false)), (.faddr 69 7 (.tmp 1)), [], .none⟩, ⟨(.some 88), (.some (85, .false)), (.load .false 1 (.tmp 87)), [], .none⟩, ⟨(.some 89), (.some (85, .false)), (.len .true (.tmp 88)), [], .none⟩, ⟨(.some 90), (.some (85, .false)), (.bin .gtr (.tmp 89) (.const (jn 0))), [], .none⟩, ⟨(.some 91), (.some (85, .false)), (.beq .true (.tmp 86) (.tmp 90)), [], .none⟩, ⟨(.some 92), .none, (.pick (.tmp 85) (.const (.bool .true)) (.tmp 91)), [], .none⟩, ⟨(.some 93), .none, (.mov (.tmp 92)), [], .none⟩, ⟨(.some 94), (.some (93, .false)), (.faddr 69 7 (.tmp 1)), [], .none⟩, ⟨(.some 95), (.some (93, .false)), (.load .false 1 (.tmp 94)), [], .none⟩, ⟨(.some 96), (.some (93, .false)), (.len .true (.tmp 95)), [], .none⟩, ⟨(.some 97), (.some (93, .false)), (.bin .gtr (.tmp 96) (.const (jn 256))), [], .none⟩, ⟨(.some 98), .none, (.pick (.tmp 93) (.const (.bool .true)) (.tmp 97)), [], .none⟩, ⟨(.some 70), .none, (.mov (.tmp 98)), [], .none⟩]) b).wp Go.Proofs.Tryz.prog (rtC (opB au sq ps kd W ofk check text B) l1 l3 (decide (kd = 5 ∨ kd = 6), decide (kd = 7), bg) 35 62 c0) Q := by
  refine wp_seqM (fun c => rtC (opB au sq ps kd W ofk check text B) l1 l3 (decide (kd = 5 ∨ kd = 6), decide (kd = 7), bg) 63 34 c) (fun c => c = decide (¬ ((kd = 5 ∨ kd = 6) ↔ ofz = true) ∨ (kd = 7 ↔ chz = true) ∨ ¬ (kd = 7 ↔ 0 < tl) ∨ 256 < tl)) k (wp_rg ?_)
  clear k
  simp only [rtC, opB]
  obtain ⟨ac, hac⟩ : ∃ ac, ac = decide (kd = 5 ∨ kd = 6) := ⟨_, rfl⟩
  obtain ⟨sa, hsa⟩ : ∃ sa, sa = decide (kd = 7) := ⟨_, rfl⟩
  have hc : ∀ c, c = (decide (ac ≠ ofz) || decide (sa = chz) || decide (sa ≠ decide (0 < tl)) || decide (256 < tl)) → c = decide (¬ ((kd = 5 ∨ kd = 6) ↔ ofz = true) ∨ (kd = 7 ↔ chz = true) ∨ ¬ (kd = 7 ↔ 0 < tl) ∨ 256 < tl) := by
    rintro c rfl
    have h1 : ((kd = 5 ∨ kd = 6) ↔ ofz = true) ↔ ac = ofz := by rw [hac]; cases ofz <;> simp
    have h2 : (kd = 7 ↔ chz = true) ↔ sa = chz := by rw [hsa]; cases chz <;> simp
    have h3 : (kd = 7 ↔ 0 < tl) ↔ sa = decide (0 < tl) := by
      rw [hsa]
      exact ⟨fun h => decide_eq_decide.2 h, fun h => decide_eq_decide.1 h⟩
    rw [Bool.eq_iff_iff]
    simp only [Bool.or_eq_true, decide_eq_true_iff, h1, h2, h3]
    constructor
    · rintro (((h | h) | h) | h)
      · exact .inl h
      · exact .inr (.inl h)
      · exact .inr (.inr (.inl h))
      · exact .inr (.inr (.inr h))
    · rintro (h | h | h | h)
      · exact .inl (.inl (.inl h))
      · exact .inl (.inl (.inr h))
      · exact .inl (.inr h)
      · exact .inr h
  rw [← hac, ← hsa]
  clear hac hsa
  have htl2 : ∀ (s : AS) (ro : Nat → Bool), lenA s ro true (.lit (tx text)) = some (.lit (jn tl)) := fun s ro => by rw [lenA_tx, htl]
  refine areg_run 4 (by simp [push_cast, o5, o6]; exact rfl) ?_
  refine areg_eq (by simp [AS.ev, AS.put] <;> exact rfl) (by simp [AS.ev, AS.put] <;> exact rfl) eof rfl rfl ?_
  cases ac <;> cases ofz
  case false.true | true.false =>
    refine areg_run 2 (by simp [push_cast]; exact rfl) ?_
    refine areg_run 5 (by simp [push_cast]; exact rfl) ?_
    refine areg_run 5 (by simp [push_cast]; exact rfl) ?_
    refine areg_run 5 (by simp [push_cast]; exact rfl) ?_
    refine areg_end (by simp [push_cast]; exact rfl) ?_
    refine ⟨true, hc _ (by simp), Le.mk rfl (by simp [leT, keyA]) (by simp [leH, keyA])⟩
  all_goals
    refine areg_run 6 (by simp [push_cast, o5, o6]; exact rfl) ?_
    refine areg_g (b := false) (by simp [AS.ev, AS.put]) (areg_eq (by simp [AS.ev, AS.put] <;> exact rfl) (by simp [AS.ev, AS.put] <;> exact rfl) ech rfl rfl ?_)
    cases sa <;> cases chz
    case false.false | true.true =>
      refine areg_run 3 (by simp [push_cast]; exact rfl) ?_
      refine areg_run 5 (by simp [push_cast]; exact rfl) ?_
      refine areg_run 5 (by simp [push_cast]; exact rfl) ?_
      refine areg_end (by simp [push_cast]; exact rfl) ?_
      refine ⟨true, hc _ (by simp), Le.mk rfl (by simp [leT, keyA]) (by simp [leH, keyA])⟩
    all_goals
      by_cases t0 : 0 < tl <;> by_cases t2 : 256 < tl
      all_goals
        refine areg_run 4 (by simp [push_cast, o5, o6]; exact rfl) ?_
        refine areg_run 3 (by simp [push_cast, htl, t0]; exact rfl) ?_
        refine areg_run 3 (by simp [push_cast, htl, t0]; exact rfl) ?_
        refine areg_end (by simp [push_cast, o5, o6, htl, t2]; exact rfl) ?_
        exact ⟨_, hc _ rfl, Le.mk rfl (by simp [leT, keyA, t0, t2]) (by simp [leH, keyA])⟩
end
set_option maxHeartbeats 16000000 in
theorem right_call {o : OpV} (ho : OpOk o) (hbl : ∀ b ∈ o.boxes, b.body.length < 9223372036854775808) : PCall Go.Proofs.Tryz.prog 43 [opA o] (.val (.lit (.bool (rightV o)))) := by
  have h520 := fc520_eq
  have cm := member_call o.author
  have cr : PCall Go.Proofs.Tryz.prog 64 [.st [1, 1] [.sl 32 (klA o.parents), fnL 63]] _ := PCall.args (m := [.st [1, 1] [.sl 32 (klA o.parents), .fnv (.func 63) [] []]]) ⟨RelLe.rowF _ _ _, trivial⟩ (risK_call (fn := .fnv (.func 63) [] []) (g := 63) (cmp := Go.Lib.compareBytes) (l := o.parents) tgt_key rfl (fun a ha b hb => byKey_call (ho.p32 a ha) (ho.p32 b hb)) ho.parents ho.p32)
  have cw := who_call ho
  have cb := boxes_call ho hbl
  have eof : EqAV Go.Proofs.Tryz.prog 23 (keyA o.ofk) (keyA zk) (!decide (o.ofk ≠ zk)) := by simpa using eq_key ho.ofk zk_len
  have ech : EqAV Go.Proofs.Tryz.prog 23 (keyA o.check) (keyA zk) (!decide (o.check ≠ zk)) := by simpa using eq_key ho.check zk_len
  have hpl := klA_len o.parents
  have o5 := ho.ofk
  have o6 := ho.check
  have hfin : ∀ (b : Bool) (s : AS), b = rightV o → s.ev (.tmp 2) = .lit (.bool b) → Fin [.tmp 2] s (.val (.lit (.bool (rightV o)))) := fun b s e h => by
    rw [← e]
    exact fin_tmp (by simp [RVal, h, AS.coe]) (by simp)
  have hA : opA o = opB o.author o.seq o.parents o.kind (o.who.map fun x => AV.lit (ji x)) o.ofk o.check o.text (o.boxes.map fun x => boxA x) := rfl
  have hrv : rightV o = (!c1V o && !c2V o && !c3V o && (whoV o && boxesV o)) := rfl
  have hc1 : ∀ c, c = decide (memB o.author = false ∨ o.seq = 0 ∨ o.kind < 1 ∨ 7 < o.kind) → c = c1V o := fun _ h => h
  have hc2 : ∀ c, c = decide (8 < o.parents.length ∨ risV Go.Lib.compareBytes o.parents = false ∨ ¬ (o.kind = 1 ↔ o.parents.length = 0) ∨ (o.kind = 1 ∧ o.seq ≠ 1)) → c = c2V o := fun _ h => h
  have hc3 : ∀ c, c = decide (¬ ((o.kind = 5 ∨ o.kind = 6) ↔ decide (o.ofk ≠ zk) = true) ∨ (o.kind = 7 ↔ decide (o.check ≠ zk) = true) ∨ ¬ (o.kind = 7 ↔ 0 < o.text.length) ∨ 256 < o.text.length) → c = c3V o := fun c h => by
    rw [h]; unfold c3V; simp only [decide_eq_true_iff]
  rw [hA] at cw cb ⊢
  generalize hW : whoV o = wv at *
  generalize hB : boxesV o = bv at *
  generalize c1V o = v1 at *
  generalize c2V o = v2 at *
  generalize c3V o = v3 at *
  generalize rightV o = rv at *
  generalize (o.who.map fun x => AV.lit (ji x)) = W at *
  generalize (o.boxes.map fun x => boxA x) = B at *
  refine PCall.of h520 rfl ?_; show AC.wp _ fb520 (AS.init [opB o.author o.seq o.parents o.kind W o.ofk o.check o.text B] 1 105) (fun x s => match x with | .exit _ => False | _ => Fin [(.tmp 2)] s _); unfold fb520 AS.init
  refine wp_sg (areg_bx rfl (by simp [AS.ev, AV.sz, opB, keyA, o5, o6]) fun l1 => areg_end (by simp [push_cast]; exact rfl) ?_)
  refine wp_sg (areg_bz ?_)
  refine areg_al' zk_eq.symm fun l3 => areg_end (by simp [push_cast, opB]; exact rfl) ?_
  refine wp_seqM (fun y : Bool × Bool × Bool => rtS (opB o.author o.seq o.parents o.kind W o.ofk o.check o.text B) l1 l3 y) (fun y => y = (decide (o.kind = 5 ∨ o.kind = 6), decide (o.kind = 7), decide (o.kind = 1))) ?_ ?_
  rotate_left
  · by_cases k5 : o.kind = 5
    · refine wp_rg ?_
      refine areg_run 4 (by simp [push_cast, k5]; exact rfl) ?_
      refine areg_run 4 (by simp [push_cast]; exact rfl) ?_
      refine areg_end (by simp [push_cast]; exact rfl) ?_
      exact ⟨_, rfl, Le.mk rfl (by simp [rtS, leT, k5, keyA, opB]) (by simp [rtS, leH, k5, keyA, opB])⟩
    · refine wp_rg ?_
      refine areg_run 4 (by simp [push_cast, k5]; exact rfl) ?_
      refine areg_run 4 (by simp [push_cast]; exact rfl) ?_
      refine areg_end (by simp [push_cast]; exact rfl) ?_
      exact ⟨_, rfl, Le.mk rfl (by simp [rtS, leT, k5, keyA, opB]) (by simp [rtS, leH, k5, keyA, opB])⟩
  rintro y rfl
  refine wp_seq' (wp_block' ?_)
  refine chain1 o5 o6 cm fun c e1 => ?_
  have e1' := hc1 c e1
  subst e1'
  cases c with
  | true =>
    refine wp_cond_t rfl ?_
    unfold rtC
    refine wp_sr (by simp [push_cast]; exact rfl) (wp_ret' ?_)
    exact hfin false _ (by rw [hrv]; rfl) rfl
  | false =>
  refine wp_cond_f rfl ?_
  refine chain2 hpl o5 o6 cr fun c e2 => ?_
  have e2' := hc2 c e2
  subst e2'
  cases c with
  | true =>
    refine wp_cond_t rfl ?_
    unfold rtC
    refine wp_sr (by simp [push_cast]; exact rfl) (wp_ret' ?_)
    exact hfin false _ (by rw [hrv]; rfl) rfl
  | false =>
  refine wp_cond_f rfl ?_
  refine chain3 rfl o5 o6 eof ech fun c e3 => ?_
  have e3' := hc3 c e3
  subst e3'
  cases c with
  | true =>
    refine wp_cond_t rfl ?_
    unfold rtC
    refine wp_sr (by simp [push_cast]; exact rfl) (wp_ret' ?_)
    exact hfin false _ (by rw [hrv]; rfl) rfl
  | false =>
  refine wp_cond_f rfl (wp_skip' ?_)
  unfold rtC opB
  unfold opB keyA at cw cb
  refine wp_sg ?_
  refine areg_run 1 (by simp [push_cast, o5, o6]; exact rfl) ?_
  refine areg_ca (by simp [AS.ev, AS.coe, AS.put] <;> exact rfl) cw ?_
  cases wv with
  | false =>
    refine areg_run 1 (by simp [push_cast]; exact rfl) ?_
    refine areg_run 2 (by simp [push_cast]; exact rfl) ?_
    refine areg_end (by simp [push_cast]; exact rfl) (wp_ret' ?_)
    exact hfin false _ (by rw [hrv]; rfl) rfl
  | true =>
    refine areg_run 2 (by simp [push_cast, o5, o6]; exact rfl) ?_
    refine areg_g (b := true) (by simp [AS.ev, AS.put]) (areg_ca (by simp [AS.ev, AS.coe, AS.put] <;> exact rfl) cb ?_)
    refine areg_end (by simp [push_cast]; exact rfl) (wp_ret' ?_)
    exact hfin bv _ (by rw [hrv]; simp) rfl
def saysV (o : OpV) : Bool := rightV o && decide (o.kind = 7)
theorem says_call {o : OpV} (ho : OpOk o) (hbl : ∀ b ∈ o.boxes, b.body.length < 9223372036854775808) : PCall Go.Proofs.Tryz.prog 24 [opA o] (.val (.lit (.bool (saysV o)))) := by
  have h517 := fc517_eq
  have cr := right_call ho hbl
  have o5 := ho.ofk
  have o6 := ho.check
  unfold saysV
  generalize rightV o = rv at *
  have hA : opA o = opB o.author o.seq o.parents o.kind (o.who.map fun x => AV.lit (ji x)) o.ofk o.check o.text (o.boxes.map fun x => boxA x) := rfl
  rw [hA] at cr ⊢
  unfold opB at cr ⊢
  unfold keyA at cr
  refine PCall.of h517 rfl ?_; show AC.wp _ fb517 (AS.init [.st [1, 1, 1, 1, 1, 32, 32, 1, 1] [.lit (ji o.author), .lit (wn o.seq), .sl 32 (klA o.parents), .lit (ji o.kind), .sl 1 (o.who.map fun x => AV.lit (ji x)), keyA o.ofk, keyA o.check, .lit (tx o.text), .sl 36 (o.boxes.map fun x => boxA x)]] 1 10) (fun x s => match x with | .exit _ => False | _ => Fin [(.tmp 2)] s _); unfold fb517 AS.init
  refine wp_sg (areg_bx rfl (by simp [AS.ev, AV.sz, keyA, o5, o6]) fun l1 => areg_end (by simp [push_cast]; exact rfl) ?_)
  refine wp_sg ?_
  refine areg_run 1 (by simp [push_cast, o5, o6]; exact rfl) ?_
  refine areg_ca (by simp [AS.ev, AS.coe, AS.put] <;> exact rfl) cr ?_
  cases rv with
  | false =>
    refine areg_end (by simp [push_cast]; exact rfl) (wp_ret' ?_)
    exact fin_tmp (by simp [RVal, AS.ev, AS.coe]) (by simp)
  | true =>
    refine areg_end (by simp [push_cast, o5, o6]; exact rfl) (wp_ret' ?_)
    exact fin_tmp (by simp [RVal, AS.ev, AS.coe]) (by simp)
end Go.Cab
namespace Go.Cab
open Go.RowKit
open Classical
def fb543 : AC := (.seq (.reg [⟨some 2, none, .mov (.const (tx [])), [], none⟩]) (.seq (.seq (.reg [⟨some 3, none, .mov (.tmp 0), [], none⟩, ⟨some 4, none, .bin .lss (.tmp 3) (.const (jn 10)), [], none⟩]) (.cond (.tmp 4) (.seq (.reg [⟨some 5, none, .mov (.tmp 0), [], none⟩, ⟨some 6, none, .mov (.tmp 0), [], none⟩, ⟨some 7, none, .bin .add (.tmp 6) (.const (jn 1)), [], none⟩, ⟨some 8, none, .prim (.ssub true true) [(.const (tx [48, 49, 50, 51, 52, 53, 54, 55, 56, 57, 97, 98, 99, 100, 101, 102, 103, 104, 105, 106, 107, 108, 109, 110, 111, 112, 113, 114, 115, 116, 117, 118, 119, 120, 121, 122])), (.tmp 5), (.tmp 7)], [], none⟩, ⟨some 2, none, .mov (.tmp 8), [], none⟩]) .ret) .skip)) (.seq (.reg [⟨some 9, none, .mov (.tmp 0), [], none⟩, ⟨some 10, none, .bin .mul (.tmp 9) (.const (jn 2)), [], none⟩, ⟨some 11, none, .mov (.tmp 0), [], none⟩, ⟨some 12, none, .bin .mul (.tmp 11) (.const (jn 2)), [], none⟩, ⟨some 13, none, .bin .add (.tmp 12) (.const (jn 2)), [], none⟩, ⟨some 14, none, .prim (.ssub true true) [(.const (tx [48, 48, 48, 49, 48, 50, 48, 51, 48, 52, 48, 53, 48, 54, 48, 55, 48, 56, 48, 57, 49, 48, 49, 49, 49, 50, 49, 51, 49, 52, 49, 53, 49, 54, 49, 55, 49, 56, 49, 57, 50, 48, 50, 49, 50, 50, 50, 51, 50, 52, 50, 53, 50, 54, 50, 55, 50, 56, 50, 57, 51, 48, 51, 49, 51, 50, 51, 51, 51, 52, 51, 53, 51, 54, 51, 55, 51, 56, 51, 57, 52, 48, 52, 49, 52, 50, 52, 51, 52, 52, 52, 53, 52, 54, 52, 55, 52, 56, 52, 57, 53, 48, 53, 49, 53, 50, 53, 51, 53, 52, 53, 53, 53, 54, 53, 55, 53, 56, 53, 57, 54, 48, 54, 49, 54, 50, 54, 51, 54, 52, 54, 53, 54, 54, 54, 55, 54, 56, 54, 57, 55, 48, 55, 49, 55, 50, 55, 51, 55, 52, 55, 53, 55, 54, 55, 55, 55, 56, 55, 57, 56, 48, 56, 49, 56, 50, 56, 51, 56, 52, 56, 53, 56, 54, 56, 55, 56, 56, 56, 57, 57, 48, 57, 49, 57, 50, 57, 51, 57, 52, 57, 53, 57, 54, 57, 55, 57, 56, 57, 57])), (.tmp 10), (.tmp 13)], [], none⟩, ⟨some 2, none, .mov (.tmp 14), [], none⟩]) .ret)))
def fc543 : FC := ⟨1, 15, [(.tmp 2)], fb543⟩
theorem fc543_eq : compF Go.Proofs.Tryz.prog 105 = some fc543 := by kernel_rfl
def fb542 : AC := (.seq (.reg [⟨some 4, none, .mov (.const (tx [])), [], none⟩]) (.seq (.seq (.reg [⟨some 10, none, .mov (.tmp 1), [], none⟩, ⟨some 11, none, .bin .eql (.tmp 10) (.const (jn 10)), [], none⟩]) (.cond (.tmp 11) (.seq (.seq (.reg [⟨some 12, none, .mov (.tmp 0), [], none⟩, ⟨some 13, none, .bin .leq (.const (jn 0)) (.tmp 12), [], none⟩, ⟨some 14, none, .mov (.tmp 13), [], none⟩, ⟨some 15, some (14, true), .mov (.tmp 0), [], none⟩, ⟨some 16, some (14, true), .bin .lss (.tmp 15) (.const (jn 100)), [], none⟩, ⟨some 17, none, .pick (.tmp 14) (.tmp 16) (.const (.bool false)), [], none⟩]) (.cond (.tmp 17) (.seq (.reg [⟨some 18, none, .mov (.tmp 0), [], none⟩, ⟨some 19, none, .call 105 [.tmp 18], [], none⟩, ⟨some 4, none, .mov (.tmp 19), [], none⟩]) .ret) .skip)) (.seq (.reg [⟨some 5, none, .alloc 24 (.arr 1 (List.replicate 24 (.lit (bn 0)))), [], none⟩]) (.seq (.reg [⟨some 20, none, .mov (.tmp 0), [], none⟩, ⟨some 21, none, .cvt .u64 (.tmp 20), [], none⟩, ⟨some 6, none, .mov (.tmp 21), [], none⟩]) (.seq (.seq (.reg [⟨some 22, none, .mov (.tmp 0), [], none⟩, ⟨some 23, none, .bin .lss (.tmp 22) (.const (jn 0)), [], none⟩]) (.cond (.tmp 23) (.reg [⟨some 24, none, .mov (.tmp 6), [], none⟩, ⟨some 25, none, .un .neg (.tmp 24), [], none⟩, ⟨some 6, none, .mov (.tmp 25), [], none⟩]) .skip)) (.seq (.reg [⟨some 26, none, .mov (.tmp 6), [], none⟩, ⟨some 27, none, .call 106 [.tmp 26], [], none⟩, ⟨some 7, none, .mov (.tmp 27), [], none⟩]) (.seq (.reg [⟨some 28, none, .mov (.tmp 7), [], none⟩, ⟨some 29, none, .bin .add (.const (jn 1)) (.tmp 28), [], none⟩, ⟨some 30, none, .rdp (.vslice 1 24 true true) [(.tmp 5), (.const (jn 1)), (.tmp 29)], [], none⟩, ⟨some 31, none, .mov (.tmp 6), [], none⟩, ⟨some 32, none, .xc (.dir 107) [.tmp 30, .tmp 31] [] [], [], none⟩]) (.seq (.seq (.reg [⟨some 33, none, .mov (.tmp 0), [], none⟩, ⟨some 34, none, .bin .lss (.tmp 33) (.const (jn 0)), [], none⟩]) (.cond (.tmp 34) (.seq (.reg [⟨some 35, none, .iaddrA 24 1 (.tmp 5) (.const (jn 0)), [], none⟩, ⟨none, none, .store 1 (.tmp 35) (.const (bn 45)), [], none⟩]) (.seq (.reg [⟨some 36, none, .mov (.tmp 7), [], none⟩, ⟨some 37, none, .bin .add (.const (jn 1)) (.tmp 36), [], none⟩, ⟨some 38, none, .rdp (.vslice 1 24 false true) [.tmp 5, .tmp 37], [], none⟩, ⟨some 39, none, .rd .b2sv [.tmp 38], [], none⟩, ⟨some 4, none, .mov (.tmp 39), [], none⟩]) .ret)) .skip)) (.seq (.reg [⟨some 40, none, .mov (.tmp 7), [], none⟩, ⟨some 41, none, .bin .add (.const (jn 1)) (.tmp 40), [], none⟩, ⟨some 42, none, .rdp (.vslice 1 24 true true) [(.tmp 5), (.const (jn 1)), (.tmp 41)], [], none⟩, ⟨some 43, none, .rd .b2sv [.tmp 42], [], none⟩, ⟨some 4, none, .mov (.tmp 43), [], none⟩]) .ret)))))))) .skip)) (.seq (.reg [⟨some 45, none, .mov (.tmp 0), [], none⟩, ⟨some 46, none, .cvt .u64 (.tmp 45), [], none⟩, ⟨some 47, none, .mov (.tmp 1), [], none⟩, ⟨some 48, none, .mov (.tmp 0), [], none⟩, ⟨some 49, none, .bin .lss (.tmp 48) (.const (jn 0)), [], none⟩, ⟨some 50, none, .call 108 [(.const (.slice .none 0 0)), (.tmp 46), (.tmp 47), (.tmp 49), (.const (.bool false))], [], none⟩, ⟨some 44, none, .mov (.tmp 50), [], none⟩, ⟨some 51, none, .ext (.tmp 44) 0, [], none⟩, ⟨some 52, none, .ext (.tmp 44) 1, [], none⟩, ⟨some 8, none, .mov (.tmp 51), [], none⟩, ⟨some 9, none, .mov (.tmp 52), [], none⟩]) (.seq (.reg [⟨some 53, none, .mov (.tmp 9), [], none⟩, ⟨some 4, none, .mov (.tmp 53), [], none⟩]) .ret))))
def fc542 : FC := ⟨2, 54, [(.tmp 4)], fb542⟩
theorem fc542_eq : compF Go.Proofs.Tryz.prog 98 = some fc542 := by kernel_rfl
def fb538 : AC := (.seq (.reg [⟨some 2, none, .mov (.const (tx [])), [], none⟩]) (.seq (.reg [⟨some 3, none, .mov (.tmp 0), [], none⟩, ⟨some 4, none, .call 98 [(.tmp 3), (.const (jn 10))], [], none⟩, ⟨some 2, none, .mov (.tmp 4), [], none⟩]) .ret))
def fc538 : FC := ⟨1, 5, [(.tmp 2)], fb538⟩
theorem fc538_eq : compF Go.Proofs.Tryz.prog 87 = some fc538 := by kernel_rfl
def fb528 : AC := (.seq (.reg [⟨some 2, none, .mov (.const (tx [])), [], none⟩]) (.seq (.reg [⟨some 3, none, .mov (.tmp 0), [], none⟩, ⟨some 4, none, .call 87 [.tmp 3], [], none⟩, ⟨some 2, none, .mov (.tmp 4), [], none⟩]) .ret))
def fc528 : FC := ⟨1, 5, [(.tmp 2)], fb528⟩
theorem fc528_eq : compF Go.Proofs.Tryz.prog 67 = some fc528 := by kernel_rfl
def fb522 : AC := (.seq (.reg [⟨some 1, none, .box 71 (.tmp 0), [], none⟩, ⟨some 2, none, .mov (.const (tx [])), [], none⟩]) (.seq (.reg [⟨some 3, none, .mov (.const (tx [111, 112])), [], none⟩]) (.seq (.seq (.reg [⟨some 6, none, .faddr 3 3 (.tmp 1), [], none⟩, ⟨some 7, none, .load false 1 (.tmp 6), [], none⟩, ⟨some 8, none, .faddr 0 0 (.tmp 1), [], none⟩, ⟨some 9, none, .load false 1 (.tmp 8), [], none⟩, ⟨some 10, none, .faddr 1 1 (.tmp 1), [], none⟩, ⟨some 11, none, .load false 1 (.tmp 10), [], none⟩, ⟨some 12, none, .cvt .i64 (.tmp 11), [], none⟩, ⟨some 13, none, .ef (.bown 3 1 (.lit (jn 0)) 3 [0, 1, 2]) [.tmp 7, .tmp 9, .tmp 12], [], none⟩, ⟨some 14, none, .faddr 4 4 (.tmp 1), [], none⟩, ⟨some 15, none, .load false 1 (.tmp 14), [], none⟩, ⟨some 16, none, .append 3 1 8 (.tmp 13) (.tmp 15), [], none⟩, ⟨some 17, none, .len false (.tmp 16), [], none⟩, ⟨some 18, none, .mov (.const (jn 0)), [], none⟩]) (.block 0 (.loop (.seq (.reg [⟨some 19, none, .bin .lss (.tmp 18) (.tmp 17), [], none⟩]) (.seq (.cond (.tmp 19) .skip (.exit 0)) (.seq (.block 1 (.seq (.reg [⟨some 20, none, .iaddrS 1 (.tmp 16) (.tmp 18), [], none⟩, ⟨some 21, none, .load false 1 (.tmp 20), [], none⟩, ⟨some 5, none, .mov (.tmp 21), [], none⟩]) (.reg [⟨some 22, none, .mov (.tmp 3), [], none⟩, ⟨some 23, none, .mov (.tmp 5), [], none⟩, ⟨some 24, none, .call 67 [.tmp 23], [], none⟩, ⟨some 25, none, .bin .add (.const (tx [32])) (.tmp 24), [], none⟩, ⟨some 26, none, .bin .add (.tmp 22) (.tmp 25), [], none⟩, ⟨some 3, none, .mov (.tmp 26), [], none⟩]))) (.reg [⟨some 27, none, .bin .add (.tmp 18) (.const (jn 1)), [], none⟩, ⟨some 18, none, .mov (.tmp 27), [], none⟩]))))))) (.seq (.reg [⟨some 28, none, .mov (.tmp 3), [], none⟩, ⟨some 2, none, .mov (.tmp 28), [], none⟩]) .ret))))
def fc522 : FC := ⟨1, 29, [(.tmp 2)], fb522⟩
theorem fc522_eq : compF Go.Proofs.Tryz.prog 45 = some fc522 := by kernel_rfl
def fb519 : AC := (.seq (.reg [⟨some 3, none, .box 71 (.tmp 1), [], none⟩, ⟨some 4, none, .alloc 32 (.arr 1 (List.replicate 32 (.lit (bn 0)))), [], none⟩]) (.seq (.seq (.reg [⟨some 5, none, .load true 71 (.tmp 3), [], none⟩, ⟨some 6, none, .call 43 [.tmp 5], [], none⟩, ⟨some 7, none, .un .not (.tmp 6), [], none⟩]) (.cond (.tmp 7) (.seq (.reg [⟨some 8, none, .build (.arr 1 (List.replicate 32 (.lit (bn 0)))) [], [], none⟩, ⟨none, none, .store 32 (.tmp 4) (.tmp 8), [], none⟩]) .ret) .skip)) (.seq (.reg [⟨some 9, none, .mov (.tmp 0), [], none⟩, ⟨some 10, none, .load true 71 (.tmp 3), [], (.some 3)⟩, ⟨some 11, none, .callv 45 [.tmp 10], [], (.some 1000000)⟩, ⟨some 12, none, .faddr 2 2 (.tmp 3), [], none⟩, ⟨some 13, none, .load false 1 (.tmp 12), [], (.some 3)⟩, ⟨some 14, none, .xc (.dir 46) [.tmp 13] [3] [], [], none⟩, ⟨some 15, none, .faddr 5 5 (.tmp 3), [], none⟩, ⟨some 16, none, .load true 32 (.tmp 15), [], (.some 3)⟩, ⟨some 17, none, .build (.arr 1 (List.replicate 32 (.lit (bn 0)))) [], [], none⟩, ⟨some 18, none, .bslice 32 (.arr 1 (List.replicate 32 (.lit (bn 0)))) 2 [(0, (.tmp 16)), (1, (.tmp 17))], [], none⟩, ⟨some 19, none, .append 23 32 32 (.tmp 14) (.tmp 18), [], none⟩, ⟨some 20, none, .rdp (.mkfn (.method "Hash") 1) [.tmp 9], [], none⟩, ⟨some 21, none, .rdp .nilv [.tmp 20], [], none⟩, ⟨some 22, none, .mov (.tmp 9), [], none⟩, ⟨some 23, none, .xc (.inv "Hash") [.tmp 22, .tmp 11, .tmp 19] [] [], [], none⟩, ⟨none, none, .store 32 (.tmp 4) (.tmp 23), [], none⟩]) .ret)))
def fc519 : FC := ⟨2, 24, [(.cell 4 .true 32)], fb519⟩
theorem fc519_eq : compF Go.Proofs.Tryz.prog 26 = some fc519 := by kernel_rfl
def fb515 : AC := (.seq (.reg [⟨some 6, none, .alloc 32 (.arr 1 (List.replicate 32 (.lit (bn 0)))), [], none⟩, ⟨some 7, none, .alloc 32 (.arr 1 (List.replicate 32 (.lit (bn 0)))), [], none⟩]) (.seq (.reg [⟨some 8, none, .mov (.tmp 0), [], none⟩, ⟨some 9, none, .mov (.tmp 1), [], none⟩, ⟨some 10, none, .bin .add (.tmp 9) (.const (tx [47, 49])), [], none⟩, ⟨some 11, none, .mov (.tmp 2), [], none⟩, ⟨some 12, none, .xc (.inv "Hash") [.tmp 8, .tmp 10, .tmp 11] [] [], [], none⟩, ⟨some 13, none, .mov (.tmp 0), [], none⟩, ⟨some 14, none, .mov (.tmp 1), [], none⟩, ⟨some 15, none, .bin .add (.tmp 14) (.const (tx [47, 50])), [], none⟩, ⟨some 16, none, .mov (.tmp 2), [], none⟩, ⟨some 17, none, .xc (.inv "Hash") [.tmp 13, .tmp 15, .tmp 16] [] [], [], none⟩, ⟨none, none, .store 32 (.tmp 6) (.tmp 12), [], none⟩, ⟨none, none, .store 32 (.tmp 7) (.tmp 17), [], none⟩]) .ret))
def fc515 : FC := ⟨3, 18, [(.cell 6 .true 32), (.cell 7 .true 32)], fb515⟩
theorem fc515_eq : compF Go.Proofs.Tryz.prog 14 = some fc515 := by kernel_rfl
theorem PCall.xrow {P : Program} {f : FuncId} {args : List AV} {e esz : Nat} {els : List AV} (H : List (Option Blk)) (h : PCall P f args (.row e esz els)) : XCall P f args H fun r H' => ∃ V, r = .own H.length V ∧ H' = H ++ [some (.row e V esz els 0)] := by
  intro w0 w regs Imm0 Vs hfr hth hheap hargs
  refine Calls.mono (h w Imm0 Vs ⟨hth.there, (hth.tab.go hfr).none⟩ hargs) ?_
  rintro e' w' ⟨V, Imm, he, hfr', hI, hsc, cs, hR, hown, hm⟩
  have hg : ∀ g, V.ownBlock = some g → w.heap.size ≤ g ∧ g < w'.heap.size := fun g hg => hown.lt g hg
  have hH := hheap.grow hfr' hI.sub hI.old hth.there
  have hget : ∀ (k : Nat) (x : Blk), ((H ++ [none])[k]?).join = some x → (H[k]?).join = some x := fun k x hx => by
    by_cases hk : k < H.length
    · rwa [List.getElem?_append_left hk] at hx
    · rw [List.getElem?_append_right (by omega)] at hx
      cases hk' : k - H.length with
      | zero => rw [hk'] at hx; simp at hx
      | succ n => rw [hk'] at hx; simp at hx
  have hH' : HeapOk w0 regs Imm (H ++ [none]) w' := ⟨fun k x hx => hH.ok k x (hget k x hx), fun k k' x y hne hx hy => hH.apart k k' x y hne (hget k x hx) (hget k' y hy)⟩
  refine ⟨V, .own H.length V, H ++ [some (.row e V esz els 0)], Imm, he, ⟨V, rfl, rfl⟩, hfr.trans (hfr'.any _), ⟨hI.sub, fun b o hb hlt => hI.old b o hb (Nat.lt_of_lt_of_le hlt hfr.size), hI.there, hI.val⟩, .inr ⟨_, .own _ V hsc, rfl⟩, by simp, ?_⟩
  have e1 : H ++ [some (Blk.row e V esz els 0)] = (H ++ [none]).set H.length (some (.row e V esz els 0)) := by simp
  rw [e1]
  refine hH'.lay (Blk.rowOk hR (ownsRow_base hown (fun _ _ => Nat.zero_le _)) hsc (Nat.zero_le _) fun g hg' o _ => hm g hg' o) (fun b o hf => ⟨(hg b hf).2, Nat.le_trans hfr.size (hg b hf).1⟩) fun k y _ hy b o hf hfy => ?_
  have := ((hheap.ok k y (hget k y hy)).2 b o hfy).1
  have := (hg b hf).1
  omega
theorem argsOk_of {Imm : Nat → Nat → Prop} {w : World} : ∀ {vs : List AV} {Vs : List Value}, vs.length = Vs.length → (∀ (t : Nat) (v : AV), vs[t]? = some v → Rel Imm w v (Vs.toArray.getD t undef)) → ArgsOk Imm w vs Vs
  | [], [], _, _ => trivial
  | v :: vs, V :: Vs, h, k => ⟨by simpa using k 0 v rfl, argsOk_of (by simpa using h) fun t u hu => by simpa using k (t + 1) u (by simpa using hu)⟩
  | [], _ :: _, h, _ => by simp at h
  | _ :: _, [], h, _ => by simp at h
theorem XCall.ofLe {P : Program} {f : FuncId} {vs vs' : List AV} {H H2 : List (Option Blk)} {K : AV → List (Option Blk) → Prop} (hle : Le ⟨0, vs, H⟩ ⟨0, vs', H2⟩) (hl : vs'.length = vs.length) (h : XCall P f vs' H2 K) : XCall P f vs H K := by
  intro w0 w regs Imm0 Vs hfr hth hheap hargs
  obtain ⟨hlen, hget⟩ := argsOk_len hargs
  have hS : SRel w0 w regs Imm0 ⟨0, vs, H⟩ { tmps := Vs.toArray, defers := [] } w := by
    refine ⟨rfl, by simp [hlen], hth.tab, hfr, Imm0, ⟨fun _ _ h => h, fun _ _ h _ => h, hth.there, fun _ _ _ => rfl⟩, fun t v hv => ?_, hheap⟩
    obtain ⟨V, hV, hr⟩ := hget t v hv
    have : Vs.toArray.getD t undef = V := by
      obtain ⟨h1, h2⟩ := List.getElem?_eq_some_iff.1 hV
      simp [Array.getD, h1, h2]
    rw [this]; exact hr
  obtain ⟨Imm, i1, i2, i3⟩ := (hle _ _ _ _ _ _ hS).ex
  have hargs' : ArgsOk Imm w vs' Vs := argsOk_of (by rw [hl, hlen]) fun t v hv => i2 t v hv
  refine Calls.mono (h w0 w regs Imm Vs hfr ⟨i1.there, hth.tab⟩ i3 hargs') ?_
  rintro e w' ⟨V, r, hp', Imm', he, hk, g1, g2, g3, g4, g5⟩
  exact ⟨V, r, hp', Imm', he, hk, g1, ⟨fun b o hb => g2.sub b o (i1.sub b o hb), fun b o hb hlt => i1.old b o (g2.old b o hb hlt) hlt, g2.there, fun b o hb => g2.val b o (i1.sub b o hb)⟩, g3, g4, g5⟩
def dec2 (n : Nat) : List UInt8 := if n < 10 then [dig8 n] else [dig8 (n / 10), dig8 (n % 10)]
theorem dec2_len (n : Nat) : (dec2 n).length ≤ 2 := by unfold dec2; split <;> simp
set_option maxRecDepth 20000 in
theorem small_call (n : Nat) (hn : n < 100) : PCall Go.Proofs.Tryz.prog 105 [.lit (jn n)] (.val (.lit (tx (dec2 n)))) := by
  have h543 := fc543_eq
  refine PCall.of h543 rfl ?_; show AC.wp _ fb543 (AS.init [.lit (jn n)] 1 15) (fun x s => match x with | .exit _ => False | _ => Fin [(.tmp 2)] s _); unfold fb543 AS.init
  refine wp_sr (by simp [push_cast]; exact rfl) ?_
  by_cases h10 : n < 10
  · refine wp_seq' (wp_seq' (wp_r (by simp [push_cast, h10]; exact rfl) (wp_cond_t rfl ?_)))
    have q1 : n + 1 < 9223372036854775808 := by omega
    have hd : ∀ n, n < 10 → (([48, 49, 50, 51, 52, 53, 54, 55, 56, 57, 97, 98, 99, 100, 101, 102, 103, 104, 105, 106, 107, 108, 109, 110, 111, 112, 113, 114, 115, 116, 117, 118, 119, 120, 121, 122] : List UInt8).take (n + 1)).drop n = dec2 n := by decide
    have hp := hd n h10
    have hsub : primVal (.ssub true true) [tx [48, 49, 50, 51, 52, 53, 54, 55, 56, 57, 97, 98, 99, 100, 101, 102, 103, 104, 105, 106, 107, 108, 109, 110, 111, 112, 113, 114, 115, 116, 117, 118, 119, 120, 121, 122], jn n, jn (n + 1)] = some (tx (dec2 n)) := by
      rw [prim_sub2, if_pos ⟨by simp only [List.length_cons, List.length_nil]; omega, by omega⟩, hp]
    generalize ([48, 49, 50, 51, 52, 53, 54, 55, 56, 57, 97, 98, 99, 100, 101, 102, 103, 104, 105, 106, 107, 108, 109, 110, 111, 112, 113, 114, 115, 116, 117, 118, 119, 120, 121, 122] : List UInt8) = dl at *
    refine wp_sg ?_
    refine areg_run 3 (by simp [push_cast, q1]; exact rfl) ?_
    refine AOp.ex_go (s' := _) (by simp only [AOp.ex, AOp.ex0, AOp.mineB, ex_prim, AS.lits, List.map_cons, List.map_nil, AS.ev, AS.put]; simp [primA_some, hsub]; exact rfl) ?_
    refine areg_end (by simp [push_cast]; exact rfl) (wp_ret' ?_)
    exact fin_tmp (by simp [RVal, AS.ev, AS.coe]) (by simp)
  · refine wp_seq' (wp_seq' (wp_r (by simp [push_cast, h10]; exact rfl) (wp_cond_f rfl (wp_skip' ?_))))
    have q1 : n * 2 < 9223372036854775808 := by omega
    have q2 : n * 2 + 2 < 9223372036854775808 := by omega
    have hd : ∀ n, n < 100 → ¬ n < 10 → (([48, 48, 48, 49, 48, 50, 48, 51, 48, 52, 48, 53, 48, 54, 48, 55, 48, 56, 48, 57, 49, 48, 49, 49, 49, 50, 49, 51, 49, 52, 49, 53, 49, 54, 49, 55, 49, 56, 49, 57, 50, 48, 50, 49, 50, 50, 50, 51, 50, 52, 50, 53, 50, 54, 50, 55, 50, 56, 50, 57, 51, 48, 51, 49, 51, 50, 51, 51, 51, 52, 51, 53, 51, 54, 51, 55, 51, 56, 51, 57, 52, 48, 52, 49, 52, 50, 52, 51, 52, 52, 52, 53, 52, 54, 52, 55, 52, 56, 52, 57, 53, 48, 53, 49, 53, 50, 53, 51, 53, 52, 53, 53, 53, 54, 53, 55, 53, 56, 53, 57, 54, 48, 54, 49, 54, 50, 54, 51, 54, 52, 54, 53, 54, 54, 54, 55, 54, 56, 54, 57, 55, 48, 55, 49, 55, 50, 55, 51, 55, 52, 55, 53, 55, 54, 55, 55, 55, 56, 55, 57, 56, 48, 56, 49, 56, 50, 56, 51, 56, 52, 56, 53, 56, 54, 56, 55, 56, 56, 56, 57, 57, 48, 57, 49, 57, 50, 57, 51, 57, 52, 57, 53, 57, 54, 57, 55, 57, 56, 57, 57] : List UInt8).take (n * 2 + 2)).drop (n * 2) = dec2 n := by decide
    have hp := hd n hn h10
    have hsub : primVal (.ssub true true) [tx [48, 48, 48, 49, 48, 50, 48, 51, 48, 52, 48, 53, 48, 54, 48, 55, 48, 56, 48, 57, 49, 48, 49, 49, 49, 50, 49, 51, 49, 52, 49, 53, 49, 54, 49, 55, 49, 56, 49, 57, 50, 48, 50, 49, 50, 50, 50, 51, 50, 52, 50, 53, 50, 54, 50, 55, 50, 56, 50, 57, 51, 48, 51, 49, 51, 50, 51, 51, 51, 52, 51, 53, 51, 54, 51, 55, 51, 56, 51, 57, 52, 48, 52, 49, 52, 50, 52, 51, 52, 52, 52, 53, 52, 54, 52, 55, 52, 56, 52, 57, 53, 48, 53, 49, 53, 50, 53, 51, 53, 52, 53, 53, 53, 54, 53, 55, 53, 56, 53, 57, 54, 48, 54, 49, 54, 50, 54, 51, 54, 52, 54, 53, 54, 54, 54, 55, 54, 56, 54, 57, 55, 48, 55, 49, 55, 50, 55, 51, 55, 52, 55, 53, 55, 54, 55, 55, 55, 56, 55, 57, 56, 48, 56, 49, 56, 50, 56, 51, 56, 52, 56, 53, 56, 54, 56, 55, 56, 56, 56, 57, 57, 48, 57, 49, 57, 50, 57, 51, 57, 52, 57, 53, 57, 54, 57, 55, 57, 56, 57, 57], jn (n * 2), jn (n * 2 + 2)] = some (tx (dec2 n)) := by
      rw [prim_sub2, if_pos ⟨by simp only [List.length_cons, List.length_nil]; omega, by omega⟩, hp]
    generalize ([48, 48, 48, 49, 48, 50, 48, 51, 48, 52, 48, 53, 48, 54, 48, 55, 48, 56, 48, 57, 49, 48, 49, 49, 49, 50, 49, 51, 49, 52, 49, 53, 49, 54, 49, 55, 49, 56, 49, 57, 50, 48, 50, 49, 50, 50, 50, 51, 50, 52, 50, 53, 50, 54, 50, 55, 50, 56, 50, 57, 51, 48, 51, 49, 51, 50, 51, 51, 51, 52, 51, 53, 51, 54, 51, 55, 51, 56, 51, 57, 52, 48, 52, 49, 52, 50, 52, 51, 52, 52, 52, 53, 52, 54, 52, 55, 52, 56, 52, 57, 53, 48, 53, 49, 53, 50, 53, 51, 53, 52, 53, 53, 53, 54, 53, 55, 53, 56, 53, 57, 54, 48, 54, 49, 54, 50, 54, 51, 54, 52, 54, 53, 54, 54, 54, 55, 54, 56, 54, 57, 55, 48, 55, 49, 55, 50, 55, 51, 55, 52, 55, 53, 55, 54, 55, 55, 55, 56, 55, 57, 56, 48, 56, 49, 56, 50, 56, 51, 56, 52, 56, 53, 56, 54, 56, 55, 56, 56, 56, 57, 57, 48, 57, 49, 57, 50, 57, 51, 57, 52, 57, 53, 57, 54, 57, 55, 57, 56, 57, 57] : List UInt8) = dl at *
    refine wp_sg ?_
    refine areg_run 5 (by simp [push_cast, q1, q2]; exact rfl) ?_
    refine AOp.ex_go (s' := _) (by simp only [AOp.ex, AOp.ex0, AOp.mineB, ex_prim, AS.lits, List.map_cons, List.map_nil, AS.ev, AS.put]; simp [primA_some, hsub]; exact rfl) ?_
    refine areg_end (by simp [push_cast]; exact rfl) (wp_ret' ?_)
    exact fin_tmp (by simp [RVal, AS.ev, AS.coe]) (by simp)
theorem bin_leqji (a : Nat) (b : Nat) : binVal .leq (jn a) (jn b) = some (.bool (decide (a ≤ b))) := bin_leqj a b
theorem format_call (n : Nat) (hn : n < 100) : PCall Go.Proofs.Tryz.prog 98 [.lit (jn n), .lit (jn 10)] (.val (.lit (tx (dec2 n)))) := by
  have h542 := fc542_eq
  have c := small_call n hn
  refine PCall.of h542 rfl ?_; show AC.wp _ fb542 (AS.init [.lit (jn n), .lit (jn 10)] 2 54) (fun x s => match x with | .exit _ => False | _ => Fin [(.tmp 4)] s _); unfold fb542 AS.init
  refine wp_sr (by simp [push_cast]; exact rfl) ?_
  refine wp_seq' (wp_seq' (wp_r (by simp [push_cast]; exact rfl) (wp_cond_t rfl ?_)))
  refine wp_seq' (wp_seq' (wp_r (by simp [push_cast, hn]; exact rfl) (wp_cond_t (by simp [AS.ev]) ?_)))
  refine wp_sg ?_
  refine areg_run 1 (by simp [push_cast]; exact rfl) ?_
  refine areg_ca (by simp [AS.ev, AS.coe, AS.put] <;> exact rfl) c ?_
  refine areg_end (by simp [push_cast]; exact rfl) (wp_ret' ?_)
  exact fin_tmp (by simp [RVal, AS.ev, AS.coe]) (by simp)
theorem itoa0_call (n : Nat) (hn : n < 100) : PCall Go.Proofs.Tryz.prog 87 [.lit (jn n)] (.val (.lit (tx (dec2 n)))) := by
  have h538 := fc538_eq
  have c := format_call n hn
  refine PCall.of h538 rfl ?_; show AC.wp _ fb538 (AS.init [.lit (jn n)] 1 5) (fun x s => match x with | .exit _ => False | _ => Fin [(.tmp 2)] s _); unfold fb538 AS.init
  refine wp_sr (by simp [push_cast]; exact rfl) (wp_sg ?_)
  refine areg_run 1 (by simp [push_cast]; exact rfl) ?_
  refine areg_ca (by simp [AS.ev, AS.coe, AS.put] <;> exact rfl) c ?_
  refine areg_end (by simp [push_cast]; exact rfl) (wp_ret' ?_)
  exact fin_tmp (by simp [RVal, AS.ev, AS.coe]) (by simp)
theorem itoa_call (n : Nat) (hn : n < 100) : PCall Go.Proofs.Tryz.prog 67 [.lit (jn n)] (.val (.lit (tx (dec2 n)))) := by
  have h528 := fc528_eq
  have c := itoa0_call n hn
  refine PCall.of h528 rfl ?_; show AC.wp _ fb528 (AS.init [.lit (jn n)] 1 5) (fun x s => match x with | .exit _ => False | _ => Fin [(.tmp 2)] s _); unfold fb528 AS.init
  refine wp_sr (by simp [push_cast]; exact rfl) (wp_sg ?_)
  refine areg_run 1 (by simp [push_cast]; exact rfl) ?_
  refine areg_ca (by simp [AS.ev, AS.coe, AS.put] <;> exact rfl) c ?_
  refine areg_end (by simp [push_cast]; exact rfl) (wp_ret' ?_)
  exact fin_tmp (by simp [RVal, AS.ev, AS.coe]) (by simp)
def numsV (o : OpV) : List Int := o.kind :: o.author :: (o.seq : Int) :: o.who
def labelG (it : Int → List UInt8) (ns : List Int) : List UInt8 := (ns.map fun n => 32 :: it n).flatten
def labT (it : Int → List UInt8) (ns : List Int) : List UInt8 := [111, 112] ++ labelG it ns
def labelT (it : Int → List UInt8) (o : OpV) : List UInt8 := labT it (numsV o)
theorem cvt_wj (n : Nat) (h : n < 4294967296) : cvtA .i64 (.lit (wn n)) = some (.lit (jn n)) := by
  simp only [cvtA, wn, wrap_i64 (Int.le_trans (by decide) (Int.natCast_nonneg n)) (by omega)]
  rfl
theorem labelG_len {it : Int → List UInt8} : ∀ {ns : List Int}, (∀ n ∈ ns, (it n).length ≤ 30) → (labelG it ns).length ≤ 31 * ns.length
  | [], _ => by simp [labelG]
  | n :: ns, h => by
    have := labelG_len (ns := ns) fun m hm => h m (by simp [hm])
    have := h n (by simp)
    simp only [labelG, List.map_cons, List.flatten_cons, List.length_append, List.length_cons] at *
    omega
set_option maxHeartbeats 8000000 in
theorem label_call {o : OpV} (ho : OpOk o) {it : Int → List UInt8} (hit : ∀ n ∈ numsV o, PCall Go.Proofs.Tryz.prog 67 [.lit (ji n)] (.val (.lit (tx (it n))))) (hil : ∀ n ∈ numsV o, (it n).length ≤ 30) :
    PCall Go.Proofs.Tryz.prog 45 [opA o] (.val (.lit (tx (labelT it o)))) := by
  have h522 := fc522_eq
  have o5 := ho.ofk
  have o6 := ho.check
  have hsq := cvt_wj o.seq ho.seq
  have hwl := ho.who
  have hA : opA o = opB o.author o.seq o.parents o.kind (o.who.map fun x => AV.lit (ji x)) o.ofk o.check o.text (o.boxes.map fun x => boxA x) := rfl
  have hml : (o.who.map fun x => AV.lit (ji x)).length = o.who.length := List.length_map _
  have hns : [AV.lit (ji o.kind), .lit (ji o.author), .lit (jn o.seq)] ++ (o.who.map fun x => AV.lit (ji x)) = (numsV o).map fun x => AV.lit (ji x) := rfl
  have hnl : (numsV o).length = o.who.length + 3 := rfl
  rw [hA]
  unfold opB labelT
  generalize (o.who.map fun x => AV.lit (ji x)) = W at *
  generalize numsV o = ns at *
  have hTl : (ns.map fun x => AV.lit (ji x)).length = ns.length := List.length_map _
  have hTg : ∀ i a, ns[i]? = some a → (ns.map fun x => AV.lit (ji x))[i]? = some (AV.lit (ji a)) := fun i a h => by rw [List.getElem?_map, h]; rfl
  generalize (ns.map fun x => AV.lit (ji x)) = T at *
  refine PCall.of h522 rfl ?_; show AC.wp _ fb522 (AS.init [.st [1, 1, 1, 1, 1, 32, 32, 1, 1] [.lit (ji o.author), .lit (wn o.seq), .sl 32 (klA o.parents), .lit (ji o.kind), .sl 1 W, keyA o.ofk, keyA o.check, .lit (tx o.text), .sl 36 (o.boxes.map fun x => boxA x)]] 1 29) (fun x s => match x with | .exit _ => False | _ => Fin [(.tmp 2)] s _); unfold fb522 AS.init
  refine wp_sg (areg_bx rfl (by simp [AS.ev, AV.sz, keyA, o5, o6]) fun l1 => areg_end (by simp [push_cast]; exact rfl) ?_)
  refine wp_sr (by simp [push_cast]; exact rfl) ?_
  refine wp_seq' (wp_sg ?_)
  refine areg_run 7 (by simp [push_cast, o5, o6, hsq]; exact rfl) ?_
  refine areg_bown (vs := [.lit (ji o.kind), .lit (ji o.author), .lit (jn o.seq)]) (els := [.lit (ji o.kind), .lit (ji o.author), .lit (jn o.seq)]) rfl (by simp [fillV, AV.sub, AV.upd, AV.isTup, AV.sz]; rfl) (by intro t ht; cases ht) fun V1 => ?_
  refine areg_run 2 (by simp [push_cast, o5, o6]; exact rfl) ?_
  refine areg_ap (b := 13) (V := V1) (ys := W) rfl rfl (by simp [AS.ev, AS.coe]) (by rw [hml]; simp [maxLen]; omega) (by rw [hml]; simp; omega) (fun V2 => ?_)
  rw [hns]
  refine areg_end (by simp [push_cast, hTl]; exact rfl) ?_
  refine wp_block' (wp_loop_m (fun i : Nat => (⟨0, [.st [1, 1, 1, 1, 1, 32, 32, 1, 1] [.lit (ji o.author), .lit (wn o.seq), .sl 32 (klA o.parents), .lit (ji o.kind), .sl 1 W, keyA o.ofk, keyA o.check, .lit (tx o.text), .sl 36 (o.boxes.map fun x => boxA x)], .ptr 1 l1 0 [], .lit (tx []), .lit (tx (labT it (ns.take i)))] ++ List.replicate 12 .any ++ [.own 16 V2, .lit (jn ns.length), .lit (jn i)] ++ List.replicate 10 .any, List.replicate 16 none ++ [some (.row 3 V2 1 T 0)] ++ List.replicate 12 none⟩ : AS)) (fun i => ns.length - i) (fun i => i ≤ ns.length) 0 ?_ (by simp) ?_)
  · exact Le.mk rfl (by simp [leT, labT, labelG, keyA]) (by simp [leH])
  intro i hi
  simp only at hi ⊢
  by_cases hlt : i < ns.length
  · obtain ⟨n, hn⟩ : ∃ n, ns[i]? = some n := ⟨_, List.getElem?_eq_getElem hlt⟩
    have hmem := List.mem_of_getElem? hn
    have c := hit n hmem
    have hl1 := hil n hmem
    have hl2 : (labelG it (ns.take i)).length ≤ 31 * ns.length := Nat.le_trans (labelG_len fun m hm => hil m (List.mem_of_mem_take hm)) (by rw [List.length_take]; exact Nat.mul_le_mul_left _ (Nat.min_le_right _ _))
    have g1 := hTg i n hn
    have g2 : ∀ h, T[i]'h = AV.lit (ji n) := fun h => by rw [List.getElem?_eq_getElem h] at g1; exact Option.some.inj g1
    have q1 : i + 1 < 9223372036854775808 := by omega
    have hb1 : binVal .add (tx [32]) (tx (it n)) = some (tx (32 :: it n)) := bin_adds _ _ (by simp only [List.length_cons, List.length_nil]; omega)
    have hb2 : binVal .add (tx (labT it (ns.take i))) (tx (32 :: it n)) = some (tx (labT it (ns.take (i + 1)))) := by
      have e : labelG it (ns.take (i + 1)) = labelG it (ns.take i) ++ (32 :: it n) := by unfold labelG; rw [List.take_add_one, hn]; simp
      unfold labT
      rw [bin_adds _ _ (by simp only [List.length_append, List.length_cons, List.length_nil]; omega), e, List.append_assoc]
    generalize labT it (ns.take i) = acc at *
    obtain ⟨acc2, hacc2⟩ : ∃ acc2, acc2 = labT it (ns.take (i + 1)) := ⟨_, rfl⟩
    rw [← hacc2] at hb2
    refine wp_sr (by simp [push_cast, hlt]; exact rfl) (wp_seq' (wp_cond_t (by simp [AS.ev]) (wp_skip' ?_)))
    refine wp_seq' (wp_block' (wp_sr (by simp [push_cast, hTl, g1, g2, hlt]; exact rfl) ?_))
    refine wp_rg ?_
    refine areg_run 2 (by simp [push_cast]; exact rfl) ?_
    refine areg_ca (by simp [AS.ev, AS.coe, AS.put] <;> exact rfl) c ?_
    refine areg_end (by simp [push_cast, hb1, hb2]; exact rfl) ?_
    refine wp_r (by simp [push_cast, q1]; exact rfl) ?_
    exact Exists.intro (i + 1) ⟨by omega, by omega, Le.mk rfl (by simp [leT, keyA, hacc2]) (by simp [leH])⟩
  · have hin : i = ns.length := by omega
    subst hin
    rw [List.take_length]
    refine wp_sr (by simp [push_cast]; exact rfl) (wp_seq' (wp_cond_f (by simp [AS.ev]) (wp_exit' (if_hit rfl ?_))))
    refine wp_sr (by simp [push_cast]; exact rfl) (wp_ret' ?_)
    exact fin_tmp (by simp [RVal, AS.ev, AS.coe]) (by simp)
theorem KC.seal {P : Program} {f : FuncId} {vs : List AV} {H : List (Option Blk)} {t : Tb} {ts ts' : List Term} {r : AV} {c i e esz sl : Nat} {els : List AV} {V : Value} (h : KC P f (vs.set i (.sl esz els)) H t ts r ts') {V0 : Value} {L : List (Option Blk)} (hi : vs[i]? = some (.own (H.length + c) V)) (hc : L[c]? = some (some (.row e V esz els sl))) :
    XCall P f vs (tbOf H t V0 ts ++ L) fun r' H' => r' = r ∧ ∃ V', H' = tbOf H t V' ts' ++ L.set c none := by
  have g1 := cat1 H.length (tbOf H t V0 ts) L c (tbOf_len _ _ _ _)
  have g2 := cat2 H.length (tbOf H t V0 ts) L c (none : Option Blk) (tbOf_len _ _ _ _)
  have hle := Le.sealed (s := ⟨0, vs, tbOf H t V0 ts ++ L⟩) (t := i) (b := H.length + c) (e := e) (V := V) (esz := esz) (els := els) (sl := sl) hi (by simp only [AS.blk, g1, hc]; rfl)
  simp only [g2] at hle
  exact XCall.ofLe hle (by simp) (h V0 (L.set c none))
def byT (it : Int → List UInt8) (o : OpV) : Term := ⟨2, labelT it o, o.parents ++ [o.ofk, zk]⟩
def byV (it : Int → List UInt8) (ts : List Term) (o : OpV) : List UInt8 × List Term := if rightV o then (nameK (putN ts (byT it o)), putT ts (byT it o)) else (zk, ts)
theorem labelT_len {it : Int → List UInt8} {o : OpV} (ho : OpOk o) (hil : ∀ n ∈ numsV o, (it n).length ≤ 30) (hw : o.who.length < 1000) : (labelT it o).length < 100000 := by
  have := labelG_len hil
  have e : (numsV o).length = o.who.length + 3 := rfl
  unfold labelT labT
  simp only [List.length_append, List.length_cons, List.length_nil]
  omega
theorem tgt_hashI (b : Nat) (l : Nat × Nat) (x y : AV) : tgtA Go.Proofs.Tryz.prog (.inv "Hash") [freeI b l, x, y] = some (32, [.ptr b l 0 [], x, y]) := by kernel_rfl
theorem nilv_hash (b : Nat) (l : Nat × Nat) : rdA Go.Proofs.Tryz.prog (fun _ => none) .nilv [.fnv (.method "Hash") [freeI b l] []] = some (.fnv (.method "Hash") [freeI b l] []) := by kernel_rfl
theorem hash_k {H : List (Option Blk)} {t : Tb} {V0 : Value} {ts0 ts : List Term} (hh : TbOk H t V0 ts0) (hn : ts.length < 100000) {s : List UInt8} (hs : s.length < 100000) {ks : List (List UInt8)} (hk : ks.length < 100000) (h32 : ∀ k ∈ ks, k.length = 32) : KC Go.Proofs.Tryz.prog 32 [.ptr t.b t.l 0 [], .lit (tx s), .sl 32 (klA ks)] H t ts (keyA (nameK (putN ts ⟨2, s, ks⟩))) (putT ts ⟨2, s, ks⟩) :=
  KC.of hh fun H V h => hash_call h hn s hs ks hk h32
set_option maxHeartbeats 16000000 in
theorem by_call {H : List (Option Blk)} {t : Tb} {V : Value} {ts : List Term} (hh : TbOk H t V ts) (hn : ts.length < 100000) {o : OpV} (ho : OpOk o) (hbl : ∀ b ∈ o.boxes, b.body.length < 9223372036854775808) (hw : o.who.length < 1000) (hp : o.parents.length < 1000) {it : Int → List UInt8} (hit : ∀ n ∈ numsV o, PCall Go.Proofs.Tryz.prog 67 [.lit (ji n)] (.val (.lit (tx (it n))))) (hil : ∀ n ∈ numsV o, (it n).length ≤ 30) :
    XCall Go.Proofs.Tryz.prog 26 [freeI t.b t.l, opA o] H fun r H' => r = keyA (byV it ts o).1 ∧ ∃ V', H' = tbOf H t V' (byV it ts o).2 := by
  have h519 := fc519_eq
  refine XCall.le ?_
  have hc24 : callable Go.Proofs.Tryz.prog 46 = true := by kernel_rfl
  have cR := right_call ho hbl
  have cL := label_call ho hit hil
  have hll := labelT_len ho hil hw
  have cC := fun H => PCall.xrow H (clone_row (klA o.parents) (by rw [klA_len]; omega))
  have o5 := ho.ofk
  have o6 := ho.check
  have h32 : ∀ k ∈ o.parents ++ [o.ofk, zk], k.length = 32 := fun k hk => by
    simp only [List.mem_append, List.mem_cons, List.not_mem_nil, or_false] at hk
    rcases hk with hk | rfl | rfl
    · exact ho.p32 k hk
    · exact o5
    · exact zk_len
  have hkl : klA o.parents ++ klA [o.ofk, zk] = klA (o.parents ++ [o.ofk, zk]) := by simp [klA]
  have hpl : (o.parents ++ [o.ofk, zk]).length = o.parents.length + 2 := by simp
  have hpl0 := klA_len o.parents
  have hhash := fun V L => hash_k hh hn hll (ks := o.parents ++ [o.ofk, zk]) (by omega) h32 V L
  have hself := hh.self
  have G1 : ∀ V' ts', (tbOf H t V' ts').length = H.length := fun V' ts' => tbOf_len _ _ _ _
  have g1 : ∀ V' ts' L k, (tbOf H t V' ts' ++ L)[H.length + k]? = L[k]? := fun V' ts' L k => cat1 _ _ _ _ (G1 _ _)
  have g2 : ∀ V' ts' L k x, (tbOf H t V' ts' ++ L).set (H.length + k) x = tbOf H t V' ts' ++ L.set k x := fun V' ts' L k x => cat2 _ _ _ _ _ (G1 _ _)
  have hA : opA o = opB o.author o.seq o.parents o.kind (o.who.map fun x => AV.lit (ji x)) o.ofk o.check o.text (o.boxes.map fun x => boxA x) := rfl
  rw [hA] at cR cL ⊢
  have hby : byV it ts o = if rightV o then (nameK (putN ts ⟨2, labelT it o, o.parents ++ [o.ofk, zk]⟩), putT ts ⟨2, labelT it o, o.parents ++ [o.ofk, zk]⟩) else (zk, ts) := rfl
  have bsz : ∀ W B, (opB o.author o.seq o.parents o.kind W o.ofk o.check o.text B).sz = 71 := fun W B => by simp [opB, AV.sz, keyA, o5, o6]
  rw [hby]
  generalize labelT it o = lb at *
  generalize (o.who.map fun x => AV.lit (ji x)) = W at *
  generalize (o.boxes.map fun x => boxA x) = B at *
  generalize rightV o = rv at *
  refine XCall.of h519 rfl ?_; show AC.wp _ fb519 ⟨H.length, [freeI t.b t.l, opB o.author o.seq o.parents o.kind W o.ofk o.check o.text B] ++ List.replicate (24 - 2) .any, H ++ List.replicate 24 none⟩ (fun x s => match x with | .exit _ => False | _ => ∃ s1, Le s s1 ∧ FinX [(.cell 4 .true 32)] s1 _); unfold fb519
  rw [← hself]
  rw [tbOf_len]
  generalize hN : H.length = N at *
  refine wp_sg (areg_bx rfl (by simp [AS.ev, bsz]) fun l3 => areg_al' zk_eq.symm fun l4 => areg_end (by simp [push_cast, g2]; exact rfl) ?_)
  unfold opB at cR cL ⊢
  have cR' := cR
  have cL' := cL
  unfold keyA at cR' cL'
  refine wp_seq' (wp_seq' (wp_rg ?_))
  refine areg_run 1 (by simp [push_cast, g1, o5, o6]; exact rfl) ?_
  refine areg_ca (by simp [AS.ev, AS.coe, AS.put] <;> exact rfl) cR' ?_
  cases rv with
  | false =>
    refine areg_end (by simp [push_cast]; exact rfl) ?_
    refine wp_cond_t (by simp [AS.ev]) (wp_sg (areg_bz (areg_end (by simp [push_cast, g1, g2, zk_len]; exact rfl) (wp_ret' ?_))))
    exact ⟨_, Le.refl _, [], _, ⟨by simp [AS.seals, RVals, RVal, AS.ev, AS.peek, AS.blk, g1, Blk.loc, Blk.cont, Blk.n, AV.nav, AV.isAgg, AV.isTup, AS.coe]; rfl, by simp [keyA]⟩, keyA zk, _, RelLe.refl _, by simp [keyA], HpLe.trim _ _, rfl, V, (hh.of_of _ _ _ _).symm⟩
  | true =>
    refine areg_end (by simp [push_cast]; exact rfl) ?_
    refine wp_cond_f (by simp [AS.ev]) (wp_skip' ?_)
    refine wp_sg ?_
    refine areg_run 2 (by simp [push_cast, g1, o5, o6]; exact rfl) ?_
    refine areg_cv (by simp [AS.ev, AS.coe, AS.put] <;> exact rfl) cL' ?_ (by intro p hp b V; simp at hp; subst hp; simp [AS.ev, AS.put])
    refine areg_run 2 (by simp [push_cast, g1, o5, o6]; exact rfl) ?_
    refine areg_xq (us := [.sl 32 (klA o.parents)]) rfl (by simp only [tgtA, tgtB, Option.bind_some, hc24, if_true]) (cC _) ⟨_, _, .slice none 0 0, rfl, rfl⟩ (fun r hp' hK t' ht' b hb' => ?_) ?_
    · obtain ⟨V', rfl, rfl⟩ := hK
      simp at ht'
      subst ht'
      simp [AS.ev, AV.place] at hb'
      subst hb'
      simp [g1]
    rintro r H' ⟨V2, rfl, rfl⟩
    refine areg_run 2 (by simp [push_cast, g1, G1, o5, o6]; exact rfl) ?_
    refine areg_bz ?_
    refine areg_run 1 (by simp [push_cast, o5, zk_len]; exact rfl) ?_
    refine areg_ap (b := N + 24) (V := V2) (ys := klA [o.ofk, zk]) rfl (by simp only [AS.blk, g1]; rfl) (by simp [AS.ev, AS.coe, klA, keyA]) (by rw [klA_len, klA_len]; simp [maxLen]; omega) (by rw [klA_len, klA_len]; simp; omega) (fun V3 => ?_) (by
      intro t' ht' b hb'
      simp at ht')
    rw [hkl]
    refine areg_run 0 (by simp [push_cast, g2]; exact rfl) ?_
    refine areg_rdp (us := [freeI t.b t.l]) rfl (mkfn_draw _ _ _) ?_
    refine areg_rdp (us := [.fnv (.method "Hash") [freeI t.b t.l] []]) rfl (nilv_hash _ _) ?_
    refine areg_run 1 (by simp [push_cast]; exact rfl) ?_
    refine areg_xq (us := [freeI t.b t.l, .lit (tx lb), .own (N + 19) V3]) rfl (tgt_hashI _ _ _ _) (KC.seal (vs := [.ptr t.b t.l 0 [], .lit (tx lb), .own (N + 19) V3]) (i := 2) (c := 19) (e := 23) (esz := 32) (els := klA (o.parents ++ [o.ofk, zk])) (sl := 0) hhash (by rw [← hN]; rfl) rfl) ⟨_, _, rfl, .slice none 0 0, rfl⟩ (fun r hp' hK t' ht' => by cases ht') ?_
    rintro r H' ⟨rfl, V4, rfl⟩
    refine areg_end (by simp [push_cast, g1, g2, nameK_len]; exact rfl) (wp_ret' ?_)
    exact ⟨_, Le.refl _, [], _, ⟨by simp [AS.seals, RVals, RVal, AS.ev, AS.peek, AS.blk, g1, Blk.loc, Blk.cont, Blk.n, AV.nav, AV.isAgg, AV.isTup, AS.coe]; rfl, by simp [keyA]⟩, keyA _, _, RelLe.refl _, by simp [keyA], HpLe.trim _ _, rfl, V4, (hh.of_of _ _ _ _).symm⟩
def twoV (ts : List Term) (s : List UInt8) (ks : List (List UInt8)) : (List UInt8 × List UInt8) × List Term :=
  ((nameK (putN ts ⟨2, s ++ [47, 49], ks⟩), nameK (putN (putT ts ⟨2, s ++ [47, 49], ks⟩) ⟨2, s ++ [47, 50], ks⟩)), putT (putT ts ⟨2, s ++ [47, 49], ks⟩) ⟨2, s ++ [47, 50], ks⟩)
set_option maxHeartbeats 8000000 in
theorem two_call {H : List (Option Blk)} {t : Tb} {V : Value} {ts : List Term} (hh : TbOk H t V ts) (hn : ts.length + 1 < 100000) {s : List UInt8} (hs : s.length < 90000) {ks : List (List UInt8)} (hk : ks.length < 100000) (h32 : ∀ k ∈ ks, k.length = 32) :
    XCall Go.Proofs.Tryz.prog 14 [freeI t.b t.l, .lit (tx s), .sl 32 (klA ks)] H fun r H' => r = .tup [keyA (twoV ts s ks).1.1, keyA (twoV ts s ks).1.2] ∧ ∃ V', H' = tbOf H t V' (twoV ts s ks).2 := by
  have h515 := fc515_eq
  refine XCall.le ?_
  have hself := hh.self
  have G1 : ∀ V' ts', (tbOf H t V' ts').length = H.length := fun V' ts' => tbOf_len _ _ _ _
  have g1 : ∀ V' ts' L k, (tbOf H t V' ts' ++ L)[H.length + k]? = L[k]? := fun V' ts' L k => cat1 _ _ _ _ (G1 _ _)
  have g2 : ∀ V' ts' L k x, (tbOf H t V' ts' ++ L).set (H.length + k) x = tbOf H t V' ts' ++ L.set k x := fun V' ts' L k x => cat2 _ _ _ _ _ (G1 _ _)
  have hb1 : binVal .add (tx s) (tx [47, 49]) = some (tx (s ++ [47, 49])) := bin_adds _ _ (by simp only [List.length_cons, List.length_nil]; omega)
  have hb2 : binVal .add (tx s) (tx [47, 50]) = some (tx (s ++ [47, 50])) := bin_adds _ _ (by simp only [List.length_cons, List.length_nil]; omega)
  have l1 : (s ++ [47, 49]).length < 100000 := by simp; omega
  have l2 : (s ++ [47, 50]).length < 100000 := by simp; omega
  have hln := putT_len ts ⟨2, s ++ [47, 49], ks⟩
  have hk1 := hash_k hh (ts := ts) (by omega) l1 hk h32
  have hk2 := hash_k hh (ts := putT ts ⟨2, s ++ [47, 49], ks⟩) (by omega) l2 hk h32
  have n1 := nameK_len (putN ts ⟨2, s ++ [47, 49], ks⟩)
  have n2 := nameK_len (putN (putT ts ⟨2, s ++ [47, 49], ks⟩) ⟨2, s ++ [47, 50], ks⟩)
  unfold twoV
  simp only
  generalize nameK (putN ts ⟨2, s ++ [47, 49], ks⟩) = k1 at *
  generalize nameK (putN (putT ts ⟨2, s ++ [47, 49], ks⟩) ⟨2, s ++ [47, 50], ks⟩) = k2 at *
  generalize putT (putT ts ⟨2, s ++ [47, 49], ks⟩) ⟨2, s ++ [47, 50], ks⟩ = ts3 at *
  generalize putT ts ⟨2, s ++ [47, 49], ks⟩ = ts2 at *
  generalize s ++ [47, 49] = sa at *
  generalize s ++ [47, 50] = sb at *
  refine XCall.of h515 rfl ?_; show AC.wp _ fb515 ⟨H.length, [freeI t.b t.l, .lit (tx s), .sl 32 (klA ks)] ++ List.replicate (18 - 3) .any, H ++ List.replicate 18 none⟩ (fun x s => match x with | .exit _ => False | _ => ∃ s1, Le s s1 ∧ FinX [(.cell 6 .true 32), (.cell 7 .true 32)] s1 _); unfold fb515
  rw [← hself]
  rw [tbOf_len]
  generalize hN : H.length = N at *
  refine wp_sg (areg_al' zk_eq.symm fun l6 => areg_al' zk_eq.symm fun l7 => areg_end (by simp [push_cast, g2]; exact rfl) ?_)
  refine wp_sg ?_
  refine areg_run 4 (by simp [push_cast, hb1]; exact rfl) ?_
  refine areg_k [freeI t.b t.l, .lit (tx sa), .sl 32 (klA ks)] hN rfl (tgt_hashI _ _ _ _) hk1 (by simp) (by simp) fun V2 => ?_
  refine areg_run 4 (by simp [push_cast, hb2]; exact rfl) ?_
  refine areg_k [freeI t.b t.l, .lit (tx sb), .sl 32 (klA ks)] hN rfl (tgt_hashI _ _ _ _) hk2 (by simp) (by simp) fun V3 => ?_
  refine areg_end (by simp [push_cast, g1, g2, n1, n2]; exact rfl) (wp_ret' ?_)
  exact ⟨_, Le.refl _, [], _, ⟨_, rfl, by simp [AS.seals, RVals, RVal, AS.ev, AS.peek, AS.blk, g1, Blk.loc, Blk.cont, Blk.n, AV.nav, AV.isAgg, AV.isTup, AS.coe]; rfl, by simp [keyA]⟩, .tup [keyA k1, keyA k2], _, RelLe.refl _, by simp, HpLe.trim _ _, rfl, V3, (hh.of_of _ _ _ _).symm⟩
end Go.Cab
namespace Go.Cab
open Go.RowKit
open Classical
def fb521 : AC := (.seq (.reg [⟨some 2, none, .mov (.const (.slice .none 0 0)), [], none⟩]) (.seq (.seq (.reg [⟨some 3, none, .mov (.tmp 0), [], none⟩, ⟨some 4, none, .ef (.isnil false) [.tmp 3], [], none⟩]) (.cond (.tmp 4) (.seq (.reg [⟨some 2, none, .mov (.const (.slice .none 0 0)), [], none⟩]) .ret) .skip)) (.seq (.reg [⟨some 5, none, .ef (.bown 89 65 (.st [32, 1, 32] [(.arr 1 (List.replicate 32 (.lit (bn 0)))), (.lit (jn 0)), (.arr 1 (List.replicate 32 (.lit (bn 0))))]) 0 []) [], [], none⟩, ⟨some 6, none, .mov (.tmp 0), [], none⟩, ⟨some 7, none, .append 89 65 72 (.tmp 5) (.tmp 6), [], none⟩, ⟨some 2, none, .mov (.tmp 7), [], none⟩]) .ret)))
def fc521 : FC := ⟨1, 8, [(.tmp 2)], fb521⟩
theorem fc521_eq : compF Go.Proofs.Tryz.prog 44 = some fc521 := by kernel_rfl
def fb511 : AC := (.seq (.reg [⟨some 1, none, .box 32 (.tmp 0), [], none⟩, ⟨some 2, none, .alloc 529 (.st [528, 1] [(.arr 66 (List.replicate 8 (.st [1, 1, 32, 32] [(.lit (.bool false)), (.lit (.bool false)), (.arr 1 (List.replicate 32 (.lit (bn 0)))), (.arr 1 (List.replicate 32 (.lit (bn 0))))]))), (.lit (.slice .none 0 0))]), [], none⟩]) (.seq (.reg [⟨some 3, none, .alloc 529 (.st [528, 1] [(.arr 66 (List.replicate 8 (.st [1, 1, 32, 32] [(.lit (.bool false)), (.lit (.bool false)), (.arr 1 (List.replicate 32 (.lit (bn 0)))), (.arr 1 (List.replicate 32 (.lit (bn 0))))]))), (.lit (.slice .none 0 0))]), [], none⟩]) (.seq (.reg [⟨some 4, none, .build (.arr 1 (List.replicate 32 (.lit (bn 0)))) [(0, (.const (bn 2)))], [], none⟩, ⟨some 5, none, .load true 32 (.tmp 1), [], none⟩, ⟨some 6, none, .build (.st [1, 1, 32, 32] [(.lit (.bool false)), (.lit (.bool false)), (.arr 1 (List.replicate 32 (.lit (bn 0)))), (.arr 1 (List.replicate 32 (.lit (bn 0))))]) [(0, (.const (.bool true))), (2, (.tmp 4)), (3, (.tmp 5))], [], none⟩, ⟨some 7, none, .faddr 0 0 (.tmp 3), [], none⟩, ⟨some 8, none, .iaddrA 8 66 (.tmp 7) (.const (jn 1)), [], none⟩, ⟨none, none, .store 66 (.tmp 8) (.tmp 6), [], none⟩]) (.seq (.reg [⟨some 9, none, .load true 529 (.tmp 3), [], none⟩, ⟨none, none, .store 529 (.tmp 2) (.tmp 9), [], none⟩]) .ret))))
def fc511 : FC := ⟨1, 10, [(.cell 2 .true 529)], fb511⟩
theorem fc511_eq : compF Go.Proofs.Tryz.prog 19 = some fc511 := by kernel_rfl
def fb512 : AC := (.seq (.reg [⟨some 2, none, .alloc 71 (.st [1, 1, 1, 1, 1, 32, 32, 1, 1] [(.lit (jn 0)), (.lit (wn 0)), (.lit (.slice .none 0 0)), (.lit (jn 0)), (.lit (.slice .none 0 0)), (.arr 1 (List.replicate 32 (.lit (bn 0)))), (.arr 1 (List.replicate 32 (.lit (bn 0)))), (.lit (tx [])), (.lit (.slice .none 0 0))]), [], none⟩]) (.seq (.reg [⟨some 3, none, .mov (.tmp 0), [], none⟩, ⟨some 4, none, .build (.arr 1 (List.replicate 32 (.lit (bn 0)))) [(0, (.const (bn 1)))], [], none⟩, ⟨some 5, none, .bslice 32 (.arr 1 (List.replicate 32 (.lit (bn 0)))) 1 [(0, (.tmp 4))], [], none⟩, ⟨some 6, none, .build (.st [1, 34, 1] [(.lit (jn 0)), (.st [32, 1, 1] [(.arr 1 (List.replicate 32 (.lit (bn 0)))), (.lit (wn 0)), (.lit (wn 0))]), (.lit (tx []))]) [(0, (.const (jn 2)))], [], none⟩, ⟨some 7, none, .bslice 36 (.st [1, 34, 1] [(.lit (jn 0)), (.st [32, 1, 1] [(.arr 1 (List.replicate 32 (.lit (bn 0)))), (.lit (wn 0)), (.lit (wn 0))]), (.lit (tx []))]) 1 [(0, (.tmp 6))], [], none⟩, ⟨some 8, none, .build (.st [1, 1, 1, 1, 1, 32, 32, 1, 1] [(.lit (jn 0)), (.lit (wn 0)), (.lit (.slice .none 0 0)), (.lit (jn 0)), (.lit (.slice .none 0 0)), (.arr 1 (List.replicate 32 (.lit (bn 0)))), (.arr 1 (List.replicate 32 (.lit (bn 0)))), (.lit (tx [])), (.lit (.slice .none 0 0))]) [(0, (.const (jn 1))), (1, (.tmp 3)), (3, (.const (jn 7))), (2, (.tmp 5)), (8, (.tmp 7))], [], none⟩, ⟨none, none, .store 71 (.tmp 2) (.tmp 8), [], none⟩]) .ret))
def fc512 : FC := ⟨1, 9, [(.cell 2 .true 71)], fb512⟩
theorem fc512_eq : compF Go.Proofs.Tryz.prog 21 = some fc512 := by kernel_rfl
def fb555 : AC := (.seq (.reg [⟨some 6, none, .box 32 (.tmp 1), [], none⟩, ⟨some 7, none, .box 32 (.tmp 2), [], none⟩, ⟨some 10, none, .mov (.const (tx [])), [], none⟩]) (.seq (.reg [⟨some 12, none, .mov (.tmp 0), [], none⟩, ⟨some 13, none, .mov (.tmp 3), [], none⟩, ⟨some 14, none, .load true 32 (.tmp 6), [], none⟩, ⟨some 15, none, .load true 32 (.tmp 7), [], none⟩, ⟨some 16, none, .ef (.bown 23 32 (.arr 1 (List.replicate 32 (.lit (bn 0)))) 2 [0, 1]) [.tmp 14, .tmp 15], [], none⟩, ⟨some 17, none, .mov (.tmp 4), [], none⟩, ⟨some 18, none, .append 23 32 32 (.tmp 16) (.tmp 17), [], none⟩, ⟨some 19, none, .icall 41 (.tmp 12) [(.const (jn 6)), (.tmp 13), (.tmp 18)], [], none⟩, ⟨some 11, none, .alloc 32 (.arr 1 (List.replicate 32 (.lit (bn 0)))), [], none⟩, ⟨none, none, .store 32 (.tmp 11) (.tmp 19), [], none⟩]) (.seq (.reg [⟨some 20, none, .rdp (.vslice 1 32 false false) [.tmp 11], [], none⟩, ⟨some 21, none, .rd .b2sv [.tmp 20], [], none⟩, ⟨some 10, none, .mov (.tmp 21), [], none⟩]) .ret)))
def fc555 : FC := ⟨5, 22, [(.tmp 10)], fb555⟩
theorem fc555_eq : compF Go.Proofs.Tryz.prog 16 = some fc555 := by kernel_rfl
theorem areg_b2sv {P : Program} {s : AS} {K : AS → Prop} {xs : List AOp} {d : Option Tmp} {x : Operand} {u : AV} {a : List UInt8} (ex : s.ev x = u) (hx : listB s.blk 1 u = some (bl a)) (h1 : u.isLit = false)
    (h : AReg P xs (s.put d (.lit (tx a))) K) : AReg P (⟨d, none, .rd .b2sv [x], [], none⟩ :: xs) s K := by
  refine AOp.ex_go (s' := s.put d (.lit (tx a))) ?_ h
  have hro : (AOp.ro ⟨d, none, .rd .b2sv [x], [], none⟩ s.nr) = tt := by funext b; rfl
  have hb : (fun b => if tt b then s.blk b else none) = s.blk := by funext b; rfl
  have e : rdB s.blk .b2sv [u] = some (.lit (tx a)) := by
    simp only [rdB, hx, Option.bind_some, bytes_bl, h1, Option.map_some, strOf_bl]
    rfl
  simp only [AOp.ex, AOp.ex0, AOp.mineB, if_true, ex_rd, List.map_cons, List.map_nil, ex, hro, hb, e, Option.map_some]
set_option maxHeartbeats 1000000 in
theorem cloneW_row (els : List AV) (hn : els.length < 100000) : PCall Go.Proofs.Tryz.prog 44 [.sl 65 els] (.row 89 65 els) := by
  have h521 := fc521_eq
  refine PCall.of h521 rfl ?_; show AC.wp _ fb521 (AS.init [.sl 65 els] 1 8) (fun x s => match x with | .exit _ => False | _ => Fin [(.tmp 2)] s _); unfold fb521 AS.init
  refine wp_sr (by simp [push_cast]; exact rfl) ?_
  refine wp_seq' (wp_seq' (wp_rg ?_))
  refine areg_run 1 (by simp [push_cast]; exact rfl) ?_
  refine areg_nils rfl fun b hb => areg_nil ?_
  cases b with
  | true =>
    obtain rfl := hb rfl
    refine wp_cond_t rfl (wp_sr (by simp [push_cast]; exact rfl) (wp_ret' ?_))
    exact ⟨2, rfl, .inl ⟨rfl, rfl⟩⟩
  | false =>
    refine wp_cond_f rfl (wp_skip' (wp_sg ?_))
    refine areg_bown (vs := []) (els := []) rfl rfl (by intro t ht; cases ht) fun V => ?_
    refine areg_run 1 (by simp [push_cast]; exact rfl) ?_
    refine areg_ap (ys := els) rfl rfl (by simp [AS.ev, AS.coe]) (by simp [maxLen]; omega) (by simp; omega) fun V' => areg_end (by simp [push_cast]; exact rfl) (wp_ret' ?_)
    exact fin_row rfl rfl
theorem cloneW_call (els : List AV) (hn : els.length < 100000) : PCall Go.Proofs.Tryz.prog 44 [.sl 65 els] (.val (.sl 65 els)) := (cloneW_row els hn).sealed
structure Rat where
  known : Bool
  open_ : Bool
  key : List UInt8
  chain : List UInt8
def ratA (r : Rat) : AV := .st [1, 1, 32, 32] [.lit (.bool r.known), .lit (.bool r.open_), keyA r.key, keyA r.chain]
def keysA (rs : List Rat) (ws : List AV) : AV := .st [528, 1] [.arr 66 (rs.map ratA), .sl 65 ws]
def rat0 : Rat := ⟨false, false, zk, zk⟩
def key2 : List UInt8 := 2 :: List.replicate 31 0
def key1 : List UInt8 := 1 :: List.replicate 31 0
def ratK (k : List UInt8) : Rat := ⟨true, false, key2, k⟩
def knownR (k : List UInt8) : List Rat := [rat0, ratK k, rat0, rat0, rat0, rat0, rat0, rat0]
theorem put_k {H : List (Option Blk)} {t : Tb} {V0 : Value} {ts0 ts : List Term} (hh : TbOk H t V0 ts0) (hn : ts.length < 100000) (x : Term) (hx : TermOk x) : KC Go.Proofs.Tryz.prog 41 [.ptr t.b t.l 0 [], .lit (jn x.kind), .lit (tx x.text), .sl 32 (klA x.keys)] H t ts (keyA (nameK (putN ts x))) (putT ts x) :=
  KC.of hh fun H V h => put_call h hn x hx
def sealT (k b s : List UInt8) : Term := ⟨6, s, [k, b]⟩
set_option maxHeartbeats 8000000 in
theorem seal_call {H : List (Option Blk)} {t : Tb} {V : Value} {ts : List Term} (hh : TbOk H t V ts) (hn : ts.length < 100000) {k b s : List UInt8} (hk : k.length = 32) (hb : b.length = 32) (hs : s.length < 100000) :
    XCall Go.Proofs.Tryz.prog 16 [.ptr t.b t.l 0 [], keyA k, keyA b, .lit (tx s), .sl 32 []] H fun r H' => r = .lit (tx (nameK (putN ts (sealT k b s)))) ∧ ∃ V', H' = tbOf H t V' (putT ts (sealT k b s)) := by
  have h555 := fc555_eq
  refine XCall.le ?_
  have hx : TermOk (sealT k b s) := ⟨by simp [sealT], hs, by simp [sealT], by simp [sealT, hk, hb]⟩
  have hput := put_k hh hn _ hx
  have hself := hh.self
  have nl := nameK_len (putN ts (sealT k b s))
  have G1 : ∀ V' ts', (tbOf H t V' ts').length = H.length := fun V' ts' => tbOf_len _ _ _ _
  have g1 : ∀ V' ts' L k, (tbOf H t V' ts' ++ L)[H.length + k]? = L[k]? := fun V' ts' L k => cat1 _ _ _ _ (G1 _ _)
  have g2 : ∀ V' ts' L k x, (tbOf H t V' ts' ++ L).set (H.length + k) x = tbOf H t V' ts' ++ L.set k x := fun V' ts' L k x => cat2 _ _ _ _ _ (G1 _ _)
  unfold sealT at *
  simp only at hput
  refine XCall.of h555 rfl ?_; show AC.wp _ fb555 ⟨H.length, [.ptr t.b t.l 0 [], keyA k, keyA b, .lit (tx s), .sl 32 []] ++ List.replicate (22 - 5) .any, H ++ List.replicate 22 none⟩ (fun x s => match x with | .exit _ => False | _ => ∃ s1, Le s s1 ∧ FinX [(.tmp 10)] s1 _); unfold fb555
  rw [← hself]
  rw [tbOf_len]
  generalize hN : H.length = N at *
  refine wp_sg (areg_bx rfl (by simp [AS.ev, keyA, AV.sz, bl, hk]) fun l6 => areg_bx rfl (by simp [AS.ev, keyA, AV.sz, bl, hb]) fun l7 => areg_end (by simp [push_cast, g2]; exact rfl) ?_)
  refine wp_sg ?_
  refine areg_run 4 (by simp [push_cast, g1, hk, hb]; exact rfl) ?_
  refine areg_bown (vs := [keyA k, keyA b]) (els := [keyA k, keyA b]) rfl (by simp [fillV, AV.sub, AV.isTup, AV.sz, AV.upd, keyA, bl_len, hk, hb] <;> rfl) (by intro t ht; cases ht) fun V1 => ?_
  refine areg_run 1 (by simp [push_cast]; exact rfl) ?_
  refine areg_ap (b := N + 16) (V := V1) (ys := []) rfl (by simp only [AS.blk, g2, g1]; rfl) (by simp [AS.ev, AS.coe]) (by simp [maxLen]) (by simp) (fun V2 => ?_)
  refine areg_run 0 (by simp [push_cast, g2]; exact rfl) ?_
  refine areg_xc (vs := [.ptr t.b t.l 0 [], .lit (jn 6), .lit (tx s), .own (N + 18) V2]) rfl (KC.seal (i := 3) (c := 18) (e := 23) (esz := 32) (els := klA [k, b]) (sl := 0) hput (by rw [← hN]; rfl) rfl) ⟨_, _, rfl, .slice none 0 0, rfl⟩ ?_
  rintro r H' ⟨rfl, V4, rfl⟩
  generalize nameK (putN ts ⟨6, s, [k, b]⟩) = nk at *
  refine areg_al' zk_eq.symm fun l11 => areg_end (by simp [push_cast, g1, g2, nl]; exact rfl) ?_
  refine wp_sg ?_
  refine areg_run 1 (by simp [push_cast, g1, g2, nl]; exact rfl) ?_
  refine areg_b2sv (u := .view (N + 11) l11 0 [] 1 0 32 32) (a := nk) rfl (by rw [listB_key (b := N + 11) (lo := 0) (len := 32) (cap := 32) (k := nk) (l := l11) (n := 32) (by simp only [AS.blk, g1]; rfl) (by omega), List.drop_zero, List.take_of_length_le (by omega)]) rfl ?_
  refine areg_end (by simp [push_cast]; exact rfl) (wp_ret' ?_)
  exact ⟨_, Le.refl _, finX1 (v := .lit (tx nk)) (by simp [AS.seals, RVals, RVal, AS.ev, AS.coe]) (by simp) ⟨_, _, RelLe.refl _, by simp, HpLe.trim _ _, rfl, V4, (hh.of_of _ _ _ _).symm⟩⟩
def sayO (n : Nat) (m : List UInt8) : OpV := ⟨1, n, [key1], 7, [], zk, zk, m, [⟨2, zk, 0, 0, []⟩]⟩
theorem AVle.nilS (esz : Nat) : AVle (.lit (.slice none 0 0)) (.sl esz []) := fun Imm w cs h => by
  cases h with | lit _ hs => exact .slnil esz
theorem PCall.relLe {P : Program} {f : FuncId} {args : List AV} {r r' : AV} (h : PCall P f args (.val r)) (hr : RelLe r r') (hn : r' ≠ .any) : PCall P f args (.val r') := fun w St Vs a b => by
  refine Calls.mono (h w St Vs a b) fun e w' ⟨V, Imm, h1, h2, h3, h4⟩ => ⟨V, Imm, h1, h2, h3, ?_⟩
  exact ⟨hr _ _ _ h4.1, hn⟩
theorem fill_st {s : AS} {ns : List Nat} {fs : List AV} {i n : Nat} {x : Operand} {rest : List (Nat × Operand)} {v f : AV} {out : Option AV} (hv : s.ev x = v) (hs : ns[i]? = some n) (hf : fs[i]? = some f) (ht : v.isTup = false) (hz : v.sz = n) (h : fillAV s (.st ns (fs.set i v)) rest = out) : fillAV s (.st ns fs) ((i, x) :: rest) = out := by
  subst h
  rw [fillAV]
  simp only [AV.sub, hs, hf, hv, ht, hz, and_self, if_true]
  rw [AV.upd, AV.upd]
theorem fill_ar {s : AS} {n : Nat} {fs : List AV} {i : Nat} {x : Operand} {rest : List (Nat × Operand)} {v f : AV} {out : Option AV} (hv : s.ev x = v) (hf : fs[i]? = some f) (ht : v.isTup = false) (hz : v.sz = n) (h : fillAV s (.arr n (fs.set i v)) rest = out) : fillAV s (.arr n fs) ((i, x) :: rest) = out := by
  subst h
  rw [fillAV]
  simp only [AV.sub, hf, hv, ht, hz, and_self, if_true]
  rw [AV.upd, AV.upd]
theorem areg_bd {P : Program} {s : AS} {K : AS → Prop} {xs : List AOp} {d : Option Tmp} {z z' : AV} {parts : List (Nat × Operand)} {fo : List Tmp} {ow : Option Tmp} (hf : fillAV s z parts = some z') (h : AReg P xs (s.put d z') K) : AReg P (⟨d, none, .build z parts, fo, ow⟩ :: xs) s K := by
  refine AOp.ex_go (s' := s.put d z') ?_ h
  simp only [AOp.ex, AOp.ex0, AOp.mineB, if_true, ex_build, hf, Option.map_some]
theorem areg_bsl {P : Program} {s : AS} {K : AS → Prop} {xs : List AOp} {d : Option Tmp} {esz n k : Nat} {z : AV} {els : List AV} {parts : List (Nat × Operand)} {fo : List Tmp} {ow : Option Tmp} (hf : fillAV s (.arr esz (List.replicate n z)) parts = some (.arr k els)) (h : AReg P xs (s.put d (.sl esz els)) K) : AReg P (⟨d, none, .bslice esz z n parts, fo, ow⟩ :: xs) s K := by
  refine AOp.ex_go (s' := s.put d (.sl esz els)) ?_ h
  simp only [AOp.ex, AOp.ex0, AOp.mineB, if_true, ex_bslice, hf, Option.map_some]
def r0A : AV := ratA rat0
theorem r0A_sz : r0A.sz = 66 := rfl
theorem r0A_agg : r0A.isAgg = true := rfl
theorem r0A_tup : r0A.isTup = false := rfl
theorem ratA_sz {r : Rat} (h1 : r.key.length = 32) (h2 : r.chain.length = 32) : (ratA r).sz = 66 := by simp [ratA, AV.sz, keyA, h1, h2]
theorem ratA_agg (r : Rat) : (ratA r).isAgg = true := rfl
theorem ratA_tup (r : Rat) : (ratA r).isTup = false := rfl
set_option maxHeartbeats 4000000 in
theorem known_call {k : List UInt8} (hk : k.length = 32) : PCall Go.Proofs.Tryz.prog 19 [keyA k] (.val (keysA (knownR k) [])) := by
  have h511 := fc511_eq
  refine PCall.relLe (r := .st [528, 1] [.arr 66 ((knownR k).map ratA), .lit (.slice none 0 0)]) ?_ (RelLe.st (AVle.st1 (AVle.refl _) (AVle.st1 (AVle.nilS 65) AVle.st0))) (by simp [keysA])
  have hkn : (knownR k).map ratA = [r0A, .st [1, 1, 32, 32] [.lit (.bool true), .lit (.bool false), keyA key2, keyA k], r0A, r0A, r0A, r0A, r0A, r0A] := rfl
  have hk2 : key2.length = 32 := rfl
  rw [hkn]
  refine PCall.of h511 rfl ?_; show AC.wp _ fb511 (AS.init [keyA k] 1 10) (fun x s => match x with | .exit _ => False | _ => Fin [(.cell 2 .true 529)] s _); unfold fb511 AS.init
  refine wp_sg (areg_bx rfl (by simp [AS.ev, keyA, AV.sz, bl, hk]) fun l1 => ?_)
  refine areg_al' (z' := .st [528, 1] [.arr 66 [r0A, r0A, r0A, r0A, r0A, r0A, r0A, r0A], .lit (.slice none 0 0)]) rfl fun l2 => areg_end (by simp [push_cast]; exact rfl) ?_
  refine wp_sg (areg_al' (z' := .st [528, 1] [.arr 66 [r0A, r0A, r0A, r0A, r0A, r0A, r0A, r0A], .lit (.slice none 0 0)]) rfl fun l3 => areg_end (by simp [push_cast]; exact rfl) ?_)
  refine wp_sg ?_
  refine areg_bd (z' := keyA key2) (fill_ar rfl rfl rfl rfl rfl) ?_
  refine areg_run 1 (by simp [push_cast, hk]; exact rfl) ?_
  refine areg_bd (z' := .st [1, 1, 32, 32] [.lit (.bool true), .lit (.bool false), keyA key2, keyA k]) (fill_st rfl rfl rfl rfl rfl (fill_st rfl rfl rfl rfl rfl (fill_st rfl rfl rfl rfl (by simp [AV.sz, AS.ev, AS.put, keyA, hk, bl_len]) rfl))) ?_
  generalize key2 = k2 at *
  refine areg_end (by simp [push_cast, hk, hk2]; exact rfl) ?_
  refine wp_sr (by simp [push_cast, hk, hk2]; exact rfl) (wp_ret' ?_)
  exact fin_cell (by simp [RVal, AS.coe, tt, push_cast] <;> exact rfl) (by simp [keyA])
set_option maxHeartbeats 4000000 in
theorem say_call {n : Nat} (hn : n < 4294967296) : PCall Go.Proofs.Tryz.prog 21 [.lit (wn n)] (.val (opA (sayO n []))) := by
  have h512 := fc512_eq
  refine PCall.relLe (r := .st [1, 1, 1, 1, 1, 32, 32, 1, 1] [.lit (ji 1), .lit (wn n), .sl 32 (klA [key1]), .lit (ji 7), .lit (.slice none 0 0), keyA zk, keyA zk, .lit (tx []), .sl 36 [boxA ⟨2, zk, 0, 0, []⟩]]) ?_ (RelLe.st (AVle.st1 (AVle.refl _) (AVle.st1 (AVle.refl _) (AVle.st1 (AVle.refl _) (AVle.st1 (AVle.refl _) (AVle.st1 (AVle.nilS 1) (AVle.refl _))))))) (by simp [opA])
  refine PCall.of h512 rfl ?_; show AC.wp _ fb512 (AS.init [.lit (wn n)] 1 9) (fun x s => match x with | .exit _ => False | _ => Fin [(.cell 2 .true 71)] s _); unfold fb512 AS.init
  refine wp_sg (areg_al' (z' := .st [1, 1, 1, 1, 1, 32, 32, 1, 1] [.lit (ji 0), .lit (wn 0), .lit (.slice none 0 0), .lit (ji 0), .lit (.slice none 0 0), keyA zk, keyA zk, .lit (tx []), .lit (.slice none 0 0)]) rfl fun l2 => areg_end (by simp [push_cast]; exact rfl) ?_)
  refine wp_sg ?_
  refine areg_run 1 (by simp [push_cast]; exact rfl) ?_
  refine areg_bd (z' := keyA key1) (fill_ar rfl rfl rfl rfl rfl) ?_
  refine areg_bsl (k := 32) (els := klA [key1]) (fill_ar rfl rfl rfl rfl rfl) ?_
  refine areg_bd (z' := boxA ⟨2, zk, 0, 0, []⟩) (fill_st rfl rfl rfl rfl rfl rfl) ?_
  refine areg_bsl (k := 36) (els := [boxA ⟨2, zk, 0, 0, []⟩]) (fill_ar rfl rfl rfl rfl rfl) ?_
  refine areg_bd (z' := .st [1, 1, 1, 1, 1, 32, 32, 1, 1] [.lit (ji 1), .lit (wn n), .sl 32 (klA [key1]), .lit (ji 7), .lit (.slice none 0 0), keyA zk, keyA zk, .lit (tx []), .sl 36 [boxA ⟨2, zk, 0, 0, []⟩]]) (fill_st rfl rfl rfl rfl rfl (fill_st rfl rfl rfl rfl rfl (fill_st rfl rfl rfl rfl rfl (fill_st rfl rfl rfl rfl rfl (fill_st rfl rfl rfl rfl rfl rfl))))) ?_
  refine areg_end (by simp [push_cast]; exact rfl) (wp_ret' ?_)
  exact fin_cell (by simp [RVal, AS.coe, tt, push_cast] <;> exact rfl) (by simp [keyA])
end Go.Cab
/- Part 14 of what the proof stands on: V10, V11, V12, V13, GR, V14, KT, KL, IT, WV, V15, V16, V17. -/
import Derived.Test.YtbioecfkifbkbaaGreatDoorCab12
import Derived.Test.YtbioecfkifbkbaaGreatDoorCab13
import Derived.Test.YtbioecfkifbkbaaGreatDoorCab08
import Derived.Test.YtbioecfkifbkbaaGreatDoorCab05
import Derived.ProofKit
import Derived.Deep.Slices
import Derived.Test.YtbioecfkifbkbaaGreatDoorProg
import Derived.LaidSub
import Derived.Lib.LaidTab
import Derived.Lib.ItoaNum
import Derived.Test.YtbioecfkifbkbaaGreatDoorCab09
import Derived.Shelf.LaysM
import Derived.Shelf.Strconv.Itoa3
import Derived.KernelRfl
set_option linter.unusedSimpArgs false
set_option linter.unnecessarySimpa false
set_option linter.unusedVariables false
set_option linter.unusedSectionVars false
namespace Go.Cab
open Go.RowKit
open Classical
def fb731 : AC := (.seq (.reg [⟨some 3, none, .box 1 (.tmp 0), [], none⟩, ⟨some 4, none, .box 529 (.tmp 1), [], none⟩, ⟨some 6, none, .alloc 529 (.st [528, 1] [(.arr 66 (List.replicate 8 (.st [1, 1, 32, 32] [(.lit (.bool false)), (.lit (.bool false)), (.arr 1 (List.replicate 32 (.lit (bn 0)))), (.arr 1 (List.replicate 32 (.lit (bn 0))))]))), (.lit (.slice .none 0 0))]), [], none⟩, ⟨some 7, none, .alloc 32 (.arr 1 (List.replicate 32 (.lit (bn 0)))), [], none⟩]) (.seq (.reg [⟨some 11, none, .load true 1 (.tmp 3), [8, 9], .none⟩, ⟨some 12, none, .mov (.tmp 2), [], none⟩, ⟨some 13, none, .faddr 0 0 (.tmp 4), [], none⟩, ⟨some 14, none, .iaddrA 8 66 (.tmp 13) (.tmp 12), [], none⟩, ⟨some 15, none, .faddr 34 3 (.tmp 14), [], none⟩, ⟨some 16, none, .load true 32 (.tmp 15), [8, 9], (.some 4)⟩, ⟨some 17, none, .bslice 32 (.arr 1 (List.replicate 32 (.lit (bn 0)))) 1 [(0, (.tmp 16))], [], none⟩, ⟨some 18, none, .xc (.dir 52) [(.tmp 11), (.const (tx [115, 97, 121])), (.tmp 17)] [] [8, 9], [], none⟩, ⟨some 10, none, .mov (.tmp 18), [], none⟩, ⟨some 19, none, .ext (.tmp 10) 0, [], none⟩, ⟨some 20, none, .ext (.tmp 10) 1, [], none⟩, ⟨some 8, none, .alloc 32 (.arr 1 (List.replicate 32 (.lit (bn 0)))), [], none⟩, ⟨some 9, none, .alloc 32 (.arr 1 (List.replicate 32 (.lit (bn 0)))), [], none⟩, ⟨none, none, .store 32 (.tmp 8) (.tmp 19), [], none⟩, ⟨none, none, .store 32 (.tmp 9) (.tmp 20), [], none⟩]) (.seq (.reg [⟨some 21, none, .mov (.tmp 2), [], none⟩, ⟨some 22, none, .load true 32 (.tmp 9), [], none⟩, ⟨some 23, none, .faddr 0 0 (.tmp 4), [], none⟩, ⟨some 24, none, .iaddrA 8 66 (.tmp 23) (.tmp 21), [], none⟩, ⟨some 25, none, .faddr 34 3 (.tmp 24), [], none⟩, ⟨none, none, .store 32 (.tmp 25) (.tmp 22), [], none⟩]) (.seq (.reg [⟨some 26, none, .load true 529 (.tmp 4), [], none⟩, ⟨some 27, none, .load true 32 (.tmp 8), [6], .none⟩, ⟨none, none, .store 529 (.tmp 6) (.tmp 26), [], (.some 6)⟩, ⟨none, none, .store 32 (.tmp 7) (.tmp 27), [], none⟩]) .ret))))
def fc731 : FC := ⟨3, 28, [(.cell 6 .true 529), (.cell 7 .true 32)], fb731⟩
theorem fc731_eq : compF Go.Proofs.Tryz.prog 37 = some fc731 := by kernel_rfl
def fb732 : AC := (.seq (.reg [⟨some 4, none, .box 1 (.tmp 0), [], none⟩, ⟨some 5, none, .box 529 (.tmp 1), [], none⟩, ⟨some 6, none, .box 71 (.tmp 2), [], none⟩, ⟨some 8, none, .alloc 529 (.st [528, 1] [(.arr 66 (List.replicate 8 (.st [1, 1, 32, 32] [(.lit (.bool false)), (.lit (.bool false)), (.arr 1 (List.replicate 32 (.lit (bn 0)))), (.arr 1 (List.replicate 32 (.lit (bn 0))))]))), (.lit (.slice .none 0 0))]), [], none⟩, ⟨some 9, none, .mov (.const (tx [])), [], none⟩, ⟨some 10, none, .mov (.const (jn 0)), [], none⟩]) (.seq (.reg [⟨some 13, none, .faddr 69 7 (.tmp 6), [], none⟩, ⟨none, none, .store 1 (.tmp 13) (.const (tx [120])), [], none⟩]) (.seq (.seq (.reg [⟨some 14, none, .mov (.tmp 3), [], none⟩, ⟨some 15, none, .len true (.tmp 14), [], none⟩, ⟨some 16, none, .bin .gtr (.tmp 15) (.const (jn 64)), [], none⟩, ⟨some 17, none, .mov (.tmp 16), [], none⟩, ⟨some 18, some (17, false), .load true 71 (.tmp 6), [], none⟩, ⟨some 19, some (17, false), .call 36 [.tmp 18], [], none⟩, ⟨some 20, some (17, false), .un .not (.tmp 19), [], none⟩, ⟨some 21, none, .pick (.tmp 17) (.const (.bool true)) (.tmp 20), [], none⟩, ⟨some 22, none, .mov (.tmp 21), [], none⟩, ⟨some 23, some (22, false), .faddr 3 3 (.tmp 6), [], none⟩, ⟨some 24, some (22, false), .load false 1 (.tmp 23), [], none⟩, ⟨some 25, some (22, false), .bin .neq (.tmp 24) (.const (jn 7)), [], none⟩, ⟨some 26, none, .pick (.tmp 22) (.const (.bool true)) (.tmp 25), [], none⟩]) (.cond (.tmp 26) (.seq (.reg [⟨some 27, none, .build (.st [528, 1] [(.arr 66 (List.replicate 8 (.st [1, 1, 32, 32] [(.lit (.bool false)), (.lit (.bool false)), (.arr 1 (List.replicate 32 (.lit (bn 0)))), (.arr 1 (List.replicate 32 (.lit (bn 0))))]))), (.lit (.slice .none 0 0))]) [], [], none⟩, ⟨none, none, .store 529 (.tmp 8) (.tmp 27), [], none⟩, ⟨some 9, none, .mov (.const (tx [])), [], none⟩, ⟨some 10, none, .mov (.const (jn 1)), [], none⟩]) .ret) .skip)) (.seq (.seq (.reg [⟨some 28, none, .faddr 0 0 (.tmp 6), [], none⟩, ⟨some 29, none, .load false 1 (.tmp 28), [], none⟩, ⟨some 30, none, .faddr 0 0 (.tmp 5), [], none⟩, ⟨some 31, none, .iaddrA 8 66 (.tmp 30) (.tmp 29), [], none⟩, ⟨some 32, none, .faddr 0 0 (.tmp 31), [], none⟩, ⟨some 33, none, .load false 1 (.tmp 32), [], none⟩, ⟨some 34, none, .un .not (.tmp 33), [], none⟩]) (.cond (.tmp 34) (.seq (.reg [⟨some 35, none, .build (.st [528, 1] [(.arr 66 (List.replicate 8 (.st [1, 1, 32, 32] [(.lit (.bool false)), (.lit (.bool false)), (.arr 1 (List.replicate 32 (.lit (bn 0)))), (.arr 1 (List.replicate 32 (.lit (bn 0))))]))), (.lit (.slice .none 0 0))]) [], [], none⟩, ⟨none, none, .store 529 (.tmp 8) (.tmp 35), [], none⟩, ⟨some 9, none, .mov (.const (tx [])), [], none⟩, ⟨some 10, none, .mov (.const (jn 18)), [], none⟩]) .ret) .skip)) (.seq (.reg [⟨some 37, none, .load true 1 (.tmp 4), [], none⟩, ⟨some 38, none, .load true 529 (.tmp 5), [], none⟩, ⟨some 39, none, .faddr 0 0 (.tmp 6), [], none⟩, ⟨some 40, none, .load false 1 (.tmp 39), [], none⟩, ⟨some 41, none, .xc (.dir 37) [.tmp 37, .tmp 38, .tmp 40] [] [], [], none⟩, ⟨some 36, none, .mov (.tmp 41), [], none⟩, ⟨some 42, none, .ext (.tmp 36) 0, [], none⟩, ⟨some 43, none, .ext (.tmp 36) 1, [], none⟩, ⟨some 11, none, .alloc 529 (.st [528, 1] [(.arr 66 (List.replicate 8 (.st [1, 1, 32, 32] [(.lit (.bool false)), (.lit (.bool false)), (.arr 1 (List.replicate 32 (.lit (bn 0)))), (.arr 1 (List.replicate 32 (.lit (bn 0))))]))), (.lit (.slice .none 0 0))]), [], none⟩, ⟨some 12, none, .alloc 32 (.arr 1 (List.replicate 32 (.lit (bn 0)))), [], none⟩, ⟨none, none, .store 529 (.tmp 11) (.tmp 42), [], none⟩, ⟨none, none, .store 32 (.tmp 12) (.tmp 43), [], none⟩]) (.seq (.reg [⟨some 44, none, .load true 529 (.tmp 11), [], (.some 11)⟩, ⟨some 45, none, .load true 1 (.tmp 4), [8], (.some 4)⟩, ⟨some 46, none, .load true 32 (.tmp 12), [8], (.some 12)⟩, ⟨some 47, none, .load true 1 (.tmp 4), [8], (.some 4)⟩, ⟨some 48, none, .load true 71 (.tmp 6), [8], (.some 6)⟩, ⟨some 49, none, .xc (.dir 15) [.tmp 47, .tmp 48] [11, 4, 12] [], [], none⟩, ⟨some 50, none, .mov (.tmp 3), [], none⟩, ⟨some 51, none, .xc (.dir 38) [(.tmp 45), (.tmp 46), (.tmp 49), (.tmp 50), (.const (.slice .none 0 0))] [11] [], [], none⟩, ⟨none, none, .store 529 (.tmp 8) (.tmp 44), [], (.some 8)⟩, ⟨some 9, none, .mov (.tmp 51), [], none⟩, ⟨some 10, none, .mov (.const (jn 0)), [], none⟩]) .ret))))))
def fc732 : FC := ⟨4, 52, [(.cell 8 .true 529), (.tmp 9), (.tmp 10)], fb732⟩
theorem fc732_eq : compF Go.Proofs.Tryz.prog 11 = some fc732 := by kernel_rfl
def fb733 : AC := (.seq (.reg [⟨some 3, none, .box 1 (.tmp 0), [], none⟩, ⟨some 4, none, .box 529 (.tmp 1), [], none⟩, ⟨some 5, none, .box 71 (.tmp 2), [], none⟩, ⟨some 6, none, .alloc 529 (.st [528, 1] [(.arr 66 (List.replicate 8 (.st [1, 1, 32, 32] [(.lit (.bool false)), (.lit (.bool false)), (.arr 1 (List.replicate 32 (.lit (bn 0)))), (.arr 1 (List.replicate 32 (.lit (bn 0))))]))), (.lit (.slice .none 0 0))]), [], none⟩, ⟨some 7, none, .mov (.const (tx [])), [], none⟩, ⟨some 8, none, .mov (.const (jn 0)), [], none⟩]) (.seq (.seq (.reg [⟨some 14, none, .load true 71 (.tmp 5), [], none⟩, ⟨some 15, none, .call 36 [.tmp 14], [], none⟩, ⟨some 16, none, .un .not (.tmp 15), [], none⟩, ⟨some 17, none, .mov (.tmp 16), [], none⟩, ⟨some 18, some (17, false), .faddr 3 3 (.tmp 5), [], none⟩, ⟨some 19, some (17, false), .load false 1 (.tmp 18), [], none⟩, ⟨some 20, some (17, false), .bin .neq (.tmp 19) (.const (jn 7)), [], none⟩, ⟨some 21, none, .pick (.tmp 17) (.const (.bool true)) (.tmp 20), [], none⟩]) (.cond (.tmp 21) (.seq (.reg [⟨some 22, none, .build (.st [528, 1] [(.arr 66 (List.replicate 8 (.st [1, 1, 32, 32] [(.lit (.bool false)), (.lit (.bool false)), (.arr 1 (List.replicate 32 (.lit (bn 0)))), (.arr 1 (List.replicate 32 (.lit (bn 0))))]))), (.lit (.slice .none 0 0))]) [], [], none⟩, ⟨none, none, .store 529 (.tmp 6) (.tmp 22), [], none⟩, ⟨some 7, none, .mov (.const (tx [])), [], none⟩, ⟨some 8, none, .mov (.const (jn 1)), [], none⟩]) .ret) .skip)) (.seq (.seq (.reg [⟨some 23, none, .faddr 0 0 (.tmp 5), [], none⟩, ⟨some 24, none, .load false 1 (.tmp 23), [], none⟩, ⟨some 25, none, .faddr 0 0 (.tmp 4), [], none⟩, ⟨some 26, none, .iaddrA 8 66 (.tmp 25) (.tmp 24), [], none⟩, ⟨some 27, none, .faddr 0 0 (.tmp 26), [], none⟩, ⟨some 28, none, .load false 1 (.tmp 27), [], none⟩, ⟨some 29, none, .un .not (.tmp 28), [], none⟩]) (.cond (.tmp 29) (.seq (.reg [⟨some 30, none, .build (.st [528, 1] [(.arr 66 (List.replicate 8 (.st [1, 1, 32, 32] [(.lit (.bool false)), (.lit (.bool false)), (.arr 1 (List.replicate 32 (.lit (bn 0)))), (.arr 1 (List.replicate 32 (.lit (bn 0))))]))), (.lit (.slice .none 0 0))]) [], [], none⟩, ⟨none, none, .store 529 (.tmp 6) (.tmp 30), [], none⟩, ⟨some 7, none, .mov (.const (tx [])), [], none⟩, ⟨some 8, none, .mov (.const (jn 18)), [], none⟩]) .ret) .skip)) (.seq (.reg [⟨some 32, none, .load true 1 (.tmp 3), [], none⟩, ⟨some 33, none, .load true 529 (.tmp 4), [], none⟩, ⟨some 34, none, .faddr 0 0 (.tmp 5), [], none⟩, ⟨some 35, none, .load false 1 (.tmp 34), [], none⟩, ⟨some 36, none, .xc (.dir 37) [.tmp 32, .tmp 33, .tmp 35] [] [], [], none⟩, ⟨some 31, none, .mov (.tmp 36), [], none⟩, ⟨some 37, none, .ext (.tmp 31) 0, [], none⟩, ⟨some 38, none, .ext (.tmp 31) 1, [], none⟩, ⟨some 9, none, .alloc 529 (.st [528, 1] [(.arr 66 (List.replicate 8 (.st [1, 1, 32, 32] [(.lit (.bool false)), (.lit (.bool false)), (.arr 1 (List.replicate 32 (.lit (bn 0)))), (.arr 1 (List.replicate 32 (.lit (bn 0))))]))), (.lit (.slice .none 0 0))]), [], none⟩, ⟨some 10, none, .alloc 32 (.arr 1 (List.replicate 32 (.lit (bn 0)))), [], none⟩, ⟨none, none, .store 529 (.tmp 9) (.tmp 37), [], none⟩, ⟨none, none, .store 32 (.tmp 10) (.tmp 38), [], none⟩]) (.seq (.reg [⟨some 40, none, .load true 1 (.tmp 3), [], (.some 3)⟩, ⟨some 41, none, .load true 32 (.tmp 10), [], (.some 10)⟩, ⟨some 42, none, .load true 1 (.tmp 3), [], (.some 3)⟩, ⟨some 43, none, .load true 71 (.tmp 5), [], (.some 5)⟩, ⟨some 44, none, .xc (.dir 15) [.tmp 42, .tmp 43] [3, 10, 5] [], [], none⟩, ⟨some 45, none, .faddr 69 7 (.tmp 5), [], none⟩, ⟨some 46, none, .load false 1 (.tmp 45), [], (.some 5)⟩, ⟨some 47, none, .xc (.dir 42) [.tmp 40, .tmp 41, .tmp 44, .tmp 46] [] [], [], none⟩, ⟨some 39, none, .mov (.tmp 47), [], none⟩, ⟨some 48, none, .ext (.tmp 39) 0, [], none⟩, ⟨some 49, none, .ext (.tmp 39) 1, [], none⟩, ⟨some 50, none, .ext (.tmp 39) 2, [], none⟩, ⟨some 11, none, .mov (.tmp 48), [], none⟩, ⟨some 12, none, .mov (.tmp 49), [], none⟩, ⟨some 13, none, .mov (.tmp 50), [], none⟩]) (.seq (.seq (.reg [⟨some 51, none, .mov (.tmp 13), [], none⟩, ⟨some 52, none, .un .not (.tmp 51), [], none⟩, ⟨some 53, none, .mov (.tmp 52), [], none⟩, ⟨some 54, some (53, false), .mov (.tmp 12), [], none⟩, ⟨some 55, some (53, false), .len false (.tmp 54), [], none⟩, ⟨some 56, some (53, false), .bin .gtr (.tmp 55) (.const (jn 0)), [], none⟩, ⟨some 57, none, .pick (.tmp 53) (.const (.bool true)) (.tmp 56), [], none⟩, ⟨some 58, none, .mov (.tmp 57), [], none⟩, ⟨some 59, some (58, false), .mov (.tmp 11), [], none⟩, ⟨some 60, some (58, false), .len true (.tmp 59), [], none⟩, ⟨some 61, some (58, false), .bin .gtr (.tmp 60) (.const (jn 64)), [], none⟩, ⟨some 62, none, .pick (.tmp 58) (.const (.bool true)) (.tmp 61), [], none⟩]) (.cond (.tmp 62) (.seq (.reg [⟨some 63, none, .build (.st [528, 1] [(.arr 66 (List.replicate 8 (.st [1, 1, 32, 32] [(.lit (.bool false)), (.lit (.bool false)), (.arr 1 (List.replicate 32 (.lit (bn 0)))), (.arr 1 (List.replicate 32 (.lit (bn 0))))]))), (.lit (.slice .none 0 0))]) [], [], none⟩, ⟨none, none, .store 529 (.tmp 6) (.tmp 63), [], none⟩, ⟨some 7, none, .mov (.const (tx [])), [], none⟩, ⟨some 8, none, .mov (.const (jn 2)), [], none⟩]) .ret) .skip)) (.seq (.reg [⟨some 64, none, .load true 529 (.tmp 9), [], none⟩, ⟨some 65, none, .mov (.tmp 11), [], none⟩, ⟨none, none, .store 529 (.tmp 6) (.tmp 64), [], none⟩, ⟨some 7, none, .mov (.tmp 65), [], none⟩, ⟨some 8, none, .mov (.const (jn 0)), [], none⟩]) .ret)))))))
def fc733 : FC := ⟨3, 66, [(.cell 6 .true 529), (.tmp 7), (.tmp 8)], fb733⟩
theorem fc733_eq : compF Go.Proofs.Tryz.prog 18 = some fc733 := by kernel_rfl
attribute [local irreducible] AReg
theorem rtwo_gk {H : List (Option Blk)} {t : Rt} {V U : Value} {ts : List Term} (hh : RtOk H t V U ts) {ts1 : List Term} (hok : ∀ y ∈ ts1, TermOk y) (hn : ts1.length + 1 < 100000) {s : List UInt8} (hs : s.length < 90000) {ks : List (List UInt8)} (hk : ks.length < 100000) (h32 : ∀ k ∈ ks, k.length = 32) :
    GC Go.Proofs.Tryz.prog 52 [kitA t.b t.l, .lit (tx s), .sl 32 (klA ks)] (rF H t) ts1 (.tup [keyA (twoV ts1 s ks).1.1, keyA (twoV ts1 s ks).1.2]) (twoV ts1 s ks).2 := GC.ofR hh fun H V U h => rtwo_call h hok hn hs hk h32
set_option maxHeartbeats 16000000 in
theorem given_call {H : List (Option Blk)} {t : Rt} {V U : Value} {ts : List Term} (hh : RtOk H t V U ts) (hok : ∀ y ∈ ts, TermOk y) (hn : ts.length + 1 < 100000) {A ws : List AV} {w : Nat} (hA : A.length = 8) {kn op : Bool} {k c : List UInt8} (hk : k.length = 32) (hc : c.length = 32)
    (hw : A[w]? = some (.st [1, 1, 32, 32] [.lit (.bool kn), .lit (.bool op), keyA k, keyA c])) :
    XCall Go.Proofs.Tryz.prog 37 [kitA t.b t.l, ksA A ws, .lit (jn w)] H fun r H' => r = .tup [ksA (A.set w (.st [1, 1, 32, 32] [.lit (.bool kn), .lit (.bool op), keyA k, keyA (nextV ts c).1.2])) ws, keyA (nextV ts c).1.1] ∧ ∃ V' U', H' = rtOf H t V' U' (nextV ts c).2 := by
  have h731 := fc731_eq
  refine XCall.le ?_
  have hself := hh.self
  have hw8 : w < 8 := by have := (List.getElem?_eq_some_iff.1 hw).1; omega
  have c2 := rtwo_gk hh hok hn (s := txSay) (by simp [txSay]) (ks := [c]) (by simp) (by simp [hc])
  have n1 : (nextV ts c).1.1.length = 32 := nameK_len _
  have n2 : (nextV ts c).1.2.length = 32 := nameK_len _
  unfold nextV at *
  generalize twoV ts txSay [c] = tv at *
  obtain ⟨⟨k1, k2⟩, ts2⟩ := tv
  simp only at c2 n1 n2 ⊢
  have G1 : ∀ i y, (rF H t i y).length = H.length := fun i y => rtOf_len _ _ _ _ _
  have g4 : ∀ h, A[w]'h = .st [1, 1, 32, 32] [.lit (.bool kn), .lit (.bool op), keyA k, keyA c] := fun h => by rw [List.getElem?_eq_getElem h] at hw; exact Option.some.inj hw
  have hwA : w < A.length := by omega
  unfold ksA
  refine XCall.of h731 rfl ?_; show AC.wp _ fb731 ⟨H.length, [kitA t.b t.l, .st [528, 1] [.arr 66 A, .sl 65 ws], .lit (jn w)] ++ List.replicate (28 - 3) .any, H ++ List.replicate 28 none⟩ (fun x s => match x with | .exit _ => False | _ => ∃ s1, Le s s1 ∧ FinX [(.cell 6 .true 529), (.cell 7 .true 32)] s1 _); unfold fb731
  have hst : ∀ L, H ++ L = rF H t ts (V, U) ++ L := fun L => by unfold rF; rw [hself]
  rw [hst]
  generalize hN : H.length = N at *
  have g1 : ∀ i y L k, (rF H t i y ++ L)[N + k]? = L[k]? := fun i y L k => cat1 N _ L k (G1 i y)
  have g2 : ∀ i y L k z, (rF H t i y ++ L).set (N + k) z = rF H t i y ++ L.set k z := fun i y L k z => cat2 N _ L k z (G1 i y)
  refine wp_sg (areg_bx rfl (by simp [AS.ev, kitA, AV.sz]) fun l3 => areg_bx rfl rfl fun l4 => areg_al' (z' := ks0) rfl fun l6 => areg_al' zk_eq.symm fun l7 => areg_end (by simp [push_cast, g2]; exact rfl) ?_)
  refine wp_sg ?_
  refine areg_run 6 (by simp [push_cast, g1, hA, hw, g4, hw8, hwA, hk, hc, kitA]; exact rfl) ?_
  refine areg_bsl (k := 32) (els := klA [c]) (fill_ar rfl rfl rfl (by simp [AV.sz, AS.ev, AS.put, hc, bl_len]) rfl) ?_
  refine areg_gk [kitA t.b t.l, .lit (tx txSay), .sl 32 (klA [c])] G1 (by simp [AS.ev, AS.put, kitA, txSay, klA, keyA]) (tgt_dir (by kernel_rfl) _) c2 (by simp) (by simp) fun y => ?_
  refine areg_run 3 (by simp [push_cast, g1, n1, n2]; exact rfl) ?_
  refine areg_al' zk_eq.symm fun l9 => areg_al' zk_eq.symm fun l10 => areg_end (by simp [push_cast, g1, g2, n1, n2, zk_len]; exact rfl) ?_
  refine wp_sr (by simp [push_cast, g1, g2, hA, hw, g4, hw8, hwA, n1, n2, hk, hc]; exact rfl) ?_
  refine wp_sg ?_
  have e1 : ks0.sz = 529 := rfl
  unfold ks0
  refine areg_end (by simp [push_cast, g1, g2, n1, n2, hA, zk_len]; exact rfl) (wp_ret' ?_)
  exact ⟨_, Le.refl _, [], _, ⟨_, rfl, by simp [AS.seals, RVals, RVal, AS.ev, AS.peek, AS.blk, g1, Blk.loc, Blk.cont, Blk.n, AV.nav, AV.isAgg, AV.isTup, AS.coe]; rfl, by simp [keyA]⟩, .tup [.st [528, 1] [.arr 66 (A.set w (.st [1, 1, 32, 32] [.lit (.bool kn), .lit (.bool op), keyA k, keyA k2])), .sl 65 ws], keyA k1], _, RelLe.refl _, by simp, HpLe.trim _ _, rfl, y.1, y.2, rfl⟩
end Go.Cab
namespace Go.Cab
open Go.RowKit
open Classical
attribute [local irreducible] AReg
theorem given_gk {H : List (Option Blk)} {t : Rt} {V U : Value} {ts0 ts : List Term} (hh : RtOk H t V U ts0) (hok : ∀ y ∈ ts, TermOk y) (hn : ts.length + 1 < 100000) {A ws : List AV} {w : Nat} (hA : A.length = 8) {kn op : Bool} {k c : List UInt8} (hk : k.length = 32) (hc : c.length = 32)
    (hw : A[w]? = some (.st [1, 1, 32, 32] [.lit (.bool kn), .lit (.bool op), keyA k, keyA c])) :
    GC Go.Proofs.Tryz.prog 37 [kitA t.b t.l, ksA A ws, .lit (jn w)] (rF H t) ts (.tup [ksA (A.set w (.st [1, 1, 32, 32] [.lit (.bool kn), .lit (.bool op), keyA k, keyA (nextV ts c).1.2])) ws, keyA (nextV ts c).1.1]) (nextV ts c).2 := GC.ofR hh fun H V U h => given_call h hok hn hA hk hc hw
theorem byR_gk {H : List (Option Blk)} {t : Rt} {V U : Value} {ts0 ts : List Term} (hh : RtOk H t V U ts0) (hok : ∀ y ∈ ts, TermOk y) (hn : ts.length < 100000) {o : OpV} (ho : OpOk o) (hbb : ∀ b ∈ o.boxes, b.body.length < 9223372036854775808) (hw : o.who.length < 1000) (hp : o.parents.length < 1000) :
    GC Go.Proofs.Tryz.prog 15 [kitA t.b t.l, opA o] (rF H t) ts (keyA (byV Go.Lib.itoa ts o).1) (byV Go.Lib.itoa ts o).2 := GC.ofR hh fun H V U h => byR_call h hok hn ho hbb hw hp
theorem rsealK_gk {H : List (Option Blk)} {t : Rt} {V U : Value} {ts0 ts : List Term} (hh : RtOk H t V U ts0) (hok : ∀ y ∈ ts, TermOk y) (hn : ts.length < 100000) {k b s : List UInt8} {ks : List (List UInt8)} (hk : k.length = 32) (hb : b.length = 32) (hs : s.length < 100000) (hks : ks.length < 90000) (h32 : ∀ x ∈ ks, x.length = 32) :
    GC Go.Proofs.Tryz.prog 38 [kitA t.b t.l, keyA k, keyA b, .lit (tx s), .sl 32 (klA ks)] (rF H t) ts (.lit (tx (nameK (putN ts (sealK k b s ks))))) (putT ts (sealK k b s ks)) := GC.ofR hh fun H V U h => rsealK_call h hok hn hk hb hs hks h32
theorem nextV_okR {ts : List Term} (hok : ∀ y ∈ ts, TermOk y) {c : List UInt8} (hc : c.length = 32) : ∀ y ∈ (nextV ts c).2, TermOk y :=
  putT_ok (putT_ok hok (hashT_ok (by simp [txSay]) (by simp) (by simp [hc]))) (hashT_ok (by simp [txSay]) (by simp) (by simp [hc]))
set_option maxRecDepth 20000 in
set_option maxHeartbeats 16000000 in
theorem rsealC_call {H : List (Option Blk)} {t : Rt} {V U : Value} {ts : List Term} (hh : RtOk H t V U ts) (hok : ∀ y ∈ ts, TermOk y) (hn : ts.length + 10 < 100000) {o : OpV} (ho : OpOk o) (hbb : ∀ b ∈ o.boxes, b.body.length < 9223372036854775808) (hwo : o.who.length < 1000) (hp : o.parents.length < 1000)
    (hsay : saysV (bindO o) = true) {w : Nat} (hau : o.author = (w : Int)) {A ws : List AV} (hA : A.length = 8) {op : Bool} {k c : List UInt8} (hk : k.length = 32) (hc : c.length = 32)
    (hwA : A[w]? = some (.st [1, 1, 32, 32] [.lit (.bool true), .lit (.bool op), keyA k, keyA c])) {s : List UInt8} (hs : s.length ≤ 64) :
    XCall Go.Proofs.Tryz.prog 11 [kitA t.b t.l, ksA A ws, opA o, .lit (tx s)] H fun r H' => r = .tup [ksA (A.set w (.st [1, 1, 32, 32] [.lit (.bool true), .lit (.bool op), keyA k, keyA (nextV ts c).1.2])) ws, .lit (tx (msgV Go.Lib.itoa ts o c s).1), .lit (jn 0)] ∧ ∃ V' U', H' = rtOf H t V' U' (msgV Go.Lib.itoa ts o c s).2 := by
  have h732 := fc732_eq
  refine XCall.le ?_
  have hself := hh.self
  have ho' : OpOk (bindO o) := ⟨ho.seq, ho.parents, ho.p32, ho.who, ho.ofk, ho.check, by simp [bindO, txX], ho.boxes, ho.bok⟩
  have hsr : rightV (bindO o) = true ∧ o.kind = 7 := by
    unfold saysV at hsay
    rw [Bool.and_eq_true, decide_eq_true_iff] at hsay
    exact hsay
  have cR := rightR_call ho' (fun b hb => hbb b hb)
  rw [hsr.1] at cR
  have l1 := nextV_len ts c
  have l2 := byV_len Go.Lib.itoa (nextV ts c).2 (bindO o)
  have hok2 := nextV_okR hok hc
  have cN := given_gk (ws := ws) hh hok (by omega) hA hk hc hwA
  have cB := byR_gk hh hok2 (by omega) ho' (fun b hb => hbb b hb) hwo hp
  have n1 : (nextV ts c).1.1.length = 32 := nameK_len _
  have n2 : (nextV ts c).1.2.length = 32 := nameK_len _
  have n3 : (byV Go.Lib.itoa (nextV ts c).2 (bindO o)).1.length = 32 := byV_32 _ _ _
  have hok3 : ∀ y ∈ (byV Go.Lib.itoa (nextV ts c).2 (bindO o)).2, TermOk y := by
    unfold byV
    rw [if_pos hsr.1]
    refine putT_ok hok2 ⟨by simp [byT], ?_, ?_, ?_⟩
    · obtain ⟨kd, au, hr⟩ := rightN_of hsr.1
      refine labelT_len ho' (fun n hn => ?_) hwo
      have : ∃ m : Nat, n = (m : Int) ∧ m < 4294967296 := by
        simp only [numsV, List.mem_cons] at hn
        rcases hn with rfl | rfl | rfl | hn
        · exact ⟨kd, hr.kind, by have := hr.k8; omega⟩
        · exact ⟨au, hr.author, by have := hr.a8; omega⟩
        · exact ⟨_, rfl, ho'.seq⟩
        · obtain ⟨m, h1, h2⟩ := hr.who n hn
          exact ⟨m, h1, by omega⟩
      obtain ⟨m, rfl, hm⟩ := this
      rw [digs_itoa]
      have := digs_short m (by omega)
      omega
    · simp [byT, bindO]; omega
    · intro k hk
      simp only [byT, bindO, List.mem_append, List.mem_cons, List.not_mem_nil, or_false] at hk
      rcases hk with h | rfl | rfl
      · exact ho.p32 k h
      · exact ho.ofk
      · exact zk_len
  have cK := rsealK_gk hh (ts := (byV Go.Lib.itoa (nextV ts c).2 (bindO o)).2) hok3 (by omega) n1 n3 (s := s) (by omega) (ks := []) (by simp) (by simp)
  have cK' := GC.args (l := [kitA t.b t.l, keyA (nextV ts c).1.1, keyA (byV Go.Lib.itoa (nextV ts c).2 (bindO o)).1, .lit (tx s), .lit (.slice none 0 0)]) (m := [kitA t.b t.l, keyA (nextV ts c).1.1, keyA (byV Go.Lib.itoa (nextV ts c).2 (bindO o)).1, .lit (tx s), .sl 32 (klA [])]) ⟨RelLe.refl _, RelLe.refl _, RelLe.refl _, RelLe.refl _, RelLe.nil 32, trivial⟩ cK
  have o5 := ho.ofk
  have o6 := ho.check
  have hk7 := hsr.2
  have hw8 : w < 8 := by have := (List.getElem?_eq_some_iff.1 hwA).1; omega
  have g4 : ∀ h, A[w]'h = .st [1, 1, 32, 32] [.lit (.bool true), .lit (.bool op), keyA k, keyA c] := fun h => by rw [List.getElem?_eq_getElem h] at hwA; exact Option.some.inj hwA
  have hwAl : w < A.length := by omega
  unfold msgV
  have hsk : sealT (nextV ts c).1.1 (byV Go.Lib.itoa (nextV ts c).2 (bindO o)).1 s = sealK (nextV ts c).1.1 (byV Go.Lib.itoa (nextV ts c).2 (bindO o)).1 s [] := rfl
  simp only [hsk]
  generalize putT (byV Go.Lib.itoa (nextV ts c).2 (bindO o)).2 _ = ts4 at *
  generalize nameK (putN (byV Go.Lib.itoa (nextV ts c).2 (bindO o)).2 _) = nm at *
  generalize byV Go.Lib.itoa (nextV ts c).2 (bindO o) = bv at *
  generalize nextV ts c = nv at *
  obtain ⟨⟨k1, k2⟩, ts2⟩ := nv
  obtain ⟨bk, ts3⟩ := bv
  simp only at *
  have hA1 : opA o = opB o.author o.seq o.parents o.kind (o.who.map fun x => AV.lit (ji x)) o.ofk o.check o.text (o.boxes.map fun x => boxA x) := rfl
  have hA2 : opA (bindO o) = opB o.author o.seq o.parents o.kind (o.who.map fun x => AV.lit (ji x)) o.ofk o.check txX (o.boxes.map fun x => boxA x) := rfl
  have haj : ji o.author = jn w := by rw [hau]; rfl
  rw [hA2] at cR cB
  rw [hA1]
  unfold opB at cR cB ⊢
  rw [haj, hk7] at cR cB ⊢
  generalize (o.who.map fun x => AV.lit (ji x)) = W at *
  generalize (o.boxes.map fun x => boxA x) = B at *
  have G1 : ∀ i y, (rF H t i y).length = H.length := fun i y => rtOf_len _ _ _ _ _
  have htx : tx [120] = tx txX := rfl
  have hs64 : ¬ 64 < s.length := by omega
  have hAs : (A.set w (.st [1, 1, 32, 32] [.lit (.bool true), .lit (.bool op), keyA k, keyA k2])).length = 8 := by rw [List.length_set]; exact hA
  unfold ksA at *
  generalize (A.set w (.st [1, 1, 32, 32] [.lit (.bool true), .lit (.bool op), keyA k, keyA k2])) = A2 at *
  refine XCall.of h732 rfl ?_; show AC.wp _ fb732 ⟨H.length, [kitA t.b t.l, .st [528, 1] [.arr 66 A, .sl 65 ws], .st [1, 1, 1, 1, 1, 32, 32, 1, 1] [.lit (jn w), .lit (wn o.seq), .sl 32 (klA o.parents), .lit (ji 7), .sl 1 W, keyA o.ofk, keyA o.check, .lit (tx o.text), .sl 36 B], .lit (tx s)] ++ List.replicate (52 - 4) .any, H ++ List.replicate 52 none⟩ (fun x s => match x with | .exit _ => False | _ => ∃ s1, Le s s1 ∧ FinX [(.cell 8 .true 529), (.tmp 9), (.tmp 10)] s1 _); unfold fb732
  have hst : ∀ L, H ++ L = rF H t ts (V, U) ++ L := fun L => by unfold rF; rw [hself]
  rw [hst]
  generalize hN : H.length = N at *
  have g1 : ∀ i y L k, (rF H t i y ++ L)[N + k]? = L[k]? := fun i y L k => cat1 N _ L k (G1 i y)
  have g2 : ∀ i y L k z, (rF H t i y ++ L).set (N + k) z = rF H t i y ++ L.set k z := fun i y L k z => cat2 N _ L k z (G1 i y)
  refine wp_sg (areg_bx rfl (by simp [AS.ev, kitA, AV.sz]) fun l4 => areg_bx rfl rfl fun l5 => areg_bx rfl (by simp [AS.ev, AS.put, AV.sz, o5, o6]) fun l6 => areg_al' (z' := ks0) rfl fun l8 => areg_end (by simp [push_cast, g2]; exact rfl) ?_)
  refine wp_sr (by simp [push_cast, g1, g2, o5, o6, htx]; exact rfl) ?_
  refine wp_seq' (wp_sg ?_)
  refine areg_run 4 (by simp [push_cast, hs64]; exact rfl) ?_
  refine areg_run 1 (by simp [push_cast, g1, o5, o6]; exact rfl) ?_
  refine areg_g (by simp [AS.ev, AS.put]) (areg_ca (by simp [AS.ev, AS.coe, AS.put, keyA] <;> exact rfl) cR ?_)
  (repeat (first | (with_reducible apply areg_ng); focus (simp [AS.ev, AS.put, g1]; done) | (with_reducible apply areg_op); focus (simp [push_cast, g1]; exact rfl)))
  refine areg_nil (wp_cond_f (by simp [AS.ev, AS.put]) (wp_skip' ?_))
  refine wp_seq' (wp_sr (by simp [push_cast, g1, hA, hwA, g4, hw8, hwAl]; exact rfl) (wp_cond_f (by simp [AS.ev]) (wp_skip' ?_)))
  refine wp_sg ?_
  refine areg_run 4 (by simp [push_cast, g1, hA, kitA, o5, o6]; exact rfl) ?_
  refine areg_gk [kitA t.b t.l, .st [528, 1] [.arr 66 A, .sl 65 ws], .lit (jn w)] G1 (by simp [AS.ev, AS.put, kitA]) (tgt_dir (by kernel_rfl) _) cN (by simp) (by simp) fun y => ?_
  refine areg_run 3 (by simp [push_cast]; exact rfl) ?_
  refine areg_al' (z' := ks0) rfl fun l11 => areg_al' zk_eq.symm fun l12 => areg_end (by simp [push_cast, g1, g2, n1, zk_len, hA, hAs]; exact rfl) ?_
  refine wp_sg ?_
  refine areg_run 5 (by simp [push_cast, g1, kitA, hAs, n1, o5, o6]; exact rfl) ?_
  refine areg_gk [kitA t.b t.l, .st [1, 1, 1, 1, 1, 32, 32, 1, 1] [.lit (jn w), .lit (wn o.seq), .sl 32 (klA o.parents), .lit (ji 7), .sl 1 W, keyA o.ofk, keyA o.check, .lit (tx txX), .sl 36 B]] G1 (by simp [AS.ev, AS.put, kitA, keyA]) (tgt_dir (by kernel_rfl) _) cB (by simp) (by simp [AS.ev, AV.place]) fun y2 => ?_
  refine areg_run 1 (by simp [push_cast]; exact rfl) ?_
  refine areg_gk [kitA t.b t.l, keyA k1, keyA bk, .lit (tx s), .lit (.slice none 0 0)] G1 (by simp [AS.ev, AS.put, kitA, keyA]) (tgt_dir (by kernel_rfl) _) cK' (by simp) (by simp [AS.ev, AV.place]) fun y3 => ?_
  have e1 : ks0.sz = 529 := rfl
  unfold ks0
  refine areg_end (by simp [push_cast, g1, g2, hAs]; exact rfl) (wp_ret' ?_)
  exact ⟨_, Le.refl _, [], _, ⟨_, rfl, by simp [AS.seals, RVals, RVal, AS.ev, AS.peek, AS.blk, g1, Blk.loc, Blk.cont, Blk.n, AV.nav, AV.isAgg, AV.isTup, AS.coe]; rfl, by simp [keyA]⟩, .tup [.st [528, 1] [.arr 66 A2, .sl 65 ws], .lit (tx nm), .lit (jn 0)], _, RelLe.refl _, by simp, HpLe.trim _ _, rfl, y3.1, y3.2, rfl⟩
end Go.Cab
namespace Go.Cab
open Go.RowKit
open Classical
attribute [local irreducible] AReg
set_option maxRecDepth 20000 in
set_option maxHeartbeats 16000000 in
theorem rsealE_call {H : List (Option Blk)} {b : Nat} {l : Nat × Nat} {o : OpV} (ho : OpOk o) (hbb : ∀ b ∈ o.boxes, b.body.length < 9223372036854775808) {A ws : List AV} (hA : A.length = 8) {s : List UInt8} (hbad : 64 < s.length ∨ saysV (bindO o) = false) :
    XCall Go.Proofs.Tryz.prog 11 [kitA b l, ksA A ws, opA o, .lit (tx s)] H fun r H' => r = .tup [ks0A, .lit (tx []), .lit (jn 1)] ∧ H' = H := by
  have h732 := fc732_eq
  refine XCall.le ?_
  have ho' : OpOk (bindO o) := ⟨ho.seq, ho.parents, ho.p32, ho.who, ho.ofk, ho.check, by simp [bindO, txX], ho.boxes, ho.bok⟩
  have cR := rightR_call ho' (fun b hb => hbb b hb)
  have hb2 : ¬ 64 < s.length → rightV (bindO o) = true → o.kind ≠ 7 := fun h1 h2 h3 => by
    rcases hbad with h | h
    · exact h1 h
    · unfold saysV at h
      rw [h2] at h
      have h3' : (bindO o).kind = 7 := h3
      rw [h3'] at h
      cases h
  generalize rightV (bindO o) = rv at *
  have o5 := ho.ofk
  have o6 := ho.check
  have hA1 : opA o = opB o.author o.seq o.parents o.kind (o.who.map fun x => AV.lit (ji x)) o.ofk o.check o.text (o.boxes.map fun x => boxA x) := rfl
  have hA2 : opA (bindO o) = opB o.author o.seq o.parents o.kind (o.who.map fun x => AV.lit (ji x)) o.ofk o.check txX (o.boxes.map fun x => boxA x) := rfl
  rw [hA2] at cR
  rw [hA1]
  unfold opB at cR ⊢
  generalize (o.who.map fun x => AV.lit (ji x)) = W at *
  generalize (o.boxes.map fun x => boxA x) = B at *
  generalize o.kind = kd at *
  have htx : tx [120] = tx txX := rfl
  unfold ksA
  refine XCall.of h732 rfl ?_; show AC.wp _ fb732 ⟨H.length, [kitA b l, .st [528, 1] [.arr 66 A, .sl 65 ws], .st [1, 1, 1, 1, 1, 32, 32, 1, 1] [.lit (ji o.author), .lit (wn o.seq), .sl 32 (klA o.parents), .lit (ji kd), .sl 1 W, keyA o.ofk, keyA o.check, .lit (tx o.text), .sl 36 B], .lit (tx s)] ++ List.replicate (52 - 4) .any, H ++ List.replicate 52 none⟩ (fun x s => match x with | .exit _ => False | _ => ∃ s1, Le s s1 ∧ FinX [(.cell 8 .true 529), (.tmp 9), (.tmp 10)] s1 _); unfold fb732
  have g1 : ∀ L k, (H ++ L)[H.length + k]? = L[k]? := fun L k => cat1 _ _ _ _ rfl
  have g2 : ∀ L k x, (H ++ L).set (H.length + k) x = H ++ L.set k x := fun L k x => cat2 _ _ _ _ _ rfl
  generalize hN : H.length = N at *
  refine wp_sg (areg_bx rfl (by simp [AS.ev, kitA, AV.sz]) fun l4 => areg_bx rfl rfl fun l5 => areg_bx rfl (by simp [AS.ev, AS.put, AV.sz, o5, o6]) fun l6 => areg_al' (z' := ks0) rfl fun l8 => areg_end (by simp [push_cast, g2]; exact rfl) ?_)
  refine wp_sr (by simp [push_cast, g1, g2, o5, o6, htx]; exact rfl) ?_
  have e1 : ks0.sz = 529 := rfl
  refine wp_seq' (wp_sg ?_)
  by_cases hs : 64 < s.length
  · (repeat (first | (with_reducible apply areg_ng); focus (simp [AS.ev, AS.put, hs]; done) | (with_reducible apply areg_op); focus (simp [push_cast, hs]; exact rfl)))
    refine areg_nil (wp_cond_t (by simp [AS.ev, AS.put]) (wp_sg ?_))
    refine areg_bd (z' := ks0) rfl ?_
    unfold ks0
    refine areg_end (by simp [push_cast, g1, g2]; exact rfl) (wp_ret' ?_)
    exact ⟨_, Le.refl _, [], _, ⟨_, rfl, by simp [AS.seals, RVals, RVal, AS.ev, AS.peek, AS.blk, g1, Blk.loc, Blk.cont, Blk.n, AV.nav, AV.isAgg, AV.isTup, AS.coe]; rfl, by simp [keyA, ks0]⟩, .tup [ks0A, .lit (tx []), .lit (jn 1)], H, RelLe.tup (AVle.tupSt ks0_le (AVle.refl _)), by simp, HpLe.trim _ _, rfl, rfl⟩
  · refine areg_run 4 (by simp [push_cast, hs]; exact rfl) ?_
    refine areg_run 1 (by simp [push_cast, g1, o5, o6]; exact rfl) ?_
    refine areg_g (by simp [AS.ev, AS.put]) (areg_ca (by simp [AS.ev, AS.coe, AS.put, keyA] <;> exact rfl) cR ?_)
    by_cases hr : rv = true
    · have hk := hb2 hs hr
      (repeat (first | (with_reducible apply areg_ng); focus (simp [AS.ev, AS.put, g1, hr, hk]; done) | (with_reducible apply areg_op); focus (simp [push_cast, g1, hr, hk]; exact rfl)))
      refine areg_nil (wp_cond_t (by simp [AS.ev, AS.put]) (wp_sg ?_))
      refine areg_bd (z' := ks0) rfl ?_
      unfold ks0
      refine areg_end (by simp [push_cast, g1, g2]; exact rfl) (wp_ret' ?_)
      exact ⟨_, Le.refl _, [], _, ⟨_, rfl, by simp [AS.seals, RVals, RVal, AS.ev, AS.peek, AS.blk, g1, Blk.loc, Blk.cont, Blk.n, AV.nav, AV.isAgg, AV.isTup, AS.coe]; rfl, by simp [keyA, ks0]⟩, .tup [ks0A, .lit (tx []), .lit (jn 1)], H, RelLe.tup (AVle.tupSt ks0_le (AVle.refl _)), by simp, HpLe.trim _ _, rfl, rfl⟩
    · have hr' : rv = false := by simpa using hr
      (repeat (first | (with_reducible apply areg_ng); focus (simp [AS.ev, AS.put, g1, hr']; done) | (with_reducible apply areg_op); focus (simp [push_cast, g1, hr']; exact rfl)))
      refine areg_nil (wp_cond_t (by simp [AS.ev, AS.put]) (wp_sg ?_))
      refine areg_bd (z' := ks0) rfl ?_
      unfold ks0
      refine areg_end (by simp [push_cast, g1, g2]; exact rfl) (wp_ret' ?_)
      exact ⟨_, Le.refl _, [], _, ⟨_, rfl, by simp [AS.seals, RVals, RVal, AS.ev, AS.peek, AS.blk, g1, Blk.loc, Blk.cont, Blk.n, AV.nav, AV.isAgg, AV.isTup, AS.coe]; rfl, by simp [keyA, ks0]⟩, .tup [ks0A, .lit (tx []), .lit (jn 1)], H, RelLe.tup (AVle.tupSt ks0_le (AVle.refl _)), by simp, HpLe.trim _ _, rfl, rfl⟩
set_option maxHeartbeats 16000000 in
theorem cseal_bad {H : List (Option Blk)} {o : OpV} (ho : OpOk o) (hbl : ∀ b ∈ o.boxes, b.body.length < 9223372036854775808) {A ws : List AV} (hA : A.length = 8) {b : Nat} {l : Nat × Nat} {s : List UInt8} (hs : s.length ≤ 64) (hsay : saysV (bindO o) = false) :
    XCall Go.Proofs.Tryz.prog 9 [freeI b l, ksA A ws, opA o, .lit (tx s)] H fun r H' => r = .tup [ks0A, .lit (tx []), .lit (jn 1)] ∧ H' = H := by
  have h513 := fc513_eq
  refine XCall.le ?_
  have ho' : OpOk (bindO o) := ⟨ho.seq, ho.parents, ho.p32, ho.who, ho.ofk, ho.check, by simp [bindO, txX], ho.boxes, ho.bok⟩
  have cS := says_call ho' hbl
  rw [hsay] at cS
  have o5 := ho.ofk
  have o6 := ho.check
  have hA1 : opA o = opB o.author o.seq o.parents o.kind (o.who.map fun x => AV.lit (ji x)) o.ofk o.check o.text (o.boxes.map fun x => boxA x) := rfl
  have hA2 : opA (bindO o) = opB o.author o.seq o.parents o.kind (o.who.map fun x => AV.lit (ji x)) o.ofk o.check txX (o.boxes.map fun x => boxA x) := rfl
  rw [hA2] at cS
  rw [hA1]
  unfold opB at cS ⊢
  generalize (o.who.map fun x => AV.lit (ji x)) = W at *
  generalize (o.boxes.map fun x => boxA x) = B at *
  have htx : tx [120] = tx txX := rfl
  have hs64 : ¬ 64 < s.length := by omega
  unfold ksA at *
  refine XCall.of h513 rfl ?_; show AC.wp _ fb513 ⟨H.length, [freeI b l, .st [528, 1] [.arr 66 A, .sl 65 ws], .st [1, 1, 1, 1, 1, 32, 32, 1, 1] [.lit (ji o.author), .lit (wn o.seq), .sl 32 (klA o.parents), .lit (ji o.kind), .sl 1 W, keyA o.ofk, keyA o.check, .lit (tx o.text), .sl 36 B], .lit (tx s)] ++ List.replicate (47 - 4) .any, H ++ List.replicate 47 none⟩ (fun x s => match x with | .exit _ => False | _ => ∃ s1, Le s s1 ∧ FinX [(.cell 8 .true 529), (.tmp 9), (.tmp 10)] s1 _); unfold fb513
  have g1 : ∀ L k, (H ++ L)[H.length + k]? = L[k]? := fun L k => cat1 _ _ _ _ rfl
  have g2 : ∀ L k x, (H ++ L).set (H.length + k) x = H ++ L.set k x := fun L k x => cat2 _ _ _ _ _ rfl
  generalize hN : H.length = N at *
  refine wp_sg (areg_bx rfl rfl fun l5 => areg_bx rfl (by simp [AS.ev, AV.sz, o5, o6]) fun l6 => areg_al' (z' := ks0) rfl fun l8 => areg_end (by simp [push_cast, g2]; exact rfl) ?_)
  refine wp_sg (areg_end (by simp [push_cast, g1, g2, o5, o6, htx]; exact rfl) ?_)
  have e1 : ks0.sz = 529 := rfl
  refine wp_seq' (wp_sg ?_)
  refine areg_run 5 (by simp [push_cast, g1, o5, o6, hs, hs64]; exact rfl) ?_
  refine areg_g (by simp [AS.ev, AS.put, hs]) (areg_ca (by simp [AS.ev, AS.coe, AS.put, keyA] <;> exact rfl) cS ?_)
  refine areg_end (by simp [push_cast, hs, hs64]; exact rfl) ?_
  refine wp_cond_t (by simp [AS.ev]) (wp_sg ?_)
  refine areg_bd (z' := ks0) rfl ?_
  unfold ks0
  refine areg_end (by simp [push_cast, g1, g2]; exact rfl) (wp_ret' ?_)
  exact ⟨_, Le.refl _, [], _, ⟨_, rfl, by simp [AS.seals, RVals, RVal, AS.ev, AS.peek, AS.blk, g1, Blk.loc, Blk.cont, Blk.n, AV.nav, AV.isAgg, AV.isTup, AS.coe]; rfl, by simp [keyA, ks0]⟩, .tup [ks0A, .lit (tx []), .lit (jn 1)], H, RelLe.tup (AVle.tupSt ks0_le (AVle.refl _)), by simp, HpLe.trim _ _, rfl, rfl⟩
set_option maxHeartbeats 16000000 in
theorem cseal_none {H : List (Option Blk)} {t : Tb} {V : Value} {ts : List Term} (hh : TbOk H t V ts) {o : OpV} (ho : OpOk o) (hbl : ∀ b ∈ o.boxes, b.body.length < 9223372036854775808)
    (hsay : saysV (bindO o) = true) {w : Nat} (hau : o.author = (w : Int)) {A ws : List AV} (hA : A.length = 8) {op : Bool} {k c : List UInt8} (hk : k.length = 32) (hc : c.length = 32)
    (hwA : A[w]? = some (.st [1, 1, 32, 32] [.lit (.bool false), .lit (.bool op), keyA k, keyA c])) {s : List UInt8} (hs : s.length ≤ 64) :
    XCall Go.Proofs.Tryz.prog 9 [freeI t.b t.l, ksA A ws, opA o, .lit (tx s)] H fun r H' => r = .tup [ks0A, .lit (tx []), .lit (jn 18)] ∧ ∃ V', H' = tbOf H t V' ts := by
  have h513 := fc513_eq
  refine XCall.le ?_
  have hself := hh.self
  have ho' : OpOk (bindO o) := ⟨ho.seq, ho.parents, ho.p32, ho.who, ho.ofk, ho.check, by simp [bindO, txX], ho.boxes, ho.bok⟩
  have cS := says_call ho' hbl
  have cN := nextN_k hh (ts := ts) (ws := ws) hA hk hc hwA
  have o5 := ho.ofk
  have o6 := ho.check
  rw [hsay] at cS
  have hA1 : opA o = opB o.author o.seq o.parents o.kind (o.who.map fun x => AV.lit (ji x)) o.ofk o.check o.text (o.boxes.map fun x => boxA x) := rfl
  have hA2 : opA (bindO o) = opB o.author o.seq o.parents o.kind (o.who.map fun x => AV.lit (ji x)) o.ofk o.check txX (o.boxes.map fun x => boxA x) := rfl
  have haj : ji o.author = jn w := by rw [hau]; rfl
  rw [hA2] at cS
  rw [hA1]
  unfold opB at cS ⊢
  rw [haj] at cS ⊢
  generalize (o.who.map fun x => AV.lit (ji x)) = W at *
  generalize (o.boxes.map fun x => boxA x) = B at *
  have G1 : ∀ V' ts', (tbOf H t V' ts').length = H.length := fun V' ts' => tbOf_len _ _ _ _
  have g1 : ∀ V' ts' L k, (tbOf H t V' ts' ++ L)[H.length + k]? = L[k]? := fun V' ts' L k => cat1 _ _ _ _ (G1 _ _)
  have g2 : ∀ V' ts' L k x, (tbOf H t V' ts' ++ L).set (H.length + k) x = tbOf H t V' ts' ++ L.set k x := fun V' ts' L k x => cat2 _ _ _ _ _ (G1 _ _)
  have htx : tx [120] = tx txX := rfl
  have hs64 : ¬ 64 < s.length := by omega
  unfold ks0A ksA at *
  refine XCall.of h513 rfl ?_; show AC.wp _ fb513 ⟨H.length, [freeI t.b t.l, .st [528, 1] [.arr 66 A, .sl 65 ws], .st [1, 1, 1, 1, 1, 32, 32, 1, 1] [.lit (jn w), .lit (wn o.seq), .sl 32 (klA o.parents), .lit (ji o.kind), .sl 1 W, keyA o.ofk, keyA o.check, .lit (tx o.text), .sl 36 B], .lit (tx s)] ++ List.replicate (47 - 4) .any, H ++ List.replicate 47 none⟩ (fun x s => match x with | .exit _ => False | _ => ∃ s1, Le s s1 ∧ FinX [(.cell 8 .true 529), (.tmp 9), (.tmp 10)] s1 _); unfold fb513
  rw [← hself]
  rw [tbOf_len]
  generalize hN : H.length = N at *
  refine wp_sg (areg_bx rfl rfl fun l5 => areg_bx rfl (by simp [AS.ev, AV.sz]) fun l6 => areg_al' (z' := ks0) rfl fun l8 => areg_end (by simp [push_cast, g2]; exact rfl) ?_)
  refine wp_sg (areg_end (by simp [push_cast, g1, g2, o5, o6, htx]; exact rfl) ?_)
  refine wp_seq' (wp_sg ?_)
  refine areg_run 5 (by simp [push_cast, g1, o5, o6, hs, hs64]; exact rfl) ?_
  refine areg_g (by simp [AS.ev, AS.put, hs]) (areg_ca (by simp [AS.ev, AS.coe, AS.put, keyA] <;> exact rfl) cS ?_)
  refine areg_end (by simp [push_cast, hs, hs64]; exact rfl) ?_
  refine wp_cond_f (by simp [AS.ev]) (wp_skip' (wp_sg ?_))
  refine areg_run 4 (by simp [push_cast, g1, o5, o6]; exact rfl) ?_
  refine areg_k [freeI t.b t.l, .st [528, 1] [.arr 66 A, .sl 65 ws], .lit (jn w)] hN rfl (tgt_next _ _ _) cN (by simp) (by simp) fun V2 => ?_
  refine areg_run 4 (by simp [push_cast, g1]; exact rfl) ?_
  refine areg_al' zk_eq.symm fun l11 => areg_end (by simp [push_cast, g1, g2, zk_len, hA]; exact rfl) ?_
  refine wp_seq' (wp_sr (by simp [push_cast, g1]; exact rfl) ?_)
  refine wp_cond_t (by simp [AS.ev]) (wp_sr (by simp [push_cast, g1, g2]; exact rfl) (wp_ret' ?_))
  exact ⟨_, Le.refl _, [], _, ⟨_, rfl, by simp [AS.seals, RVals, RVal, AS.ev, AS.peek, AS.blk, g1, Blk.loc, Blk.cont, Blk.n, AV.nav, AV.isAgg, AV.isTup, AS.coe]; rfl, by simp [keyA]⟩, .tup [.st [528, 1] [.arr 66 [r0A, r0A, r0A, r0A, r0A, r0A, r0A, r0A], .sl 65 []], .lit (tx []), .lit (jn 18)], _, RelLe.refl _, by simp, HpLe.trim _ _, rfl, V2, (hh.of_of _ _ _ _).symm⟩
end Go.Cab
namespace Go.Cab
open Go.RowKit
open Classical
attribute [local irreducible] AReg
set_option maxRecDepth 20000 in
set_option maxHeartbeats 16000000 in
theorem rsealN_call {H : List (Option Blk)} {b : Nat} {l : Nat × Nat} {o : OpV} (ho : OpOk o) (hbb : ∀ b ∈ o.boxes, b.body.length < 9223372036854775808) (hsay : saysV (bindO o) = true) {w : Nat} (hau : o.author = (w : Int)) {A ws : List AV} (hA : A.length = 8) {op : Bool} {k c : List UInt8} (hk : k.length = 32) (hc : c.length = 32)
    (hwA : A[w]? = some (.st [1, 1, 32, 32] [.lit (.bool false), .lit (.bool op), keyA k, keyA c])) {s : List UInt8} (hs : s.length ≤ 64) :
    XCall Go.Proofs.Tryz.prog 11 [kitA b l, ksA A ws, opA o, .lit (tx s)] H fun r H' => r = .tup [ks0A, .lit (tx []), .lit (jn 18)] ∧ H' = H := by
  have h732 := fc732_eq
  refine XCall.le ?_
  have ho' : OpOk (bindO o) := ⟨ho.seq, ho.parents, ho.p32, ho.who, ho.ofk, ho.check, by simp [bindO, txX], ho.boxes, ho.bok⟩
  have cR := rightR_call ho' (fun b hb => hbb b hb)
  have hsr : rightV (bindO o) = true ∧ o.kind = 7 := by
    unfold saysV at hsay
    rw [Bool.and_eq_true, decide_eq_true_iff] at hsay
    exact hsay
  rw [hsr.1] at cR
  have hk7 := hsr.2
  have o5 := ho.ofk
  have o6 := ho.check
  have hw8 : w < 8 := by have := (List.getElem?_eq_some_iff.1 hwA).1; omega
  have g4 : ∀ h, A[w]'h = .st [1, 1, 32, 32] [.lit (.bool false), .lit (.bool op), keyA k, keyA c] := fun h => by rw [List.getElem?_eq_getElem h] at hwA; exact Option.some.inj hwA
  have hwAl : w < A.length := by omega
  have hA1 : opA o = opB o.author o.seq o.parents o.kind (o.who.map fun x => AV.lit (ji x)) o.ofk o.check o.text (o.boxes.map fun x => boxA x) := rfl
  have hA2 : opA (bindO o) = opB o.author o.seq o.parents o.kind (o.who.map fun x => AV.lit (ji x)) o.ofk o.check txX (o.boxes.map fun x => boxA x) := rfl
  have haj : ji o.author = jn w := by rw [hau]; rfl
  rw [hA2] at cR
  rw [hA1]
  unfold opB at cR ⊢
  rw [haj, hk7] at cR ⊢
  generalize (o.who.map fun x => AV.lit (ji x)) = W at *
  generalize (o.boxes.map fun x => boxA x) = B at *
  have htx : tx [120] = tx txX := rfl
  have hs64 : ¬ 64 < s.length := by omega
  unfold ksA
  refine XCall.of h732 rfl ?_; show AC.wp _ fb732 ⟨H.length, [kitA b l, .st [528, 1] [.arr 66 A, .sl 65 ws], .st [1, 1, 1, 1, 1, 32, 32, 1, 1] [.lit (jn w), .lit (wn o.seq), .sl 32 (klA o.parents), .lit (ji 7), .sl 1 W, keyA o.ofk, keyA o.check, .lit (tx o.text), .sl 36 B], .lit (tx s)] ++ List.replicate (52 - 4) .any, H ++ List.replicate 52 none⟩ (fun x s => match x with | .exit _ => False | _ => ∃ s1, Le s s1 ∧ FinX [(.cell 8 .true 529), (.tmp 9), (.tmp 10)] s1 _); unfold fb732
  have g1 : ∀ L k, (H ++ L)[H.length + k]? = L[k]? := fun L k => cat1 _ _ _ _ rfl
  have g2 : ∀ L k x, (H ++ L).set (H.length + k) x = H ++ L.set k x := fun L k x => cat2 _ _ _ _ _ rfl
  generalize hN : H.length = N at *
  refine wp_sg (areg_bx rfl (by simp [AS.ev, kitA, AV.sz]) fun l4 => areg_bx rfl rfl fun l5 => areg_bx rfl (by simp [AS.ev, AS.put, AV.sz, o5, o6]) fun l6 => areg_al' (z' := ks0) rfl fun l8 => areg_end (by simp [push_cast, g2]; exact rfl) ?_)
  refine wp_sr (by simp [push_cast, g1, g2, o5, o6, htx]; exact rfl) ?_
  have e1 : ks0.sz = 529 := rfl
  refine wp_seq' (wp_sg ?_)
  refine areg_run 4 (by simp [push_cast, hs64]; exact rfl) ?_
  refine areg_run 1 (by simp [push_cast, g1, o5, o6]; exact rfl) ?_
  refine areg_g (by simp [AS.ev, AS.put]) (areg_ca (by simp [AS.ev, AS.coe, AS.put, keyA] <;> exact rfl) cR ?_)
  (repeat (first | (with_reducible apply areg_ng); focus (simp [AS.ev, AS.put, g1]; done) | (with_reducible apply areg_op); focus (simp [push_cast, g1]; exact rfl)))
  refine areg_nil (wp_cond_f (by simp [AS.ev, AS.put]) (wp_skip' ?_))
  refine wp_seq' (wp_sr (by simp [push_cast, g1, hA, hwA, g4, hw8, hwAl]; exact rfl) (wp_cond_t (by simp [AS.ev]) (wp_sg ?_)))
  refine areg_bd (z' := ks0) rfl ?_
  unfold ks0
  refine areg_end (by simp [push_cast, g1, g2]; exact rfl) (wp_ret' ?_)
  exact ⟨_, Le.refl _, [], _, ⟨_, rfl, by simp [AS.seals, RVals, RVal, AS.ev, AS.peek, AS.blk, g1, Blk.loc, Blk.cont, Blk.n, AV.nav, AV.isAgg, AV.isTup, AS.coe]; rfl, by simp [keyA, ks0]⟩, .tup [ks0A, .lit (tx []), .lit (jn 18)], H, RelLe.tup (AVle.tupSt ks0_le (AVle.refl _)), by simp, HpLe.trim _ _, rfl, rfl⟩
set_option maxRecDepth 20000 in
set_option maxHeartbeats 16000000 in
theorem ropenE_call {H : List (Option Blk)} {b : Nat} {l : Nat × Nat} {o : OpV} (ho : OpOk o) (hbb : ∀ b ∈ o.boxes, b.body.length < 9223372036854775808) {A ws : List AV} (hA : A.length = 8) (hbad : saysV o = false) :
    XCall Go.Proofs.Tryz.prog 18 [kitA b l, ksA A ws, opA o] H fun r H' => r = .tup [ks0A, .lit (tx []), .lit (jn 1)] ∧ H' = H := by
  have h733 := fc733_eq
  refine XCall.le ?_
  have cR := rightR_call ho hbb
  have hb2 : rightV o = true → o.kind ≠ 7 := fun h2 h3 => by
    unfold saysV at hbad
    rw [h2, h3] at hbad
    cases hbad
  generalize rightV o = rv at *
  have o5 := ho.ofk
  have o6 := ho.check
  have hA1 : opA o = opB o.author o.seq o.parents o.kind (o.who.map fun x => AV.lit (ji x)) o.ofk o.check o.text (o.boxes.map fun x => boxA x) := rfl
  rw [hA1] at cR ⊢
  unfold opB at cR ⊢
  generalize (o.who.map fun x => AV.lit (ji x)) = W at *
  generalize (o.boxes.map fun x => boxA x) = B at *
  generalize o.kind = kd at *
  unfold ksA
  refine XCall.of h733 rfl ?_; show AC.wp _ fb733 ⟨H.length, [kitA b l, .st [528, 1] [.arr 66 A, .sl 65 ws], .st [1, 1, 1, 1, 1, 32, 32, 1, 1] [.lit (ji o.author), .lit (wn o.seq), .sl 32 (klA o.parents), .lit (ji kd), .sl 1 W, keyA o.ofk, keyA o.check, .lit (tx o.text), .sl 36 B]] ++ List.replicate (66 - 3) .any, H ++ List.replicate 66 none⟩ (fun x s => match x with | .exit _ => False | _ => ∃ s1, Le s s1 ∧ FinX [(.cell 6 .true 529), (.tmp 7), (.tmp 8)] s1 _); unfold fb733
  have g1 : ∀ L k, (H ++ L)[H.length + k]? = L[k]? := fun L k => cat1 _ _ _ _ rfl
  have g2 : ∀ L k x, (H ++ L).set (H.length + k) x = H ++ L.set k x := fun L k x => cat2 _ _ _ _ _ rfl
  generalize hN : H.length = N at *
  refine wp_sg (areg_bx rfl (by simp [AS.ev, kitA, AV.sz]) fun l4 => areg_bx rfl rfl fun l5 => areg_bx rfl (by simp [AS.ev, AS.put, AV.sz, o5, o6]) fun l6 => areg_al' (z' := ks0) rfl fun l8 => areg_end (by simp [push_cast, g2]; exact rfl) ?_)
  have e1 : ks0.sz = 529 := rfl
  refine wp_seq' (wp_sg ?_)
  refine areg_run 1 (by simp [push_cast, g1, o5, o6]; exact rfl) ?_
  refine areg_ca (by simp [AS.ev, AS.coe, AS.put, keyA] <;> exact rfl) cR ?_
  by_cases hr : rv = true
  · have hk := hb2 hr
    (repeat (first | (with_reducible apply areg_ng); focus (simp [AS.ev, AS.put, g1, hr, hk]; done) | (with_reducible apply areg_op); focus (simp [push_cast, g1, hr, hk]; exact rfl)))
    refine areg_nil (wp_cond_t (by simp [AS.ev, AS.put]) (wp_sg ?_))
    refine areg_bd (z' := ks0) rfl ?_
    unfold ks0
    refine areg_end (by simp [push_cast, g1, g2]; exact rfl) (wp_ret' ?_)
    exact ⟨_, Le.refl _, [], _, ⟨_, rfl, by simp [AS.seals, RVals, RVal, AS.ev, AS.peek, AS.blk, g1, Blk.loc, Blk.cont, Blk.n, AV.nav, AV.isAgg, AV.isTup, AS.coe]; rfl, by simp [keyA, ks0]⟩, .tup [ks0A, .lit (tx []), .lit (jn 1)], H, RelLe.tup (AVle.tupSt ks0_le (AVle.refl _)), by simp, HpLe.trim _ _, rfl, rfl⟩
  · have hr' : rv = false := by simpa using hr
    (repeat (first | (with_reducible apply areg_ng); focus (simp [AS.ev, AS.put, g1, hr']; done) | (with_reducible apply areg_op); focus (simp [push_cast, g1, hr']; exact rfl)))
    refine areg_nil (wp_cond_t (by simp [AS.ev, AS.put]) (wp_sg ?_))
    refine areg_bd (z' := ks0) rfl ?_
    unfold ks0
    refine areg_end (by simp [push_cast, g1, g2]; exact rfl) (wp_ret' ?_)
    exact ⟨_, Le.refl _, [], _, ⟨_, rfl, by simp [AS.seals, RVals, RVal, AS.ev, AS.peek, AS.blk, g1, Blk.loc, Blk.cont, Blk.n, AV.nav, AV.isAgg, AV.isTup, AS.coe]; rfl, by simp [keyA, ks0]⟩, .tup [ks0A, .lit (tx []), .lit (jn 1)], H, RelLe.tup (AVle.tupSt ks0_le (AVle.refl _)), by simp, HpLe.trim _ _, rfl, rfl⟩
end Go.Cab
namespace Go.Cab
open Go.RowKit
open Classical
def fb640 : AC := (.seq (.reg [⟨some 1, none, .box 71 (.tmp 0), [], none⟩, ⟨some 2, none, .mov (.const (.bool false)), [], none⟩]) (.seq (.seq (.reg [⟨some 4, none, .faddr 2 2 (.tmp 1), [], none⟩, ⟨some 5, none, .load false 1 (.tmp 4), [], none⟩, ⟨some 6, none, .len false (.tmp 5), [], none⟩, ⟨some 7, none, .bin .gtr (.tmp 6) (.const (jn 30)), [], none⟩, ⟨some 8, none, .mov (.tmp 7), [], none⟩, ⟨some 9, some (8, false), .faddr 4 4 (.tmp 1), [], none⟩, ⟨some 10, some (8, false), .load false 1 (.tmp 9), [], none⟩, ⟨some 11, some (8, false), .len false (.tmp 10), [], none⟩, ⟨some 12, some (8, false), .bin .gtr (.tmp 11) (.const (jn 30)), [], none⟩, ⟨some 13, none, .pick (.tmp 8) (.const (.bool true)) (.tmp 12), [], none⟩, ⟨some 14, none, .mov (.tmp 13), [], none⟩, ⟨some 15, some (14, false), .faddr 70 8 (.tmp 1), [], none⟩, ⟨some 16, some (14, false), .load false 1 (.tmp 15), [], none⟩, ⟨some 17, some (14, false), .len false (.tmp 16), [], none⟩, ⟨some 18, some (14, false), .bin .gtr (.tmp 17) (.const (jn 30)), [], none⟩, ⟨some 19, none, .pick (.tmp 14) (.const (.bool true)) (.tmp 18), [], none⟩, ⟨some 20, none, .mov (.tmp 19), [], none⟩, ⟨some 21, some (20, false), .faddr 69 7 (.tmp 1), [], none⟩, ⟨some 22, some (20, false), .load false 1 (.tmp 21), [], none⟩, ⟨some 23, some (20, false), .len true (.tmp 22), [], none⟩, ⟨some 24, some (20, false), .bin .gtr (.tmp 23) (.const (jn 600)), [], none⟩, ⟨some 25, none, .pick (.tmp 20) (.const (.bool true)) (.tmp 24), [], none⟩]) (.cond (.tmp 25) (.seq (.reg [⟨some 2, none, .mov (.const (.bool true)), [], none⟩]) .ret) .skip)) (.seq (.seq (.reg [⟨some 3, none, .mov (.const (jn 0)), [], none⟩]) (.block 0 (.loop (.seq (.seq (.reg [⟨some 26, none, .mov (.tmp 3), [], none⟩, ⟨some 27, none, .faddr 70 8 (.tmp 1), [], none⟩, ⟨some 28, none, .load false 1 (.tmp 27), [], none⟩, ⟨some 29, none, .len false (.tmp 28), [], none⟩, ⟨some 30, none, .bin .lss (.tmp 26) (.tmp 29), [], none⟩]) (.cond (.tmp 30) .skip (.exit 0))) (.seq (.block 1 (.seq (.reg [⟨some 33, none, .faddr 70 8 (.tmp 1), [], none⟩, ⟨some 34, none, .load false 1 (.tmp 33), [], none⟩, ⟨some 35, none, .mov (.tmp 3), [], none⟩, ⟨some 36, none, .iaddrS 36 (.tmp 34) (.tmp 35), [], none⟩, ⟨some 37, none, .faddr 35 2 (.tmp 36), [], none⟩, ⟨some 38, none, .load false 1 (.tmp 37), [], none⟩, ⟨some 39, none, .len true (.tmp 38), [], none⟩, ⟨some 40, none, .bin .gtr (.tmp 39) (.const (jn 600)), [], none⟩]) (.cond (.tmp 40) (.seq (.reg [⟨some 2, none, .mov (.const (.bool true)), [], none⟩]) .ret) .skip))) (.reg [⟨some 31, none, .mov (.tmp 3), [], none⟩, ⟨some 32, none, .bin .add (.tmp 31) (.const (jn 1)), [], none⟩, ⟨some 3, none, .mov (.tmp 32), [], none⟩])))))) (.seq (.reg [⟨some 2, none, .mov (.const (.bool false)), [], none⟩]) .ret))))
def fc640 : FC := ⟨1, 41, [(.tmp 2)], fb640⟩
theorem fc640_eq : compF Go.Proofs.Tryz.prog 22 = some fc640 := by kernel_rfl
def longB (b : BoxV) : Bool := decide (600 < b.body.length)
def greatO (o : OpV) : Bool := decide (30 < o.parents.length) || (decide (30 < o.who.length) || (decide (30 < o.boxes.length) || (decide (600 < o.text.length) || o.boxes.any longB)))
set_option maxHeartbeats 16000000 in
theorem great_call {o : OpV} (h32 : o.ofk.length = 32 ∧ o.check.length = 32) (ht : o.text.length < 9223372036854775808) (hb : ∀ b ∈ o.boxes, b.body.length < 9223372036854775808) : PCall Go.Proofs.Tryz.prog 22 [opA o] (.val (.lit (.bool (greatO o)))) := by
  have h640 := fc640_eq
  obtain ⟨o5, o6⟩ := h32
  have hopA : opA o = .st [1, 1, 1, 1, 1, 32, 32, 1, 1] [.lit (ji o.author), .lit (wn o.seq), .sl 32 (klA o.parents), .lit (ji o.kind), .sl 1 (o.who.map fun x => AV.lit (ji x)), keyA o.ofk, keyA o.check, .lit (tx o.text), .sl 36 (o.boxes.map fun x => boxA x)] := rfl
  have hpl := klA_len o.parents
  have hwl : (o.who.map fun x => AV.lit (ji x)).length = o.who.length := List.length_map _
  have hbl : (o.boxes.map fun x => boxA x).length = o.boxes.length := List.length_map _
  have hget : ∀ i b, o.boxes[i]? = some b → (o.boxes.map fun x => boxA x)[i]? = some (boxA b) := fun i b h => by rw [List.getElem?_map, h]; rfl
  rw [hopA]
  unfold greatO
  generalize (o.boxes.map fun x => boxA x) = T at *
  generalize (o.who.map fun x => AV.lit (ji x)) = T2 at *
  generalize klA o.parents = T3 at *
  refine PCall.of h640 rfl ?_; show AC.wp _ fb640 (AS.init [.st [1, 1, 1, 1, 1, 32, 32, 1, 1] [.lit (ji o.author), .lit (wn o.seq), .sl 32 T3, .lit (ji o.kind), .sl 1 T2, keyA o.ofk, keyA o.check, .lit (tx o.text), .sl 36 T]] 1 41) (fun x s => match x with | .exit _ => False | _ => Fin [(.tmp 2)] s _); unfold fb640 AS.init
  refine wp_sg (areg_bx rfl (by simp [AS.ev, AV.sz]) fun l1 => areg_end (by simp [push_cast]; exact rfl) ?_)
  refine wp_seq' ?_
  by_cases h1 : 30 < o.parents.length
  · refine wp_sr (by simp [push_cast, hpl, h1, o5, o6]; exact rfl) ?_
    refine wp_cond_t (by simp [AS.ev]) (wp_sr (by simp [push_cast]; exact rfl) (wp_ret' ?_))
    exact fin_tmp (by simp [RVal, AS.ev, AS.coe, h1]) (by simp)
  by_cases h2 : 30 < o.who.length
  · refine wp_sr (by simp [push_cast, hpl, hwl, h1, h2, o5, o6]; exact rfl) ?_
    refine wp_cond_t (by simp [AS.ev]) (wp_sr (by simp [push_cast]; exact rfl) (wp_ret' ?_))
    exact fin_tmp (by simp [RVal, AS.ev, AS.coe, h1, h2]) (by simp)
  by_cases h3 : 30 < o.boxes.length
  · refine wp_sr (by simp [push_cast, hpl, hwl, hbl, h1, h2, h3, o5, o6]; exact rfl) ?_
    refine wp_cond_t (by simp [AS.ev]) (wp_sr (by simp [push_cast]; exact rfl) (wp_ret' ?_))
    exact fin_tmp (by simp [RVal, AS.ev, AS.coe, h1, h2, h3]) (by simp)
  by_cases h4 : 600 < o.text.length
  · refine wp_sr (by simp [push_cast, hpl, hwl, hbl, h1, h2, h3, h4, o5, o6]; exact rfl) ?_
    refine wp_cond_t (by simp [AS.ev]) (wp_sr (by simp [push_cast]; exact rfl) (wp_ret' ?_))
    exact fin_tmp (by simp [RVal, AS.ev, AS.coe, h1, h2, h3, h4]) (by simp)
  refine wp_sr (by simp [push_cast, hpl, hwl, hbl, h1, h2, h3, h4, o5, o6]; exact rfl) ?_
  refine wp_cond_f (by simp [AS.ev]) (wp_skip' ?_)
  have hfin : (decide (30 < o.parents.length) || (decide (30 < o.who.length) || (decide (30 < o.boxes.length) || (decide (600 < o.text.length) || o.boxes.any longB)))) = o.boxes.any longB := by simp [h1, h2, h3, h4]
  rw [hfin]
  refine wp_seq' (wp_seq' (wp_r (by simp [push_cast]; exact rfl) ?_))
  refine wp_block' (wp_loop_m (fun i => ⟨0, [.any, .ptr 1 l1 0 [], .lit (.bool false), .lit (jn i)] ++ List.replicate 37 .any, [none, some (.box l1 71 (.st [1, 1, 1, 1, 1, 32, 32, 1, 1] [.lit (ji o.author), .lit (wn o.seq), .sl 32 T3, .lit (ji o.kind), .sl 1 T2, keyA o.ofk, keyA o.check, .lit (tx o.text), .sl 36 T]))] ++ List.replicate 39 none⟩) (fun i => o.boxes.length - i) (fun i => (o.boxes.drop i).any longB = o.boxes.any longB ∧ i ≤ o.boxes.length) 0 ?_ ⟨rfl, by simp⟩ ?_)
  · exact Le.mk rfl (by simp [leT]) (by simp [leH, keyA])
  rintro i ⟨hI, hi⟩
  simp only at hI hi ⊢
  by_cases hlt : i < o.boxes.length
  · obtain ⟨b, hbi⟩ : ∃ b, o.boxes[i]? = some b := ⟨_, List.getElem?_eq_getElem hlt⟩
    have hdrop : o.boxes.drop i = b :: o.boxes.drop (i + 1) := by
      rw [List.drop_eq_getElem_cons hlt]
      rw [List.getElem?_eq_getElem hlt] at hbi
      rw [Option.some.inj hbi]
    rw [hdrop, List.any_cons] at hI
    have j1 := hget i b hbi
    have j2 : ∀ h, T[i]'h = boxA b := fun h => by rw [List.getElem?_eq_getElem h] at j1; exact Option.some.inj j1
    have hbb := hb b (List.mem_of_getElem? hbi)
    have q1 : i + 1 < 9223372036854775808 := by omega
    unfold boxA at j1 j2
    refine wp_seq' (wp_sr (by simp [push_cast, hbl, hlt, o5, o6]; exact rfl) ?_)
    refine wp_cond_t (by simp [AS.ev]) (wp_skip' ?_)
    by_cases hlb : 600 < b.body.length
    · refine wp_seq' (wp_block' (wp_sr (by simp [push_cast, hbl, hlt, j1, j2, o5, o6, hlb]; exact rfl) ?_))
      refine wp_cond_t (by simp [AS.ev]) (wp_sr (by simp [push_cast]; exact rfl) (wp_ret' ?_))
      exact fin_tmp (by simp [RVal, AS.ev, AS.coe, ← hI, longB, hlb]) (by simp)
    · refine wp_seq' (wp_block' (wp_sr (by simp [push_cast, hbl, hlt, j1, j2, o5, o6, hlb]; exact rfl) ?_))
      refine wp_cond_f (by simp [AS.ev]) (wp_skip' ?_)
      refine wp_r (by simp [push_cast, q1]; exact rfl) ?_
      refine Exists.intro (i + 1) ⟨⟨by rw [← hI]; simp [longB, hlb], by omega⟩, by omega, Le.mk rfl (by simp [leT]) (by simp [leH, keyA])⟩
  · have hin : i = o.boxes.length := by omega
    subst hin
    rw [List.drop_length] at hI
    refine wp_seq' (wp_sr (by simp [push_cast, hbl, o5, o6]; exact rfl) ?_)
    refine wp_cond_f (by simp [AS.ev]) (wp_exit' (if_hit rfl ?_))
    refine wp_sr (by simp [push_cast]; exact rfl) (wp_ret' ?_)
    exact fin_tmp (by simp [RVal, AS.ev, AS.coe, ← hI]) (by simp)
end Go.Cab
namespace Go.Cab
open Go.RowKit
open Classical
def fb736 : AC := (.seq (.reg [⟨some 3, none, .box 529 (.tmp 0), [], none⟩, ⟨some 4, none, .box 71 (.tmp 1), [], none⟩, ⟨some 6, none, .mov (.const (.bool false)), [], none⟩]) (.seq (.reg [⟨some 7, none, .faddr 528 1 (.tmp 3), [], none⟩, ⟨some 8, none, .load false 1 (.tmp 7), [], none⟩, ⟨some 9, none, .len false (.tmp 8), [], none⟩, ⟨some 10, none, .bin .gtr (.tmp 9) (.const (jn 60)), [], none⟩, ⟨some 11, none, .mov (.tmp 10), [], none⟩, ⟨some 12, some (11, false), .load true 71 (.tmp 4), [], none⟩, ⟨some 13, some (11, false), .call 22 [.tmp 12], [], none⟩, ⟨some 14, none, .pick (.tmp 11) (.const (.bool true)) (.tmp 13), [], none⟩, ⟨some 15, none, .mov (.tmp 14), [], none⟩, ⟨some 16, some (15, false), .mov (.tmp 2), [], none⟩, ⟨some 17, some (15, false), .len true (.tmp 16), [], none⟩, ⟨some 18, some (15, false), .bin .gtr (.tmp 17) (.const (jn 300)), [], none⟩, ⟨some 19, none, .pick (.tmp 15) (.const (.bool true)) (.tmp 18), [], none⟩, ⟨some 6, none, .mov (.tmp 19), [], none⟩]) .ret))
def fc736 : FC := ⟨3, 20, [(.tmp 6)], fb736⟩
theorem fc736_eq : compF Go.Proofs.Tryz.prog 6 = some fc736 := by kernel_rfl
attribute [local irreducible] AReg
set_option maxRecDepth 20000 in
set_option maxHeartbeats 16000000 in
theorem greatC_call {o : OpV} (h32 : o.ofk.length = 32 ∧ o.check.length = 32) (ht : o.text.length < 9223372036854775808) (hb : ∀ b ∈ o.boxes, b.body.length < 9223372036854775808) {A ws : List AV} (hA : A.length = 8) {s : List UInt8} :
    PCall Go.Proofs.Tryz.prog 6 [ksA A ws, opA o, .lit (tx s)] (.val (.lit (.bool (decide (60 < ws.length) || (greatO o || decide (300 < s.length)))))) := by
  have h736 := fc736_eq
  have cG := great_call h32 ht hb
  obtain ⟨o5, o6⟩ := h32
  generalize greatO o = g at *
  have hA1 : opA o = opB o.author o.seq o.parents o.kind (o.who.map fun x => AV.lit (ji x)) o.ofk o.check o.text (o.boxes.map fun x => boxA x) := rfl
  rw [hA1] at cG ⊢
  unfold opB at cG ⊢
  generalize (o.who.map fun x => AV.lit (ji x)) = W at *
  generalize (o.boxes.map fun x => boxA x) = B at *
  generalize hwl : ws.length = wl at *
  generalize hsl : s.length = sl at *
  unfold ksA
  refine PCall.of h736 rfl ?_; show AC.wp _ fb736 (AS.init [.st [528, 1] [.arr 66 A, .sl 65 ws], .st [1, 1, 1, 1, 1, 32, 32, 1, 1] [.lit (ji o.author), .lit (wn o.seq), .sl 32 (klA o.parents), .lit (ji o.kind), .sl 1 W, keyA o.ofk, keyA o.check, .lit (tx o.text), .sl 36 B], .lit (tx s)] 3 20) (fun x s => match x with | .exit _ => False | _ => Fin [(.tmp 6)] s _); unfold fb736 AS.init
  refine wp_sg (areg_bx rfl rfl fun l3 => areg_bx rfl (by simp [AS.ev, AS.put, AV.sz, o5, o6]) fun l4 => areg_end (by simp [push_cast]; exact rfl) ?_)
  refine wp_sg ?_
  by_cases h1 : 60 < wl
  · (repeat (first | (with_reducible apply areg_ng); focus (simp [AS.ev, AS.put, hA, hwl, h1]; done) | (with_reducible apply areg_op); focus (simp [push_cast, hA, hwl, h1]; exact rfl)))
    refine areg_nil (wp_ret' ?_)
    exact fin_tmp (v := .lit (.bool (decide (60 < wl) || (g || decide (300 < sl))))) (by simp [RVal, AS.ev, AS.coe, AS.put, h1]) (by simp)
  · refine areg_run 5 (by simp [push_cast, hA, hwl, h1]; exact rfl) ?_
    refine areg_run 1 (by simp [push_cast, o5, o6]; exact rfl) ?_
    refine areg_g (by simp [AS.ev, AS.put]) (areg_ca (by simp [AS.ev, AS.coe, AS.put, keyA] <;> exact rfl) cG ?_)
    by_cases hg : g = true
    · (repeat (first | (with_reducible apply areg_ng); focus (simp [AS.ev, AS.put, hg]; done) | (with_reducible apply areg_op); focus (simp [push_cast, hg]; exact rfl)))
      refine areg_nil (wp_ret' ?_)
      exact fin_tmp (by simp [RVal, AS.ev, AS.coe, AS.put, h1, hg]) (by simp)
    · have hg' : g = false := by simpa using hg
      (repeat (first | (with_reducible apply areg_ng); focus (simp [AS.ev, AS.put, hg', hsl]; done) | (with_reducible apply areg_op); focus (simp [push_cast, hg', hsl]; exact rfl)))
      refine areg_nil (wp_ret' ?_)
      exact fin_tmp (by simp [RVal, AS.ev, AS.coe, AS.put, h1, hg']) (by simp)
end Go.Cab
namespace Go.Cab
open Go.ChangeShapes Go.WideShapes Go.RowKit Go.ChangeAt
section
variable {H : Type} {enc : TypeId × Value → H} {P : Program}
theorem post_below {f : Func} {s : ChangeSpec} {apart fresh handsOn again : Bool} {W W' : World} {args : Array Value} {v : Value} {ds : List (DataW H)} {before : List MemPlace}
    (hvs : s.vars = []) (hW : DataW.Whole enc P f.params.toList s.vars apart W args.toList ds [] before)
    (hb : Below W.heap.size W W')
    (hres : ∀ (b : Nat) (sp : Nat → Bool) (hd : Bool), DataW.TrodAll enc P W' b sp hd f.resultTypes.toList (v.resultList f.resultTypes.size) (s.fn H (ds ++ [])).results [])
    (hargs : ∀ sp : Nat → Bool, (∀ p ∈ before, sp p.block = true) → DataW.TrodAll enc P W' 0 sp true f.params.toList args.toList (s.fn H (ds ++ [])).args before)
    (hvars : ∀ sp : Nat → Bool, DataW.TrodVars enc P W' sp s.vars (s.fn H (ds ++ [])).vars [])
    (hok : ∀ (j : Nat) (t : TypeId) (r : Value), f.resultTypes[j]? = some t → (v.resultList f.resultTypes.size)[j]? = some r → Value.okWide P W' .any 0 t r) :
    s.post enc P f apart fresh handsOn again W args v W' := by
  have hlt : ∀ p ∈ before, p.block < W.heap.size := fun p hp => hW.lt p hp
  refine ⟨ds, [], before, [], before, [], hW, hres _ _ _, hargs _ (fun p hp => by simpa using hlt p hp), hvars _, hb.frame _, fun _ => ?_⟩
  obtain ⟨_, _, _, _, _, hz, hn⟩ := hW
  refine ⟨hok, _, _, ([] ++ before) ++ [], ⟨[] ++ before, [], trodAll_append (hargs _ (fun _ _ => rfl)) (hres _ _ _), hvars _, rfl, fun b o hp => ?_, fun ha => ?_⟩, fun p hp _ => ?_⟩
  · have hp' : MemPlace.cell b o ∈ before := by simpa using hp
    have h1 := hz b o hp'
    rw [hb.frozen (p := ⟨b, o, none⟩) (hlt _ hp')]
    exact h1
  · simpa using hn ha
  · simpa using hp
end
end Go.Cab
namespace Go.Cab
open Go.ChangeShapes Go.WideShapes Go.RowKit
section
variable {H : Type} {enc : TypeId × Value → H} {P : Program} {W : World} {base : Nat} {sp : Nat → Bool} {held : Bool}
theorem At.app {Imm : Nat → Nat → Prop} {w : World} {b o : Nat} {c d : List Value} (h : At Imm w b o c) (k : At Imm w b (o + c.length) d) : At Imm w b o (c ++ d) := by
  intro i v hv
  by_cases hi : i < c.length
  · rw [List.getElem?_append_left hi] at hv; exact h i v hv
  · rw [List.getElem?_append_right (by omega)] at hv
    have := k (i - c.length) v hv
    rwa [show o + c.length + (i - c.length) = o + i by omega] at this
def StOf (W : World) (ps : List MemPlace) (b o : Nat) : Prop := MemPlace.cell b o ∈ ps ∧ (W.cell? ⟨b, o, none⟩).isSome = true
theorem open_sl {t k : TypeId} {c : Nat} (ht : P.underlying t = some (.slice k)) (hc : P.cellsOf k = c) (G : AV → Prop)
    (hel : ∀ (n : Nat) (cs : List Value) (x : DataW H × List MemPlace), DataW.trod enc P W base sp held n k cs = some x → cs.length = c → ∃ v, G v ∧ R (StOf W x.2) W v cs ∧ ∀ y ∈ cs, sc y = true)
    {r : Reach} {b0 : Nat} {v : Value} (hval : Value.okWide P W r b0 t v) {d : DataW H} {ps : List MemPlace} (hd : DataW.Trod enc P W base sp held t v d ps) :
    ∃ vs : List AV, (∀ u ∈ vs, G u) ∧ Rel (StOf W ps) W (.sl c vs) v := by
  obtain ⟨fuel, hf⟩ := hd
  have hv : (∃ a len cap, v = .slice a len cap) := by
    cases v <;> simp [Value.okWide, Cell.okWide, Cell.ok, ht] at hval ⊢
  obtain ⟨a0, len0, cap0, rfl⟩ := hv
  have hcs : (Value.slice a0 len0 cap0).cells.toList = [.slice a0 len0 cap0] := rfl
  rw [hcs] at hf
  rcases Go.Deep.open_slice ht hf with ⟨h1, h2⟩ | ⟨a, len, cap, m, n, D, Pl, h1, _, hle, _, hm, h2, hall⟩
  · cases h1
    exact ⟨[], by simp, .inr ⟨_, .slnil c, rfl⟩⟩
  · cases h1
    have hspot : a.spot = none := by
      simp only [Value.okWide, Cell.okWide, Cell.ok, ht] at hval
      exact hval.2.2.2.1
    have hps : ps = MemPlace.row a (m * P.cellsOf k) ++ (List.range m).flatMap Pl := congrArg Prod.snd h2
    rw [hc] at hps hall
    have hlm : len0 ≤ m := by rw [hm]; split <;> omega
    have key : ∀ q, q ≤ len0 → ∃ (vs : List AV) (cs : List Value), (∀ u ∈ vs, G u) ∧ vs.length = q ∧ cs.length = q * c ∧ R (StOf W ps) W (.arr c vs) cs ∧ At (StOf W ps) W a.block (a.off + (len0 - q) * c) cs := by
      intro q
      induction q with
      | zero => exact fun _ => ⟨[], [], by simp, rfl, by simp, .arr0 c, fun i v hv => by simp at hv⟩
      | succ q ih =>
        intro hq
        obtain ⟨vs, cs, g1, g2, g3, g4, g5⟩ := ih (by omega)
        have hi : len0 - (q + 1) < m := by omega
        obtain ⟨cs', k1, k2⟩ := hall (len0 - (q + 1)) hi
        obtain ⟨_, hl', hget⟩ := World.cells?_some k1
        obtain ⟨u, u1, u2, u3⟩ := hel n cs' _ k2 hl'
        refine ⟨u :: vs, cs' ++ cs, ?_, by simp [g2], by rw [List.length_append, hl', g3, Nat.succ_mul]; omega, .arr1 c u vs cs' cs (u2.mono (fun b o hb => ?_) (fun _ _ _ => rfl)) hl' u3 g4, At.app ?_ ?_⟩
        · intro x hx
          rcases List.mem_cons.1 hx with rfl | hx
          · exact u1
          · exact g1 x hx
        · rw [hps]
          exact ⟨List.mem_append_right _ (List.mem_flatMap.2 ⟨_, List.mem_range.2 hi, hb.1⟩), hb.2⟩
        · intro j y hy
          have hj : j < c := by rw [← hl']; exact (List.getElem?_eq_some_iff.1 hy).1
          have h3 := hget j hj
          rw [Go.Deep.add_add] at h3
          have e1 : a.add ((len0 - (q + 1)) * c + j) = ⟨a.block, a.off + (len0 - (q + 1)) * c + j, none⟩ := by
            unfold Addr.add
            split
            · rename_i h0
              obtain ⟨b, o, s⟩ := a
              simp only at hspot ⊢
              rw [hspot]; congr 1; omega
            · rw [Nat.add_assoc]
          rw [e1] at h3
          refine ⟨by rw [h3]; exact hy, ?_, by rw [h3, hy]; rfl⟩
          rw [hps]
          refine List.mem_append_left _ (MemPlace.mem_row.2 ⟨(len0 - (q + 1)) * c + j, ?_, by rw [Nat.add_assoc]⟩)
          have := Nat.mul_le_mul_right c (show len0 - (q + 1) + 1 ≤ m by omega)
          rw [Nat.succ_mul] at this
          omega
        · rw [hl']
          have e2 : a.off + (len0 - (q + 1)) * c + c = a.off + (len0 - q) * c := by
            have e3 : len0 - q = (len0 - (q + 1)) + 1 := by omega
            rw [e3, Nat.succ_mul]; omega
          rw [e2]
          exact g5
    obtain ⟨vs, cs, g1, g2, g3, g4, g5⟩ := key len0 (Nat.le_refl _)
    rw [Nat.sub_self, Nat.zero_mul, Nat.add_zero] at g5
    have ea : a = ⟨a.block, a.off, none⟩ := by obtain ⟨b, o, s⟩ := a; simp only at hspot; rw [hspot]
    refine ⟨vs, g1, .inr ⟨_, .sl c vs cs a.block a.off cap0 g4 g5 (by omega), ?_⟩⟩
    show Value.slice (some a) len0 cap0 = Value.slice (some ⟨a.block, a.off, none⟩) vs.length cap0
    rw [g2, ← ea]
theorem map_of_each {α β : Type} {f : α → β} : ∀ {l : List β}, (∀ u ∈ l, ∃ n, u = f n) → ∃ ks : List α, l = ks.map f
  | [], _ => ⟨[], rfl⟩
  | u :: l, h => by
    obtain ⟨n, rfl⟩ := h u (by simp)
    obtain ⟨ks, e⟩ := map_of_each (l := l) (fun x hx => h x (List.mem_cons_of_mem _ hx))
    exact ⟨n :: ks, by rw [e]; rfl⟩
theorem open_bytes {t e : TypeId} (ht : P.underlying t = some (.slice e)) (he : P.underlying e = some (.int .u8)) (h1 : P.cellsOf e = 1)
    {r : Reach} {b0 : Nat} {v : Value} (hval : Value.okWide P W r b0 t v) {d : DataW H} {ps : List MemPlace} (hd : DataW.Trod enc P W base sp held t v d ps) :
    ∃ bs : List Nat, (∀ n ∈ bs, n < 256) ∧ Rel (StOf W ps) W (.sl 1 (bs.map fun n => .lit (bn n))) v := by
  obtain ⟨vs, g1, g2⟩ := open_sl ht h1 (fun u => ∃ n : {n : Nat // n < 256}, u = .lit (bn n.1)) (fun n cs x hx hl => by
    obtain ⟨a, rfl, _, wa⟩ := DataW.trod_int he hx
    simp [Lit.wf, IntKind.min, IntKind.max, IntKind.signed, IntKind.bits] at wa
    refine ⟨_, ⟨⟨a.toNat, by omega⟩, rfl⟩, ?_, fun y hy => by simp at hy; rw [hy]; rfl⟩
    have : Value.int .u8 a = bn a.toNat := by unfold bn; rw [Int.toNat_of_nonneg (by omega)]
    rw [this]
    exact .lit _ rfl) hval hd
  obtain ⟨ks, rfl⟩ := map_of_each (f := fun n : {n : Nat // n < 256} => AV.lit (bn n.1)) g1
  refine ⟨ks.map (·.1), fun n hn => ?_, by rw [List.map_map]; exact g2⟩
  obtain ⟨a, _, rfl⟩ := List.mem_map.1 hn
  exact a.2
end
theorem t5 : Go.Proofs.Tryz.prog.underlying 5 = some (.int .u8) := by kernel_rfl
theorem c5 : Go.Proofs.Tryz.prog.cellsOf 5 = 1 := by kernel_rfl
end Go.Cab
namespace Go.Cab
def tabName : String := "internal/strconv.uint64pow10"
theorem tab_laid {P : Program} {l : List (String × DataW Unit)} {W : World} (hL : laidMetH P l W) (hl : (l.filter fun x => x.1 == tabName) = [(tabName, Lib.tabData .u64 Lib.pow10Tab)])
    {t e : TypeId} (hg : P.globalNamed tabName = some 1) (hty : (P.globals[1]?).map (·.type) = some t) (ht : P.underlying t = some (.array 20 e)) (he : P.underlying e = some (.int .u64)) (hce : P.cellsOf e = 1) (hct : P.cellsOf t = 20) : Lib.TabIs P W tabName .u64 Lib.pow10Tab := by
  have h := hL.filter (fun x => x.1 == tabName)
  rw [hl] at h
  exact Lib.tabIs_of_head hg hty ht he hce hct h
theorem tabOk_of {P : Program} {W : World} (hg : P.globalNamed tabName = some 1) (h : Lib.TabIs P W tabName .u64 Lib.pow10Tab) : TabOk [] W := by
  intro x hx
  simp only [laidTabs, List.mem_singleton] at hx
  subst hx
  refine ⟨?_, fun r hr => by cases hr⟩
  unfold Lib.TabIs World.var? at h
  rw [hg] at h
  simp only [Option.bind_some] at h
  split at h
  · rename_i cs t fr hc
    cases h
    exact ⟨t, fr, hc⟩
  · cases h
theorem tabOk_laid {l : List (String × DataW Unit)} {W : World} (hL : laidMetH Go.Proofs.Tryz.prog l W) (hl : (l.filter fun x => x.1 == tabName) = [(tabName, Lib.tabData .u64 Lib.pow10Tab)]) : TabOk [] W :=
  tabOk_of (by kernel_rfl) (tab_laid (t := 173) (e := 114) hL hl (by kernel_rfl) (by kernel_rfl) (by kernel_rfl) (by kernel_rfl) (by kernel_rfl) (by kernel_rfl))
end Go.Cab
namespace Go.Cab
open Go.RowKit
def itoaRen : Go.Shelf.Ren := ⟨fun | 171 => 67 | 243 => 87 | 246 => 98 | 283 => 105 | 284 => 106 | 285 => 107 | 286 => 108 | 129 => 117 | 317 => 116 | 318 => 118 | 319 => 119 | 320 => 120 | 337 => 124 | 338 => 125 | n => n, fun | 3 => 3 | 9 => 9 | 2 => 2 | 4 => 4 | 171 => 155 | 0 => 0 | 53 => 114 | 37 => 92 | 5 => 5 | 173 => 158 | 212 => 173 | 51 => 30 | 20 => 20 | 213 => 174 | 46 => 121 | 232 => 22 | 233 => 179 | n => n, fun | 17 => 1 | 18 => 2 | 19 => 3 | n => n⟩
theorem itoaLay : Go.Proofs.LaysM.n171 Go.Proofs.Tryz.prog itoaRen := {
  mixed := by kernel_rfl,
  f129 := Go.Proofs.Tryz.func117.trans (congrArg some (by kernel_rfl)),
  f171 := Go.Proofs.Tryz.func67.trans (congrArg some (by kernel_rfl)),
  f243 := Go.Proofs.Tryz.func87.trans (congrArg some (by kernel_rfl)),
  f246 := Go.Proofs.Tryz.func98.trans (congrArg some (by kernel_rfl)),
  f283 := Go.Proofs.Tryz.func105.trans (congrArg some (by kernel_rfl)),
  f284 := Go.Proofs.Tryz.func106.trans (congrArg some (by kernel_rfl)),
  f285 := Go.Proofs.Tryz.func107.trans (congrArg some (by kernel_rfl)),
  f286 := Go.Proofs.Tryz.func108.trans (congrArg some (by kernel_rfl)),
  f317 := Go.Proofs.Tryz.func116.trans (congrArg some (by kernel_rfl)),
  f318 := Go.Proofs.Tryz.func118.trans (congrArg some (by kernel_rfl)),
  f319 := Go.Proofs.Tryz.func119.trans (congrArg some (by kernel_rfl)),
  f320 := Go.Proofs.Tryz.func120.trans (congrArg some (by kernel_rfl)),
  f337 := Go.Proofs.Tryz.func124.trans (congrArg some (by kernel_rfl)),
  f338 := Go.Proofs.Tryz.func125.trans (congrArg some (by kernel_rfl)),
  t0 := Go.Proofs.Tryz.underlying0,
  a0 := Go.Proofs.Tryz.isAgg0,
  z0 := Go.Proofs.Tryz.sizeOf0,
  v0 := Go.Proofs.Tryz.zeroValue0,
  t2 := Go.Proofs.Tryz.underlying2,
  a2 := Go.Proofs.Tryz.isAgg2,
  z2 := Go.Proofs.Tryz.sizeOf2,
  v2 := Go.Proofs.Tryz.zeroValue2,
  t3 := Go.Proofs.Tryz.underlying3,
  a3 := Go.Proofs.Tryz.isAgg3,
  z3 := Go.Proofs.Tryz.sizeOf3,
  v3 := Go.Proofs.Tryz.zeroValue3,
  t4 := Go.Proofs.Tryz.underlying4,
  a4 := Go.Proofs.Tryz.isAgg4,
  z4 := Go.Proofs.Tryz.sizeOf4,
  v4 := Go.Proofs.Tryz.zeroValue4,
  t5 := Go.Proofs.Tryz.underlying5,
  a5 := Go.Proofs.Tryz.isAgg5,
  z5 := Go.Proofs.Tryz.sizeOf5,
  v5 := Go.Proofs.Tryz.zeroValue5,
  t9 := Go.Proofs.Tryz.underlying9,
  a9 := Go.Proofs.Tryz.isAgg9,
  z9 := Go.Proofs.Tryz.sizeOf9,
  v9 := Go.Proofs.Tryz.zeroValue9,
  t20 := Go.Proofs.Tryz.underlying20,
  a20 := Go.Proofs.Tryz.isAgg20,
  z20 := Go.Proofs.Tryz.sizeOf20,
  v20 := Go.Proofs.Tryz.zeroValue20,
  t37 := Go.Proofs.Tryz.underlying92,
  a37 := Go.Proofs.Tryz.isAgg92,
  z37 := Go.Proofs.Tryz.sizeOf92,
  v37 := Go.Proofs.Tryz.zeroValue92,
  t46 := Go.Proofs.Tryz.underlying121,
  a46 := Go.Proofs.Tryz.isAgg121,
  z46 := Go.Proofs.Tryz.sizeOf121,
  v46 := Go.Proofs.Tryz.zeroValue121,
  t51 := Go.Proofs.Tryz.underlying30,
  a51 := Go.Proofs.Tryz.isAgg30,
  z51 := Go.Proofs.Tryz.sizeOf30,
  v51 := Go.Proofs.Tryz.zeroValue30,
  t53 := Go.Proofs.Tryz.underlying114,
  a53 := Go.Proofs.Tryz.isAgg114,
  z53 := Go.Proofs.Tryz.sizeOf114,
  v53 := Go.Proofs.Tryz.zeroValue114,
  t171 := Go.Proofs.Tryz.underlying155,
  a171 := Go.Proofs.Tryz.isAgg155,
  z171 := Go.Proofs.Tryz.sizeOf155,
  v171 := Go.Proofs.Tryz.zeroValue155,
  t173 := Go.Proofs.Tryz.underlying158,
  a173 := Go.Proofs.Tryz.isAgg158,
  z173 := Go.Proofs.Tryz.sizeOf158,
  v173 := Go.Proofs.Tryz.zeroValue158,
  t212 := Go.Proofs.Tryz.underlying173,
  a212 := Go.Proofs.Tryz.isAgg173,
  z212 := Go.Proofs.Tryz.sizeOf173,
  v212 := Go.Proofs.Tryz.zeroValue173,
  t213 := Go.Proofs.Tryz.underlying174,
  a213 := Go.Proofs.Tryz.isAgg174,
  z213 := Go.Proofs.Tryz.sizeOf174,
  t232 := Go.Proofs.Tryz.underlying22,
  a232 := Go.Proofs.Tryz.isAgg22,
  z232 := Go.Proofs.Tryz.sizeOf22,
  v232 := Go.Proofs.Tryz.zeroValue22,
  t233 := Go.Proofs.Tryz.underlying179,
  a233 := Go.Proofs.Tryz.isAgg179,
  z233 := Go.Proofs.Tryz.sizeOf179,
  v233 := Go.Proofs.Tryz.zeroValue179,
  g17 := by kernel_rfl,
  g18 := by kernel_rfl,
  g19 := by kernel_rfl,
  i0 := by kernel_rfl,
  i2 := by kernel_rfl,
  i3 := by kernel_rfl,
  i4 := by kernel_rfl,
  i5 := by kernel_rfl,
  i9 := by kernel_rfl,
  i20 := by kernel_rfl,
  i37 := by kernel_rfl,
  i46 := by kernel_rfl,
  i51 := by kernel_rfl,
  i53 := by kernel_rfl,
  i171 := by kernel_rfl,
  i173 := by kernel_rfl,
  i212 := by kernel_rfl,
  i232 := by kernel_rfl,
  i233 := by kernel_rfl,
  m17 := by kernel_rfl,
  m18 := by kernel_rfl,
  m19 := by kernel_rfl }
theorem tabIs_of {P : Program} {W : World} (hg : P.globalNamed tabName = some 1) (h : TabOk [] W) : Lib.TabIs P W tabName .u64 Lib.pow10Tab := by
  obtain ⟨⟨t, fr, hc⟩, _⟩ := h _ (List.mem_singleton.2 rfl)
  simp only at hc
  unfold Lib.TabIs World.var?
  rw [hg]
  simp only [Option.bind_some, hc]
  rfl
theorem globTab : Go.Proofs.Tryz.prog.globalNamed tabName = some 1 := by kernel_rfl
def I64' (n : Int) : Prop := -9223372036854775808 ≤ n ∧ n ≤ 9223372036854775807
theorem itoaN_call (n : Int) (h : I64' n) : PCall Go.Proofs.Tryz.prog 67 [.lit (ji n)] (.val (.lit (tx (Lib.itoa n)))) := by
  intro w St Vs hth hargs
  match Vs, hargs with
  | [V], ⟨hV, _⟩ =>
    obtain ⟨rfl, _⟩ := hV.lit
    refine Calls.mono (Go.Proofs.Any.strconv_Itoa itoaLay n h.1 h.2 w (tabIs_of globTab hth.tab)) ?_
    rintro e w' ⟨rfl, k, os, rfl⟩
    have hfr : Fr [] w (Sort.grow (w.drewN k) os) := ⟨rfl, rfl, rfl, by simp [Sort.grow, World.drewN], fun b hb _ => Sort.heap_grow_old (w.drewN k) os hb, fun b o hb _ => Sort.cell?_grow (w.drewN k) os ⟨b, o, none⟩ hb, fun b o hb => Sort.frozen?_grow (w.drewN k) os ⟨b, o, none⟩ hb⟩
    have hlt : ∀ b o, St b o → b < w.heap.size := fun b o hb => by
      have := hth.there b o hb
      rcases Nat.lt_or_ge b w.heap.size with h | h
      · exact h
      · simp [World.cell?, h] at this
    refine ⟨_, St, rfl, hfr, ⟨fun _ _ h => h, fun _ _ h _ => h, fun b o hb => ?_, fun b o hb => hfr.cell b o (hlt b o hb) (by simp [inReg])⟩, Rel.mkLit rfl, by simp⟩
    rw [hfr.cell b o (hlt b o hb) (by simp [inReg])]
    exact hth.there b o hb
end Go.Cab
namespace Go.Cab
structure WaitV where
  of_ : List UInt8
  who : Int
  key : List UInt8
def waitA (w : WaitV) : AV := .st [32, 1, 32] [keyA w.of_, .lit (ji w.who), keyA w.key]
end Go.Cab
namespace Go.Cab
open Go.RowKit
open Classical
def fb734 : AC := (.seq (.reg [⟨some 2, none, .box 529 (.tmp 0), [], none⟩, ⟨some 3, none, .box 529 (.tmp 1), [], none⟩, ⟨some 4, none, .mov (.const (.bool false)), [], none⟩]) (.seq (.seq (.reg [⟨some 6, none, .faddr 528 1 (.tmp 2), [], none⟩, ⟨some 7, none, .load false 1 (.tmp 6), [], none⟩, ⟨some 8, none, .len false (.tmp 7), [], none⟩, ⟨some 9, none, .faddr 528 1 (.tmp 3), [], none⟩, ⟨some 10, none, .load false 1 (.tmp 9), [], none⟩, ⟨some 11, none, .len false (.tmp 10), [], none⟩, ⟨some 12, none, .bin .neq (.tmp 8) (.tmp 11), [], none⟩, ⟨some 13, none, .mov (.tmp 12), [], none⟩, ⟨some 14, some (13, false), .faddr 0 0 (.tmp 2), [], none⟩, ⟨some 15, some (13, false), .load true 528 (.tmp 14), [], none⟩, ⟨some 16, some (13, false), .faddr 0 0 (.tmp 3), [], none⟩, ⟨some 17, some (13, false), .load true 528 (.tmp 16), [], none⟩, ⟨some 18, some (13, false), .eqv 26 true (.tmp 15) (.tmp 17), [], none⟩, ⟨some 19, none, .pick (.tmp 13) (.const (.bool true)) (.tmp 18), [], none⟩]) (.cond (.tmp 19) (.seq (.reg [⟨some 4, none, .mov (.const (.bool false)), [], none⟩]) .ret) .skip)) (.seq (.seq (.reg [⟨some 5, none, .mov (.const (jn 0)), [], none⟩]) (.block 0 (.loop (.seq (.seq (.reg [⟨some 20, none, .mov (.tmp 5), [], none⟩, ⟨some 21, none, .faddr 528 1 (.tmp 2), [], none⟩, ⟨some 22, none, .load false 1 (.tmp 21), [], none⟩, ⟨some 23, none, .len false (.tmp 22), [], none⟩, ⟨some 24, none, .bin .lss (.tmp 20) (.tmp 23), [], none⟩]) (.cond (.tmp 24) .skip (.exit 0))) (.seq (.block 1 (.seq (.reg [⟨some 27, none, .faddr 528 1 (.tmp 2), [], none⟩, ⟨some 28, none, .load false 1 (.tmp 27), [], none⟩, ⟨some 29, none, .mov (.tmp 5), [], none⟩, ⟨some 30, none, .iaddrS 65 (.tmp 28) (.tmp 29), [], none⟩, ⟨some 31, none, .load true 65 (.tmp 30), [], none⟩, ⟨some 32, none, .faddr 528 1 (.tmp 3), [], none⟩, ⟨some 33, none, .load false 1 (.tmp 32), [], none⟩, ⟨some 34, none, .mov (.tmp 5), [], none⟩, ⟨some 35, none, .iaddrS 65 (.tmp 33) (.tmp 34), [], none⟩, ⟨some 36, none, .load true 65 (.tmp 35), [], none⟩, ⟨some 37, none, .eqv 89 true (.tmp 31) (.tmp 36), [], none⟩]) (.cond (.tmp 37) (.seq (.reg [⟨some 4, none, .mov (.const (.bool false)), [], none⟩]) .ret) .skip))) (.reg [⟨some 25, none, .mov (.tmp 5), [], none⟩, ⟨some 26, none, .bin .add (.tmp 25) (.const (jn 1)), [], none⟩, ⟨some 5, none, .mov (.tmp 26), [], none⟩])))))) (.seq (.reg [⟨some 4, none, .mov (.const (.bool true)), [], none⟩]) .ret))))
def fc734 : FC := ⟨2, 38, [(.tmp 4)], fb734⟩
theorem fc734_eq : compF Go.Proofs.Tryz.prog 12 = some fc734 := by kernel_rfl
attribute [local irreducible] AReg
theorem KLit.int {P : Program} {d : Nat} {t : TypeId} {n : Int} (hu : P.underlying t = some (.int .i64)) (hc : P.cellsOf t = 1) (hn : I64' n) : KLit P (d + 1) t (.lit (ji n)) [.int .i64 n] := by
  refine ⟨rfl, by simp [AV.sz, hc], fun Imm w cs hr => ?_⟩
  cases hr
  unfold Program.keyLits
  simp only [hu, ji]
  have hw : (Lit.int .i64 n).wf = true := by
    unfold I64' at hn
    simp [Lit.wf, IntKind.min, IntKind.max, IntKind.signed, IntKind.bits]
    omega
  rw [if_pos ⟨trivial, hw⟩]
theorem three_fields {P : Program} {o : Option TypeDesc} {tk : TypeId} (h : (match o with | some (.struct fs) => (match fs.toList with | [a, b, c] => a.type == tk && b.type == 3 && c.type == tk && a.offset == 0 && b.offset == 32 && c.offset == 33 && fs.all (·.name != "_") | _ => false) | _ => false) = true) :
    ∃ (fs : Array Field) (a b c : Field), o = some (.struct fs) ∧ fs.toList = [a, b, c] ∧ fs.all (·.name != "_") = true ∧ a.type = tk ∧ b.type = 3 ∧ c.type = tk ∧ a.offset = 0 ∧ b.offset = 32 ∧ c.offset = 33 := by
  split at h
  · rename_i fs
    split at h
    · rename_i a b c e
      simp only [Bool.and_eq_true, beq_iff_eq] at h
      exact ⟨fs, a, b, c, rfl, e, h.2, h.1.1.1.1.1.1, h.1.1.1.1.1.2, h.1.1.1.1.2, h.1.1.1.2, h.1.1.2, h.1.2⟩
    · cases h
  · cases h
theorem KLit.wait {d : Nat} {x : WaitV} (h1 : x.of_.length = 32) (h2 : x.key.length = 32) (h3 : I64' x.who) : ∃ l, KLit Go.Proofs.Tryz.prog (d + 3) 89 (waitA x) l := by
  obtain ⟨fs, f1, f2, f3, hu, hl, hall, t1, t2, t3, o1, o2, o3⟩ := three_fields (P := Go.Proofs.Tryz.prog) (o := Go.Proofs.Tryz.prog.underlying 89) (tk := 23) (by kernel_rfl)
  have hcr : Go.Proofs.Tryz.prog.cellsOf 89 = 65 := by kernel_rfl
  have hck : Go.Proofs.Tryz.prog.cellsOf 23 = 32 := by kernel_rfl
  have hci : Go.Proofs.Tryz.prog.cellsOf 3 = 1 := by kernel_rfl
  have hui : Go.Proofs.Tryz.prog.underlying 3 = some (.int .i64) := by kernel_rfl
  refine ⟨litK x.of_ ++ ([.int .i64 x.who] ++ litK x.key), rfl, by rw [hcr]; simp [waitA, AV.sz], fun Imm w cs hr => ?_⟩
  unfold waitA at hr
  have hlen := hr.len rfl
  have r1 := hr.fieldD 0 32 0 _ rfl rfl (by simp)
  have r2 := hr.fieldD 1 1 32 _ rfl rfl (by simp)
  have r3 := hr.fieldD 2 32 33 _ rfl rfl (by simp)
  have k1 := (KLit.key (d := d) h1).2.2 Imm w _ r1
  have k2 := (KLit.int (d := d + 1) hui hci h3).2.2 Imm w _ r2
  have k3 := (KLit.key (d := d) h2).2.2 Imm w _ r3
  unfold Program.keyLits
  simp only [hu]
  rw [if_pos ⟨by rw [hlen, hcr]; simp [AV.sz], hall⟩, hl]
  simp only [List.mapM_cons, List.mapM_nil, t1, t2, t3, o1, o2, o3, hci, hck, k1, k2, k3]
  simp [litK]
theorem eq_wait {x : WaitV} (h1 : x.of_.length = 32) (h2 : x.key.length = 32) (h3 : I64' x.who) : EqAV Go.Proofs.Tryz.prog 89 (waitA x) (waitA x) true := by
  obtain ⟨l, hl⟩ := KLit.wait (d := 0) h1 h2 h3
  refine hl.eq fun cs hcs => ?_
  obtain ⟨fs, _, _, _, hu, _⟩ := three_fields (P := Go.Proofs.Tryz.prog) (o := Go.Proofs.Tryz.prog.underlying 89) (tk := 23) (by kernel_rfl)
  have hcr : Go.Proofs.Tryz.prog.cellsOf 89 = 65 := by kernel_rfl
  simp only [waitA, AV.sz] at hcs
  simp only [waitA, asVal, Value.formed, hu]
  simp [hcr, hcs]
set_option maxHeartbeats 8000000 in
theorem sameK_call {A : List AV} {ws : List WaitV} (hA : A.length = 8) (hr : ∀ v ∈ A, RatOk v) (hw : ∀ x ∈ ws, x.of_.length = 32 ∧ x.key.length = 32 ∧ I64' x.who) (hn : ws.length < 9223372036854775807) :
    PCall Go.Proofs.Tryz.prog 12 [ksA A (ws.map waitA), ksA A (ws.map waitA)] (.val (.lit (.bool true))) := by
  have h734 := fc734_eq
  have eA := eq_rats hA hr
  have hl : (ws.map waitA).length = ws.length := List.length_map _
  have gW : ∀ i x, ws[i]? = some x → (ws.map waitA)[i]? = some (waitA x) := fun i x h => by rw [List.getElem?_map, h]; rfl
  generalize ws.map waitA = T at *
  unfold ksA
  refine PCall.of h734 rfl ?_; show AC.wp _ fb734 (AS.init [.st [528, 1] [.arr 66 A, .sl 65 T], .st [528, 1] [.arr 66 A, .sl 65 T]] 2 38) (fun x s => match x with | .exit _ => False | _ => Fin [(.tmp 4)] s _); unfold fb734 AS.init
  refine wp_sg (areg_bx rfl rfl fun l2 => areg_bx rfl rfl fun l3 => areg_end (by simp [push_cast]; exact rfl) ?_)
  refine wp_seq' (wp_seq' (wp_rg ?_))
  (repeat (first | (with_reducible apply areg_ng); focus (simp [AS.ev, AS.put, hA, hl]; done) | (with_reducible apply areg_op); focus (simp [push_cast, hA, hl]; exact rfl)))
  refine areg_g (by simp [AS.ev, AS.put]) (areg_eq (by simp [AS.ev, AS.put] <;> exact rfl) (by simp [AS.ev, AS.put] <;> exact rfl) eA rfl rfl ?_)
  (repeat (first | (with_reducible apply areg_ng); focus (simp [AS.ev, AS.put]; done) | (with_reducible apply areg_op); focus (simp [push_cast]; exact rfl)))
  refine areg_nil (wp_cond_f (by simp [AS.ev, AS.put]) (wp_skip' ?_))
  refine wp_seq' (wp_seq' (wp_r (by simp [push_cast]; exact rfl) (wp_block' (wp_loop_to ws.length (fun i => ⟨0, [.any, .any, .ptr 2 l2 0 [], .ptr 3 l3 0 [], .any, .lit (jn i)] ++ List.replicate 32 .any, [none, none, some (.box l2 529 (.st [528, 1] [.arr 66 A, .sl 65 T])), some (.box l3 529 (.st [528, 1] [.arr 66 A, .sl 65 T]))] ++ List.replicate 34 none⟩) ?_ ?_ ?_))))
  · exact Le.mk rfl (by simp [leT]) (by simp [leH])
  · intro i hi
    obtain ⟨x, hx⟩ : ∃ x, ws[i]? = some x := ⟨_, List.getElem?_eq_getElem hi⟩
    obtain ⟨w1, w2, w3⟩ := hw x (List.mem_of_getElem? hx)
    have g1 := gW i x hx
    have g2 : ∀ h, T[i]'h = waitA x := fun h => by rw [List.getElem?_eq_getElem h] at g1; exact Option.some.inj g1
    have eW := eq_wait w1 w2 w3
    have q1 : i + 1 < 9223372036854775808 := by omega
    have wA : waitA x = .st [32, 1, 32] [keyA x.of_, .lit (ji x.who), keyA x.key] := rfl
    refine wp_seq' (wp_sr (by simp [push_cast, hl, hi]; exact rfl) (wp_cond_t (by simp [AS.ev]) (wp_skip' ?_)))
    refine wp_seq' (wp_block' (wp_sg ?_))
    refine areg_run 10 (by simp [push_cast, hl, hi, g1, g2, wA, w1, w2]; exact rfl) ?_
    refine areg_eq (u := waitA x) (v := waitA x) (by simp [AS.ev, AS.put, wA, keyA]) (by simp [AS.ev, AS.put, wA, keyA]) eW rfl rfl ?_
    refine areg_end (by simp [push_cast]; exact rfl) ?_
    refine wp_cond_f (by simp [AS.ev, AS.put]) (wp_skip' ?_)
    refine wp_r (by simp [push_cast, q1]; exact rfl) ?_
    exact Le.mk rfl (by simp [leT]) (by simp [leH])
  · refine wp_seq' (wp_sr (by simp [push_cast, hl]; exact rfl) (wp_cond_f (by simp [AS.ev]) (wp_exit' (if_hit rfl ?_))))
    refine wp_sr (by simp [push_cast]; exact rfl) (wp_ret' ?_)
    exact fin_tmp (by simp [RVal, AS.ev, AS.coe]) (by simp)
end Go.Cab
namespace Go.Cab
open Go.RowKit
open Classical
attribute [local irreducible] AReg
set_option maxHeartbeats 16000000 in
theorem copen_bad {H : List (Option Blk)} {o : OpV} (ho : OpOk o) (hbl : ∀ b ∈ o.boxes, b.body.length < 9223372036854775808) {A ws : List AV} (hA : A.length = 8) {b : Nat} {l : Nat × Nat} (hsay : saysV o = false) :
    XCall Go.Proofs.Tryz.prog 17 [freeI b l, ksA A ws, opA o] H fun r H' => r = .tup [ks0A, .lit (tx []), .lit (jn 1)] ∧ H' = H := by
  have h514 := fc514_eq
  refine XCall.le ?_
  have cS := says_call ho hbl
  rw [hsay] at cS
  have o5 := ho.ofk
  have o6 := ho.check
  have hA1 : opA o = opB o.author o.seq o.parents o.kind (o.who.map fun x => AV.lit (ji x)) o.ofk o.check o.text (o.boxes.map fun x => boxA x) := rfl
  rw [hA1] at cS ⊢
  unfold opB at cS ⊢
  generalize (o.who.map fun x => AV.lit (ji x)) = W at *
  generalize (o.boxes.map fun x => boxA x) = B at *
  unfold ksA at *
  refine XCall.of h514 rfl ?_; show AC.wp _ fb514 ⟨H.length, [freeI b l, .st [528, 1] [.arr 66 A, .sl 65 ws], .st [1, 1, 1, 1, 1, 32, 32, 1, 1] [.lit (ji o.author), .lit (wn o.seq), .sl 32 (klA o.parents), .lit (ji o.kind), .sl 1 W, keyA o.ofk, keyA o.check, .lit (tx o.text), .sl 36 B]] ++ List.replicate (61 - 3) .any, H ++ List.replicate 61 none⟩ (fun x s => match x with | .exit _ => False | _ => ∃ s1, Le s s1 ∧ FinX [(.cell 6 .true 529), (.tmp 7), (.tmp 8)] s1 _); unfold fb514
  have g1 : ∀ L k, (H ++ L)[H.length + k]? = L[k]? := fun L k => cat1 _ _ _ _ rfl
  have g2 : ∀ L k x, (H ++ L).set (H.length + k) x = H ++ L.set k x := fun L k x => cat2 _ _ _ _ _ rfl
  generalize hN : H.length = N at *
  refine wp_sg (areg_bx rfl rfl fun l5 => areg_bx rfl (by simp [AS.ev, AV.sz, o5, o6]) fun l6 => areg_al' (z' := ks0) rfl fun l8 => areg_end (by simp [push_cast, g2]; exact rfl) ?_)
  have e1 : ks0.sz = 529 := rfl
  refine wp_seq' (wp_sg ?_)
  refine areg_run 1 (by simp [push_cast, g1, o5, o6]; exact rfl) ?_
  refine areg_ca (by simp [AS.ev, AS.coe, AS.put, keyA] <;> exact rfl) cS ?_
  refine areg_end (by simp [push_cast]; exact rfl) ?_
  refine wp_cond_t (by simp [AS.ev]) (wp_sg ?_)
  refine areg_bd (z' := ks0) rfl ?_
  unfold ks0
  refine areg_end (by simp [push_cast, g1, g2]; exact rfl) (wp_ret' ?_)
  exact ⟨_, Le.refl _, [], _, ⟨_, rfl, by simp [AS.seals, RVals, RVal, AS.ev, AS.peek, AS.blk, g1, Blk.loc, Blk.cont, Blk.n, AV.nav, AV.isAgg, AV.isTup, AS.coe]; rfl, by simp [keyA, ks0]⟩, .tup [ks0A, .lit (tx []), .lit (jn 1)], H, RelLe.tup (AVle.tupSt ks0_le (AVle.refl _)), by simp, HpLe.trim _ _, rfl, rfl⟩
set_option maxRecDepth 20000 in
set_option maxHeartbeats 16000000 in
theorem ropenN_call {H : List (Option Blk)} {b : Nat} {l : Nat × Nat} {o : OpV} (ho : OpOk o) (hbb : ∀ b ∈ o.boxes, b.body.length < 9223372036854775808) (hsay : saysV o = true) {w : Nat} (hau : o.author = (w : Int)) {A ws : List AV} (hA : A.length = 8) {op : Bool} {k c : List UInt8} (hk : k.length = 32) (hc : c.length = 32)
    (hwA : A[w]? = some (.st [1, 1, 32, 32] [.lit (.bool false), .lit (.bool op), keyA k, keyA c])) :
    XCall Go.Proofs.Tryz.prog 18 [kitA b l, ksA A ws, opA o] H fun r H' => r = .tup [ks0A, .lit (tx []), .lit (jn 18)] ∧ H' = H := by
  have h733 := fc733_eq
  refine XCall.le ?_
  have cR := rightR_call ho hbb
  have hsr : rightV o = true ∧ o.kind = 7 := by
    unfold saysV at hsay
    rw [Bool.and_eq_true, decide_eq_true_iff] at hsay
    exact hsay
  rw [hsr.1] at cR
  have hk7 := hsr.2
  have o5 := ho.ofk
  have o6 := ho.check
  have hw8 : w < 8 := by have := (List.getElem?_eq_some_iff.1 hwA).1; omega
  have g4 : ∀ h, A[w]'h = .st [1, 1, 32, 32] [.lit (.bool false), .lit (.bool op), keyA k, keyA c] := fun h => by rw [List.getElem?_eq_getElem h] at hwA; exact Option.some.inj hwA
  have hwAl : w < A.length := by omega
  have hA1 : opA o = opB o.author o.seq o.parents o.kind (o.who.map fun x => AV.lit (ji x)) o.ofk o.check o.text (o.boxes.map fun x => boxA x) := rfl
  have haj : ji o.author = jn w := by rw [hau]; rfl
  rw [hA1] at cR ⊢
  unfold opB at cR ⊢
  rw [haj, hk7] at cR ⊢
  generalize (o.who.map fun x => AV.lit (ji x)) = W at *
  generalize (o.boxes.map fun x => boxA x) = B at *
  unfold ksA
  refine XCall.of h733 rfl ?_; show AC.wp _ fb733 ⟨H.length, [kitA b l, .st [528, 1] [.arr 66 A, .sl 65 ws], .st [1, 1, 1, 1, 1, 32, 32, 1, 1] [.lit (jn w), .lit (wn o.seq), .sl 32 (klA o.parents), .lit (ji 7), .sl 1 W, keyA o.ofk, keyA o.check, .lit (tx o.text), .sl 36 B]] ++ List.replicate (66 - 3) .any, H ++ List.replicate 66 none⟩ (fun x s => match x with | .exit _ => False | _ => ∃ s1, Le s s1 ∧ FinX [(.cell 6 .true 529), (.tmp 7), (.tmp 8)] s1 _); unfold fb733
  have g1 : ∀ L k, (H ++ L)[H.length + k]? = L[k]? := fun L k => cat1 _ _ _ _ rfl
  have g2 : ∀ L k x, (H ++ L).set (H.length + k) x = H ++ L.set k x := fun L k x => cat2 _ _ _ _ _ rfl
  generalize hN : H.length = N at *
  refine wp_sg (areg_bx rfl (by simp [AS.ev, kitA, AV.sz]) fun l4 => areg_bx rfl rfl fun l5 => areg_bx rfl (by simp [AS.ev, AS.put, AV.sz, o5, o6]) fun l6 => areg_al' (z' := ks0) rfl fun l8 => areg_end (by simp [push_cast, g2]; exact rfl) ?_)
  have e1 : ks0.sz = 529 := rfl
  refine wp_seq' (wp_sg ?_)
  refine areg_run 1 (by simp [push_cast, g1, o5, o6]; exact rfl) ?_
  refine areg_ca (by simp [AS.ev, AS.coe, AS.put, keyA] <;> exact rfl) cR ?_
  (repeat (first | (with_reducible apply areg_ng); focus (simp [AS.ev, AS.put, g1]; done) | (with_reducible apply areg_op); focus (simp [push_cast, g1]; exact rfl)))
  refine areg_nil (wp_cond_f (by simp [AS.ev, AS.put]) (wp_skip' ?_))
  refine wp_seq' (wp_sr (by simp [push_cast, g1, hA, hwA, g4, hw8, hwAl]; exact rfl) (wp_cond_t (by simp [AS.ev]) (wp_sg ?_)))
  refine areg_bd (z' := ks0) rfl ?_
  unfold ks0
  refine areg_end (by simp [push_cast, g1, g2]; exact rfl) (wp_ret' ?_)
  exact ⟨_, Le.refl _, [], _, ⟨_, rfl, by simp [AS.seals, RVals, RVal, AS.ev, AS.peek, AS.blk, g1, Blk.loc, Blk.cont, Blk.n, AV.nav, AV.isAgg, AV.isTup, AS.coe]; rfl, by simp [keyA, ks0]⟩, .tup [ks0A, .lit (tx []), .lit (jn 18)], H, RelLe.tup (AVle.tupSt ks0_le (AVle.refl _)), by simp, HpLe.trim _ _, rfl, rfl⟩
end Go.Cab
namespace Go.Cab
open Go.RowKit
open Classical
attribute [local irreducible] AReg
theorem ropenK_gk {H : List (Option Blk)} {t : Rt} {V U : Value} {ts0 ts : List Term} (hh : RtOk H t V U ts0) (hok : ∀ y ∈ ts, TermOk y) (h2 : ∀ x ∈ ts, x.kind = 6 → 2 ≤ x.keys.length) (hn : ts.length < 100000) {k b m : List UInt8} (hk : k.length = 32) (hb : b.length = 32) (hm : m.length < 9223372036854775808) :
    GC Go.Proofs.Tryz.prog 42 [kitA t.b t.l, keyA k, keyA b, .lit (tx m)] (rF H t) ts (openA (openX ts k b m)) ts := GC.ofR hh fun H V U h => ropenK_call h hok h2 hn hk hb hm
set_option maxRecDepth 20000 in
set_option maxHeartbeats 16000000 in
theorem ropenC_call {H : List (Option Blk)} {t : Rt} {V U : Value} {ts : List Term} (hh : RtOk H t V U ts) (hok : ∀ y ∈ ts, TermOk y) (hn : ts.length + 10 < 90000) {o : OpV} (ho : OpOk o) (hbb : ∀ b ∈ o.boxes, b.body.length < 9223372036854775808) (hwo : o.who.length < 1000) (hp : o.parents.length < 1000)
    (hsay : saysV o = true) {w : Nat} (hau : o.author = (w : Int)) {A ws : List AV} (hA : A.length = 8) {op : Bool} {k c : List UInt8} (hk : k.length = 32) (hc : c.length = 32)
    (hwA : A[w]? = some (.st [1, 1, 32, 32] [.lit (.bool true), .lit (.bool op), keyA k, keyA c])) (hts : TsOk (byV Go.Lib.itoa (nextV ts c).2 o).2) :
    XCall Go.Proofs.Tryz.prog 18 [kitA t.b t.l, ksA A ws, opA o] H fun r H' => r = readA (A.set w (.st [1, 1, 32, 32] [.lit (.bool true), .lit (.bool op), keyA k, keyA (nextV ts c).1.2])) ws (readV Go.Lib.itoa ts o c) ∧ ∃ V' U', H' = rtOf H t V' U' (byV Go.Lib.itoa (nextV ts c).2 o).2 := by
  have h733 := fc733_eq
  refine XCall.le ?_
  have hself := hh.self
  have cR := rightR_call ho hbb
  have hsr : rightV o = true ∧ o.kind = 7 := by
    unfold saysV at hsay
    rw [Bool.and_eq_true, decide_eq_true_iff] at hsay
    exact hsay
  rw [hsr.1] at cR
  have hk7 := hsr.2
  have l1 := nextV_len ts c
  have hok2 := nextV_okR hok hc
  have cN := given_gk (ws := ws) hh hok (by omega) hA hk hc hwA
  have cB := byR_gk hh hok2 (by omega) ho hbb hwo hp
  have n1 : (nextV ts c).1.1.length = 32 := nameK_len _
  have n2 : (nextV ts c).1.2.length = 32 := nameK_len _
  have n3 : (byV Go.Lib.itoa (nextV ts c).2 o).1.length = 32 := byV_32 _ _ _
  have cK := ropenK_gk hh hts.ok (fun x hx h6 => hts.two x hx (.inr h6)) (by have := hts.len; omega) n1 n3 (m := o.text) ho.text
  have hxt : ∀ x, openX (byV Go.Lib.itoa (nextV ts c).2 o).2 (nextV ts c).1.1 (byV Go.Lib.itoa (nextV ts c).2 o).1 o.text = some x → x.text.length < 100000 ∧ x.keys.length < 100000 := fun x hx => by
    unfold openX at hx
    split at hx
    · cases hx
    split at hx
    · cases hx
    split at hx
    · rename_i y hy
      split at hx
      · cases hx
        have := hts.ok _ (List.mem_of_getElem? hy)
        exact ⟨this.text, this.keys⟩
      · cases hx
    · cases hx
  unfold readV
  generalize openX (byV Go.Lib.itoa (nextV ts c).2 o).2 (nextV ts c).1.1 (byV Go.Lib.itoa (nextV ts c).2 o).1 o.text = X at *
  have o5 := ho.ofk
  have o6 := ho.check
  have hw8 : w < 8 := by have := (List.getElem?_eq_some_iff.1 hwA).1; omega
  have g4 : ∀ h, A[w]'h = .st [1, 1, 32, 32] [.lit (.bool true), .lit (.bool op), keyA k, keyA c] := fun h => by rw [List.getElem?_eq_getElem h] at hwA; exact Option.some.inj hwA
  have hwAl : w < A.length := by omega
  generalize byV Go.Lib.itoa (nextV ts c).2 o = bv at *
  generalize nextV ts c = nv at *
  obtain ⟨⟨k1, k2⟩, ts2⟩ := nv
  obtain ⟨bk, ts3⟩ := bv
  simp only at *
  have hA1 : opA o = opB o.author o.seq o.parents o.kind (o.who.map fun x => AV.lit (ji x)) o.ofk o.check o.text (o.boxes.map fun x => boxA x) := rfl
  have haj : ji o.author = jn w := by rw [hau]; rfl
  rw [hA1] at cR cB ⊢
  unfold opB at cR cB ⊢
  rw [haj, hk7] at cR cB ⊢
  generalize (o.who.map fun x => AV.lit (ji x)) = W at *
  generalize (o.boxes.map fun x => boxA x) = B at *
  have G1 : ∀ i y, (rF H t i y).length = H.length := fun i y => rtOf_len _ _ _ _ _
  have hAs : (A.set w (.st [1, 1, 32, 32] [.lit (.bool true), .lit (.bool op), keyA k, keyA k2])).length = 8 := by rw [List.length_set]; exact hA
  unfold ksA at cN ⊢
  generalize (A.set w (.st [1, 1, 32, 32] [.lit (.bool true), .lit (.bool op), keyA k, keyA k2])) = A2 at *
  refine XCall.of h733 rfl ?_; show AC.wp _ fb733 ⟨H.length, [kitA t.b t.l, .st [528, 1] [.arr 66 A, .sl 65 ws], .st [1, 1, 1, 1, 1, 32, 32, 1, 1] [.lit (jn w), .lit (wn o.seq), .sl 32 (klA o.parents), .lit (ji 7), .sl 1 W, keyA o.ofk, keyA o.check, .lit (tx o.text), .sl 36 B]] ++ List.replicate (66 - 3) .any, H ++ List.replicate 66 none⟩ (fun x s => match x with | .exit _ => False | _ => ∃ s1, Le s s1 ∧ FinX [(.cell 6 .true 529), (.tmp 7), (.tmp 8)] s1 _); unfold fb733
  have hst : ∀ L, H ++ L = rF H t ts (V, U) ++ L := fun L => by unfold rF; rw [hself]
  rw [hst]
  generalize hN : H.length = N at *
  have g1 : ∀ i y L k, (rF H t i y ++ L)[N + k]? = L[k]? := fun i y L k => cat1 N _ L k (G1 i y)
  have g2 : ∀ i y L k z, (rF H t i y ++ L).set (N + k) z = rF H t i y ++ L.set k z := fun i y L k z => cat2 N _ L k z (G1 i y)
  refine wp_sg (areg_bx rfl (by simp [AS.ev, kitA, AV.sz]) fun l3 => areg_bx rfl rfl fun l4 => areg_bx rfl (by simp [AS.ev, AS.put, AV.sz, o5, o6]) fun l5 => areg_al' (z' := ks0) rfl fun l6 => areg_end (by simp [push_cast, g2]; exact rfl) ?_)
  refine wp_seq' (wp_sg ?_)
  refine areg_run 1 (by simp [push_cast, g1, o5, o6]; exact rfl) ?_
  refine areg_ca (by simp [AS.ev, AS.coe, AS.put, keyA] <;> exact rfl) cR ?_
  (repeat (first | (with_reducible apply areg_ng); focus (simp [AS.ev, AS.put, g1]; done) | (with_reducible apply areg_op); focus (simp [push_cast, g1]; exact rfl)))
  refine areg_nil (wp_cond_f (by simp [AS.ev, AS.put]) (wp_skip' ?_))
  refine wp_seq' (wp_sr (by simp [push_cast, g1, hA, hwA, g4, hw8, hwAl]; exact rfl) (wp_cond_f (by simp [AS.ev]) (wp_skip' ?_)))
  refine wp_sg ?_
  refine areg_run 4 (by simp [push_cast, g1, hA, kitA, o5, o6]; exact rfl) ?_
  refine areg_gk [kitA t.b t.l, .st [528, 1] [.arr 66 A, .sl 65 ws], .lit (jn w)] G1 (by simp [AS.ev, AS.put, kitA]) (tgt_dir (by kernel_rfl) _) cN (by simp) (by simp) fun y => ?_
  refine areg_run 3 (by simp [push_cast]; exact rfl) ?_
  refine areg_al' (z' := ks0) rfl fun l9 => areg_al' zk_eq.symm fun l10 => areg_end (by simp [push_cast, g1, g2, n1, zk_len, hA, hAs]; exact rfl) ?_
  refine wp_sg ?_
  refine areg_run 4 (by simp [push_cast, g1, kitA, hAs, n1, o5, o6]; exact rfl) ?_
  refine areg_gk [kitA t.b t.l, .st [1, 1, 1, 1, 1, 32, 32, 1, 1] [.lit (jn w), .lit (wn o.seq), .sl 32 (klA o.parents), .lit (ji 7), .sl 1 W, keyA o.ofk, keyA o.check, .lit (tx o.text), .sl 36 B]] G1 (by simp [AS.ev, AS.put, kitA, keyA]) (tgt_dir (by kernel_rfl) _) cB (by simp) (by simp [AS.ev, AV.place]) fun y2 => ?_
  refine areg_run 2 (by simp [push_cast, g1, o5, o6]; exact rfl) ?_
  refine areg_gk [kitA t.b t.l, keyA k1, keyA bk, .lit (tx o.text)] G1 (by simp [AS.ev, AS.put, kitA, keyA]) (tgt_dir (by kernel_rfl) _) cK (by simp) (by simp [AS.ev, AV.place]) fun y3 => ?_
  have e1 : ks0.sz = 529 := rfl
  have finN : ∀ (s : AS) (R : List (Option Blk)), RVals s [.cell 6 true 529, .tmp 7, .tmp 8] = some [ks0, .lit (tx []), .lit (jn 2)] → s.hp = rF H t ts3 y3 ++ R → ∃ s1, Le s s1 ∧ FinX [RV.cell 6 true 529, RV.tmp 7, RV.tmp 8] s1 fun r H' => ∃ r' A_1, RelLe r r' ∧ r' ≠ .any ∧ HpLe H' A_1 ∧ r' = readA A2 ws none ∧ ∃ V' U', A_1 = rtOf H t V' U' ts3 := fun s R h2 h3 =>
    ⟨s, Le.refl _, [], _, ⟨_, rfl, h2, by simp [ks0]⟩, readA A2 ws none, rF H t ts3 y3, read_no _ _, by simp [readA], by rw [show (s.seals []).hp = s.hp from rfl, h3]; exact HpLe.trim _ _, rfl, y3.1, y3.2, rfl⟩
  cases X with
  | none =>
    simp only [openA]
    refine areg_end (by simp [push_cast]; exact rfl) ?_
    refine wp_seq' (wp_sg ?_)
    (repeat (first | (with_reducible apply areg_ng); focus (simp [AS.ev, AS.put]; done) | (with_reducible apply areg_op); focus (simp [push_cast]; exact rfl)))
    refine areg_nil (wp_cond_t (by simp [AS.ev, AS.put]) (wp_sg ?_))
    refine areg_bd (z' := ks0) rfl ?_
    unfold ks0
    refine areg_end (by simp [push_cast, g1, g2]; exact rfl) (wp_ret' ?_)
    exact finN _ _ (by simp [RVals, RVal, AS.ev, AS.peek, AS.blk, g1, Blk.loc, Blk.cont, Blk.n, AV.nav, AV.isAgg, AV.isTup, AS.coe, ks0]; rfl) rfl
  | some x =>
    obtain ⟨hx1, hx2⟩ := hxt x rfl
    simp only [openA]
    obtain ⟨xk, xt, xs⟩ := x
    simp only at hx1 hx2 ⊢
    have hkl : (klA (xs.drop 2)).length = (xs.drop 2).length := klA_len _
    generalize xs.drop 2 = rr at *
    have hr0 : rr = [] ↔ rr.length = 0 := List.length_eq_zero_iff.symm
    generalize rr.length = rn at *
    generalize klA rr = RR at *
    refine areg_end (by simp [push_cast]; exact rfl) ?_
    refine wp_seq' (wp_sg ?_)
    by_cases hz : 0 < rn
    · have hn0 : ¬ (rr = [] ∧ xt.length ≤ 64) := fun h => by have := hr0.1 h.1; omega
      rw [if_neg hn0]
      (repeat (first | (with_reducible apply areg_ng); focus (simp [AS.ev, AS.put, hkl, hz]; done) | (with_reducible apply areg_op); focus (simp [push_cast, hkl, hz]; exact rfl)))
      refine areg_nil (wp_cond_t (by simp [AS.ev, AS.put]) (wp_sg ?_))
      refine areg_bd (z' := ks0) rfl ?_
      unfold ks0
      refine areg_end (by simp [push_cast, g1, g2]; exact rfl) (wp_ret' ?_)
      exact finN _ _ (by simp [RVals, RVal, AS.ev, AS.peek, AS.blk, g1, Blk.loc, Blk.cont, Blk.n, AV.nav, AV.isAgg, AV.isTup, AS.coe, ks0]; rfl) rfl
    · obtain ⟨xn, hxn⟩ : ∃ n, xt.length = n := ⟨_, rfl⟩
      by_cases h64 : 64 < xn
      · have hn0 : ¬ (rr = [] ∧ xt.length ≤ 64) := fun h => by have := h.2; omega
        rw [if_neg hn0]
        (repeat (first | (with_reducible apply areg_ng); focus (simp [AS.ev, AS.put, hkl, hz, hxn, h64]; done) | (with_reducible apply areg_op); focus (simp [push_cast, hkl, hz, hxn, h64]; exact rfl)))
        refine areg_nil (wp_cond_t (by simp [AS.ev, AS.put]) (wp_sg ?_))
        refine areg_bd (z' := ks0) rfl ?_
        unfold ks0
        refine areg_end (by simp [push_cast, g1, g2]; exact rfl) (wp_ret' ?_)
        exact finN _ _ (by simp [RVals, RVal, AS.ev, AS.peek, AS.blk, g1, Blk.loc, Blk.cont, Blk.n, AV.nav, AV.isAgg, AV.isTup, AS.coe, ks0]; rfl) rfl
      · rw [if_pos ⟨hr0.2 (by omega), by omega⟩]
        (repeat (first | (with_reducible apply areg_ng); focus (simp [AS.ev, AS.put, hkl, hz, hxn, h64]; done) | (with_reducible apply areg_op); focus (simp [push_cast, hkl, hz, hxn, h64]; exact rfl)))
        refine areg_nil (wp_cond_f (by simp [AS.ev, AS.put]) (wp_skip' ?_))
        unfold ks0
        refine wp_sr (by simp [push_cast, g1, g2, hAs]; exact rfl) (wp_ret' ?_)
        exact ⟨_, Le.refl _, [], _, ⟨_, rfl, by simp [AS.seals, RVals, RVal, AS.ev, AS.peek, AS.blk, g1, Blk.loc, Blk.cont, Blk.n, AV.nav, AV.isAgg, AV.isTup, AS.coe]; rfl, by simp [keyA]⟩, .tup [.st [528, 1] [.arr 66 A2, .sl 65 ws], .lit (tx xt), .lit (jn 0)], _, RelLe.refl _, by simp, HpLe.trim _ _, rfl, y3.1, y3.2, rfl⟩
end Go.Cab
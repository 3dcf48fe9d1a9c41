/- Part 13 of what the proof stands on: V4, H9, H10, H11, H12, H13, H14. -/
import Derived.Test.YtbioecfkifbkbaaGreatDoorCab11
import Derived.Test.YtbioecfkifbkbaaGreatDoorCab12
import Derived.Test.YtbioecfkifbkbaaGreatDoorCab10
import Derived.Test.YtbioecfkifbkbaaGreatDoorCab07
set_option linter.unusedSimpArgs false
set_option linter.unnecessarySimpa false
set_option linter.unusedVariables false
set_option linter.unusedSectionVars false
namespace Go.Cab
open Go.RowKit
open Classical
def fb703 : AC := (.seq (.reg [⟨some 3, none, .box 32 (.tmp 1), [], none⟩, ⟨some 4, none, .mov (.const (jn 0)), [], none⟩]) (.seq (.reg [⟨some 6, none, .iaddrA 32 1 (.tmp 3) (.const (jn 4)), [], none⟩, ⟨some 7, none, .load false 1 (.tmp 6), [], none⟩, ⟨some 8, none, .cvt .i64 (.tmp 7), [], none⟩, ⟨some 9, none, .bin .mul (.tmp 8) (.const (jn 16777216)), [], none⟩, ⟨some 10, none, .iaddrA 32 1 (.tmp 3) (.const (jn 5)), [], none⟩, ⟨some 11, none, .load false 1 (.tmp 10), [], none⟩, ⟨some 12, none, .cvt .i64 (.tmp 11), [], none⟩, ⟨some 13, none, .bin .mul (.tmp 12) (.const (jn 65536)), [], none⟩, ⟨some 14, none, .bin .add (.tmp 9) (.tmp 13), [], none⟩, ⟨some 15, none, .iaddrA 32 1 (.tmp 3) (.const (jn 6)), [], none⟩, ⟨some 16, none, .load false 1 (.tmp 15), [], none⟩, ⟨some 17, none, .cvt .i64 (.tmp 16), [], none⟩, ⟨some 18, none, .bin .mul (.tmp 17) (.const (jn 256)), [], none⟩, ⟨some 19, none, .bin .add (.tmp 14) (.tmp 18), [], none⟩, ⟨some 20, none, .iaddrA 32 1 (.tmp 3) (.const (jn 7)), [], none⟩, ⟨some 21, none, .load false 1 (.tmp 20), [], none⟩, ⟨some 22, none, .cvt .i64 (.tmp 21), [], none⟩, ⟨some 23, none, .bin .add (.tmp 19) (.tmp 22), [], none⟩, ⟨some 5, none, .mov (.tmp 23), [], none⟩]) (.seq (.seq (.reg [⟨some 24, none, .mov (.tmp 5), [], none⟩, ⟨some 25, none, .mov (.tmp 0), [], none⟩, ⟨some 26, none, .nilc (.tmp 25), [], none⟩, ⟨some 27, none, .faddr 0 0 (.tmp 26), [], none⟩, ⟨some 28, none, .load false 1 (.tmp 27), [], none⟩, ⟨some 29, none, .len false (.tmp 28), [], none⟩, ⟨some 30, none, .bin .lss (.tmp 24) (.tmp 29), [], none⟩, ⟨some 31, none, .mov (.tmp 30), [], none⟩, ⟨some 32, some (31, true), .load true 32 (.tmp 3), [], none⟩, ⟨some 33, some (31, true), .mov (.tmp 5), [], none⟩, ⟨some 34, some (31, true), .callv 31 [.tmp 33], [], none⟩, ⟨some 35, some (31, true), .eqv 23 false (.tmp 32) (.tmp 34), [], none⟩, ⟨some 36, none, .pick (.tmp 31) (.tmp 35) (.const (.bool false)), [], none⟩]) (.cond (.tmp 36) (.seq (.reg [⟨some 37, none, .mov (.tmp 5), [], none⟩, ⟨some 4, none, .mov (.tmp 37), [], none⟩]) .ret) .skip)) (.seq (.reg [⟨some 4, none, .mov (.const (.int .i64 (-1))), [], none⟩]) .ret))))
def fc703 : FC := ⟨2, 38, [(.tmp 4)], fb703⟩
theorem fc703_eq : compF Go.Proofs.Tryz.prog 94 = some fc703 := by kernel_rfl
def fb707 : AC := (.seq (.reg [⟨some 3, none, .box 32 (.tmp 1), [], none⟩, ⟨some 4, none, .alloc 3 (.st [1, 1, 1] [(.lit (jn 0)), (.lit (tx [])), (.lit (.slice .none 0 0))]), [], none⟩]) (.seq (.reg [⟨some 6, none, .mov (.tmp 0), [], none⟩, ⟨some 7, none, .load true 32 (.tmp 3), [], none⟩, ⟨some 8, none, .icall 94 (.tmp 6) [.tmp 7], [], none⟩, ⟨some 5, none, .mov (.tmp 8), [], none⟩]) (.seq (.seq (.reg [⟨some 9, none, .mov (.tmp 5), [], none⟩, ⟨some 10, none, .bin .lss (.tmp 9) (.const (jn 0)), [], none⟩]) (.cond (.tmp 10) (.seq (.reg [⟨some 11, none, .load true 32 (.tmp 3), [], none⟩, ⟨some 12, none, .bslice 32 (.arr 1 (List.replicate 32 (.lit (bn 0)))) 1 [(0, (.tmp 11))], [], none⟩, ⟨some 13, none, .build (.st [1, 1, 1] [(.lit (jn 0)), (.lit (tx [])), (.lit (.slice .none 0 0))]) [(2, (.tmp 12))], [], none⟩, ⟨none, none, .store 3 (.tmp 4) (.tmp 13), [], none⟩]) .ret) .skip)) (.seq (.reg [⟨some 14, none, .mov (.tmp 0), [], none⟩, ⟨some 15, none, .nilc (.tmp 14), [], none⟩, ⟨some 16, none, .faddr 0 0 (.tmp 15), [], none⟩, ⟨some 17, none, .load false 1 (.tmp 16), [], none⟩, ⟨some 18, none, .mov (.tmp 5), [], none⟩, ⟨some 19, none, .iaddrS 3 (.tmp 17) (.tmp 18), [], none⟩, ⟨some 20, none, .load true 3 (.tmp 19), [], none⟩, ⟨none, none, .store 3 (.tmp 4) (.tmp 20), [], none⟩]) .ret))))
def fc707 : FC := ⟨2, 21, [(.cell 4 .true 3)], fb707⟩
theorem fc707_eq : compF Go.Proofs.Tryz.prog 77 = some fc707 := by kernel_rfl
def fb709 : AC := (.seq (.reg [⟨some 5, none, .box 32 (.tmp 1), [], none⟩, ⟨some 6, none, .box 32 (.tmp 2), [], none⟩, ⟨some 8, none, .mov (.const (tx [])), [], none⟩, ⟨some 9, none, .mov (.const (.slice .none 0 0)), [], none⟩, ⟨some 10, none, .mov (.const (.bool false)), [], none⟩]) (.seq (.seq (.reg [⟨some 14, none, .mov (.tmp 3), [], none⟩, ⟨some 15, none, .len true (.tmp 14), [], none⟩, ⟨some 16, none, .bin .neq (.tmp 15) (.const (jn 32)), [], none⟩]) (.cond (.tmp 16) (.seq (.reg [⟨some 8, none, .mov (.const (tx [])), [], none⟩, ⟨some 9, none, .mov (.const (.slice .none 0 0)), [], none⟩, ⟨some 10, none, .mov (.const (.bool false)), [], none⟩]) .ret) .skip)) (.seq (.reg [⟨some 11, none, .alloc 32 (.arr 1 (List.replicate 32 (.lit (bn 0)))), [], none⟩]) (.seq (.seq (.reg [⟨some 12, none, .mov (.const (jn 0)), [], none⟩]) (.block 0 (.loop (.seq (.seq (.reg [⟨some 17, none, .mov (.tmp 12), [], none⟩, ⟨some 18, none, .bin .lss (.tmp 17) (.const (jn 32)), [], none⟩]) (.cond (.tmp 18) .skip (.exit 0))) (.seq (.block 1 (.reg [⟨some 21, none, .mov (.tmp 12), [], none⟩, ⟨some 22, none, .mov (.tmp 3), [], none⟩, ⟨some 23, none, .mov (.tmp 12), [], none⟩, ⟨some 24, none, .prim .sidx [.tmp 22, .tmp 23], [], none⟩, ⟨some 25, none, .iaddrA 32 1 (.tmp 11) (.tmp 21), [], none⟩, ⟨none, none, .store 1 (.tmp 25) (.tmp 24), [], none⟩])) (.reg [⟨some 19, none, .mov (.tmp 12), [], none⟩, ⟨some 20, none, .bin .add (.tmp 19) (.const (jn 1)), [], none⟩, ⟨some 12, none, .mov (.tmp 20), [], none⟩])))))) (.seq (.reg [⟨some 26, none, .mov (.tmp 0), [], none⟩, ⟨some 27, none, .load true 32 (.tmp 11), [], none⟩, ⟨some 28, none, .icall 77 (.tmp 26) [.tmp 27], [], none⟩, ⟨some 13, none, .alloc 3 (.st [1, 1, 1] [(.lit (jn 0)), (.lit (tx [])), (.lit (.slice .none 0 0))]), [], none⟩, ⟨none, none, .store 3 (.tmp 13) (.tmp 28), [], none⟩]) (.seq (.seq (.reg [⟨some 29, none, .faddr 0 0 (.tmp 13), [], none⟩, ⟨some 30, none, .load false 1 (.tmp 29), [], none⟩, ⟨some 31, none, .bin .neq (.tmp 30) (.const (jn 6)), [], none⟩, ⟨some 32, none, .mov (.tmp 31), [], none⟩, ⟨some 33, some (32, false), .faddr 2 2 (.tmp 13), [], none⟩, ⟨some 34, some (32, false), .load false 1 (.tmp 33), [], none⟩, ⟨some 35, some (32, false), .iaddrS 32 (.tmp 34) (.const (jn 0)), [], none⟩, ⟨some 36, some (32, false), .load true 32 (.tmp 35), [], none⟩, ⟨some 37, some (32, false), .load true 32 (.tmp 5), [], none⟩, ⟨some 38, some (32, false), .eqv 23 true (.tmp 36) (.tmp 37), [], none⟩, ⟨some 39, none, .pick (.tmp 32) (.const (.bool true)) (.tmp 38), [], none⟩, ⟨some 40, none, .mov (.tmp 39), [], none⟩, ⟨some 41, some (40, false), .faddr 2 2 (.tmp 13), [], none⟩, ⟨some 42, some (40, false), .load false 1 (.tmp 41), [], none⟩, ⟨some 43, some (40, false), .iaddrS 32 (.tmp 42) (.const (jn 1)), [], none⟩, ⟨some 44, some (40, false), .load true 32 (.tmp 43), [], none⟩, ⟨some 45, some (40, false), .load true 32 (.tmp 6), [], none⟩, ⟨some 46, some (40, false), .eqv 23 true (.tmp 44) (.tmp 45), [], none⟩, ⟨some 47, none, .pick (.tmp 40) (.const (.bool true)) (.tmp 46), [], none⟩]) (.cond (.tmp 47) (.seq (.reg [⟨some 8, none, .mov (.const (tx [])), [], none⟩, ⟨some 9, none, .mov (.const (.slice .none 0 0)), [], none⟩, ⟨some 10, none, .mov (.const (.bool false)), [], none⟩]) .ret) .skip)) (.seq (.reg [⟨some 48, none, .faddr 1 1 (.tmp 13), [], none⟩, ⟨some 49, none, .load false 1 (.tmp 48), [], none⟩, ⟨some 50, none, .faddr 2 2 (.tmp 13), [], none⟩, ⟨some 51, none, .load false 1 (.tmp 50), [], none⟩, ⟨some 52, none, .rdp (.sslice 32 true false) [(.tmp 51), (.const (jn 2))], [], none⟩, ⟨some 8, none, .mov (.tmp 49), [], none⟩, ⟨some 9, none, .mov (.tmp 52), [], none⟩, ⟨some 10, none, .mov (.const (.bool true)), [], none⟩]) .ret)))))))
def fc709 : FC := ⟨4, 53, [(.tmp 8), (.tmp 9), (.tmp 10)], fb709⟩
theorem fc709_eq : compF Go.Proofs.Tryz.prog 61 = some fc709 := by kernel_rfl
def fb714 : AC := (.seq (.reg [⟨some 4, none, .box 1 (.tmp 0), [], none⟩, ⟨some 5, none, .box 32 (.tmp 1), [], none⟩, ⟨some 6, none, .box 32 (.tmp 2), [], none⟩, ⟨some 8, none, .mov (.const (tx [])), [], none⟩, ⟨some 9, none, .mov (.const (.slice .none 0 0)), [], none⟩, ⟨some 10, none, .mov (.const (.bool false)), [], none⟩]) (.seq (.seq (.reg [⟨some 11, none, .faddr 0 0 (.tmp 4), [], none⟩, ⟨some 12, none, .load false 1 (.tmp 11), [], none⟩, ⟨some 13, none, .rdp (.pnil false) [.tmp 12], [], none⟩]) (.cond (.tmp 13) (.seq (.reg [⟨some 14, none, .load true 32 (.tmp 5), [], none⟩, ⟨some 15, none, .load true 32 (.tmp 6), [], none⟩, ⟨some 16, none, .mov (.tmp 3), [], none⟩, ⟨some 17, none, .call 60 [.tmp 14, .tmp 15, .tmp 16], [], none⟩, ⟨some 18, none, .ext (.tmp 17) 0, [], none⟩, ⟨some 19, none, .ext (.tmp 17) 1, [], none⟩, ⟨some 20, none, .ext (.tmp 17) 2, [], none⟩, ⟨some 8, none, .mov (.tmp 18), [], none⟩, ⟨some 9, none, .mov (.tmp 19), [], none⟩, ⟨some 10, none, .mov (.tmp 20), [], none⟩]) .ret) .skip)) (.seq (.reg [⟨some 21, none, .faddr 0 0 (.tmp 4), [], none⟩, ⟨some 22, none, .load false 1 (.tmp 21), [], none⟩, ⟨some 23, none, .load true 32 (.tmp 5), [], none⟩, ⟨some 24, none, .load true 32 (.tmp 6), [], none⟩, ⟨some 25, none, .mov (.tmp 3), [], none⟩, ⟨some 26, none, .icall 61 (.tmp 22) [.tmp 23, .tmp 24, .tmp 25], [], none⟩, ⟨some 27, none, .ext (.tmp 26) 0, [], none⟩, ⟨some 28, none, .ext (.tmp 26) 1, [], none⟩, ⟨some 29, none, .ext (.tmp 26) 2, [], none⟩, ⟨some 8, none, .mov (.tmp 27), [], none⟩, ⟨some 9, none, .mov (.tmp 28), [], none⟩, ⟨some 10, none, .mov (.tmp 29), [], none⟩]) .ret)))
def fc714 : FC := ⟨4, 30, [(.tmp 8), (.tmp 9), (.tmp 10)], fb714⟩
theorem fc714_eq : compF Go.Proofs.Tryz.prog 42 = some fc714 := by kernel_rfl
def fb737 : AC := (.seq (.reg [⟨some 3, none, .box 32 (.tmp 1), [], none⟩, ⟨some 4, none, .alloc 3 (.st [1, 1, 1] [(.lit (jn 0)), (.lit (tx [])), (.lit (.slice .none 0 0))]), [], none⟩]) (.seq (.reg [⟨some 7, none, .mov (.tmp 0), [], none⟩, ⟨some 8, none, .load true 32 (.tmp 3), [], none⟩, ⟨some 9, none, .icall 48 (.tmp 7) [.tmp 8], [], none⟩, ⟨some 5, none, .mov (.tmp 9), [], none⟩]) (.seq (.seq (.reg [⟨some 10, none, .mov (.tmp 5), [], none⟩, ⟨some 11, none, .bin .lss (.tmp 10) (.const (jn 0)), [], none⟩]) (.cond (.tmp 11) (.seq (.reg [⟨some 12, none, .load true 32 (.tmp 3), [], none⟩, ⟨some 13, none, .bslice 32 (.arr 1 (List.replicate 32 (.lit (bn 0)))) 1 [(0, (.tmp 12))], [], none⟩, ⟨some 14, none, .build (.st [1, 1, 1] [(.lit (jn 0)), (.lit (tx [])), (.lit (.slice .none 0 0))]) [(0, (.const (jn 0))), (2, (.tmp 13))], [], none⟩, ⟨none, none, .store 3 (.tmp 4) (.tmp 14), [], none⟩]) .ret) .skip)) (.seq (.reg [⟨some 15, none, .mov (.tmp 0), [], none⟩, ⟨some 16, none, .nilc (.tmp 15), [], none⟩, ⟨some 17, none, .faddr 0 0 (.tmp 16), [], none⟩, ⟨some 18, none, .load false 1 (.tmp 17), [], none⟩, ⟨some 19, none, .mov (.tmp 5), [], none⟩, ⟨some 20, none, .iaddrS 3 (.tmp 18) (.tmp 19), [], none⟩, ⟨some 21, none, .load true 3 (.tmp 20), [], none⟩, ⟨some 6, none, .alloc 3 (.st [1, 1, 1] [(.lit (jn 0)), (.lit (tx [])), (.lit (.slice .none 0 0))]), [], none⟩, ⟨none, none, .store 3 (.tmp 6) (.tmp 21), [], none⟩]) (.seq (.reg [⟨some 22, none, .faddr 2 2 (.tmp 6), [], none⟩, ⟨some 23, none, .load false 1 (.tmp 22), [], none⟩, ⟨some 24, none, .call 46 [.tmp 23], [], none⟩, ⟨some 25, none, .faddr 2 2 (.tmp 6), [], none⟩, ⟨none, none, .store 1 (.tmp 25) (.tmp 24), [], none⟩]) (.seq (.reg [⟨some 26, none, .load true 3 (.tmp 6), [], none⟩, ⟨none, none, .store 3 (.tmp 4) (.tmp 26), [], none⟩]) .ret))))))
def fc737 : FC := ⟨2, 27, [(.cell 4 .true 3)], fb737⟩
theorem fc737_eq : compF Go.Proofs.Tryz.prog 30 = some fc737 := by kernel_rfl
def fb738 : AC := (.seq (.reg [⟨some 2, none, .mov (.const (jn 0)), [], none⟩]) (.seq (.reg [⟨some 3, none, .mov (.tmp 0), [], none⟩, ⟨some 4, none, .nilc (.tmp 3), [], none⟩, ⟨some 5, none, .faddr 0 0 (.tmp 4), [], none⟩, ⟨some 6, none, .load false 1 (.tmp 5), [], none⟩, ⟨some 7, none, .len false (.tmp 6), [], none⟩, ⟨some 2, none, .mov (.tmp 7), [], none⟩]) .ret))
def fc738 : FC := ⟨1, 8, [(.tmp 2)], fb738⟩
theorem fc738_eq : compF Go.Proofs.Tryz.prog 28 = some fc738 := by kernel_rfl
def lookV (ts : List Term) (k : List UInt8) : Term := if ts.length ≤ be32 k ∨ nameK (be32 k) ≠ k then ⟨0, [], [k]⟩ else ts.getD (be32 k) ⟨0, [], [k]⟩
section
variable {H : List (Option Blk)} {t : Rt} {V U : Value} {ts : List Term}
set_option maxHeartbeats 4000000 in
theorem rnumber_call (hh : RtOk H t V U ts) (hn : ts.length < 100000) {k : List UInt8} (hk : k.length = 32) :
    XCall Go.Proofs.Tryz.prog 94 [.ptr t.b t.l 0 [], keyA k] H fun r H' => r = .lit (numV ts.length k) ∧ H' = H := by
  have h703 := fc703_eq
  refine XCall.le ?_
  unfold numV
  have hbl := be32_lt k
  have c1 := nameR_call (be32 k) hbl
  refine XCall.of h703 rfl ?_; show AC.wp _ fb703 ⟨H.length, [.ptr t.b t.l 0 [], keyA k] ++ List.replicate (38 - 2) .any, H ++ List.replicate 38 none⟩ (fun x s => match x with | .exit _ => False | _ => ∃ s1, Le s s1 ∧ FinX [(.tmp 4)] s1 _); unfold fb703
  generalize hN : H.length = N at *
  have p1 : ∀ L k, (H ++ L)[N + k]? = L[k]? := fun L k => cat1 N H L k hN
  have p2 : ∀ L k x, (H ++ L).set (N + k) x = H ++ L.set k x := fun L k x => cat2 N H L k x hN
  have pb : ∀ L, (H ++ L)[t.b]? = some (some (.box t.l 2 (.st [1, 1] [.own t.j V, .own t.m U]))) := fun L => by rw [cat4 N H L _ hN (hN ▸ hh.lb)]; exact hh.hb
  have pj : ∀ L, (H ++ L)[t.j]? = some (some (.row 78 V 3 (ts.map termA) 0)) := fun L => by rw [cat4 N H L _ hN (hN ▸ hh.lj)]; exact hh.hj
  refine wp_sg (areg_bx rfl (by simp [AS.ev, keyA, AV.sz, bl, hk]) fun l => areg_end (by simp [push_cast, p2]; exact rfl) ?_)
  have k4 := bl_getD (k := k) (i := 4) (by omega); have k5 := bl_getD (k := k) (i := 5) (by omega); have k6 := bl_getD (k := k) (i := 6) (by omega); have k7 := bl_getD (k := k) (i := 7) (by omega)
  have e4 := bl_getE (k := k) (i := 4) (by omega); have e5 := bl_getE (k := k) (i := 5) (by omega); have e6 := bl_getE (k := k) (i := 6) (by omega); have e7 := bl_getE (k := k) (i := 7) (by omega)
  have hbe : (k.getD 4 0).toNat * 16777216 + (k.getD 5 0).toNat * 65536 + (k.getD 6 0).toNat * 256 + (k.getD 7 0).toNat = be32 k := rfl
  have b4 := (k.getD 4 0).toNat_lt; have b5 := (k.getD 5 0).toNat_lt; have b6 := (k.getD 6 0).toNat_lt; have b7 := (k.getD 7 0).toNat_lt
  generalize (k.getD 4 0).toNat = a4 at *
  generalize (k.getD 5 0).toNat = a5 at *
  generalize (k.getD 6 0).toNat = a6 at *
  generalize (k.getD 7 0).toNat = a7 at *
  have v4 := cvt_j8 a4 b4; have v5 := cvt_j8 a5 b5; have v6 := cvt_j8 a6 b6; have v7 := cvt_j8 a7 b7
  have m4 := bin_mulj a4 16777216 (by omega); have m5 := bin_mulj a5 65536 (by omega); have m6 := bin_mulj a6 256 (by omega)
  have s1 := bin_addj (a4 * 16777216) (a5 * 65536) (by omega); have s2 := bin_addj (a4 * 16777216 + a5 * 65536) (a6 * 256) (by omega)
  have s3 := bin_addj (a4 * 16777216 + a5 * 65536 + a6 * 256) a7 (by omega)
  rw [hbe] at s3
  refine wp_sr (by simp [push_cast, p1, k4, k5, k6, k7, e4, e5, e6, e7, v4, v5, v6, v7, m4, m5, m6, s1, s2, s3, hk, bl_len]; exact rfl) ?_
  generalize be32 k = n at *
  have e1 := eq_key hk (nameK_len n)
  refine wp_seq' (wp_seq' (wp_rg ?_))
  have fin : ∀ (v : Value) (s : AS) (R : List (Option Blk)), v = (if ts.length ≤ n ∨ nameK n ≠ k then .int .i64 (-1) else jn n) → s.ev (.tmp 4) = .lit v → s.hp = H ++ R → ∃ s1, Le s s1 ∧ FinX [RV.tmp 4] s1 fun r H' => ∃ r' A, RelLe r r' ∧ r' ≠ .any ∧ HpLe H' A ∧ r' = .lit (if ts.length ≤ n ∨ nameK n ≠ k then .int .i64 (-1) else jn n) ∧ A = H := fun v s R h1 h2 h3 =>
    ⟨s, Le.refl _, finX1 (v := .lit v) (by simp [RVal, AS.coe, h2]) (by simp) ⟨_, H, RelLe.refl _, by simp, by rw [h3]; exact HpLe.trim _ _, by rw [h1], rfl⟩⟩
  by_cases hle : n < ts.length
  · refine areg_run 8 (by simp [push_cast, p1, pb, pj, hle]; exact rfl) ?_
    refine areg_run 2 (by simp [push_cast, p1, hk, bl_len]; exact rfl) ?_
    refine areg_g (by simp [AS.ev, AS.put]) (areg_cv (by simp [AS.ev, AS.coe, AS.put] <;> exact rfl) c1 ?_)
    refine areg_g (by simp [AS.ev, AS.put]) (areg_eq (by simp [AS.ev, AS.put] <;> exact rfl) (by simp [AS.ev, AS.put] <;> exact rfl) e1 rfl rfl ?_)
    by_cases hkn : k = nameK n
    · refine areg_end (by simp [push_cast, hkn]; exact rfl) ?_
      refine wp_cond_t (by simp [AS.ev, AS.put]) ?_
      refine wp_sr (by simp [push_cast]; exact rfl) (wp_ret' ?_)
      exact fin (jn n) _ _ (by rw [if_neg]; intro h; rcases h with h | h; omega; exact h hkn.symm) rfl rfl
    · refine areg_end (by simp [push_cast, hkn]; exact rfl) ?_
      refine wp_cond_f (by simp [AS.ev, AS.put]) (wp_skip' ?_)
      refine wp_sr (by simp [push_cast]; exact rfl) (wp_ret' ?_)
      exact fin (.int .i64 (-1)) _ _ (by rw [if_pos]; exact .inr (fun h => hkn h.symm)) rfl rfl
  · refine areg_run 8 (by simp [push_cast, p1, pb, pj, hle]; exact rfl) ?_
    refine areg_ng (by simp [AS.ev, AS.put, hle]) (areg_ng (by simp [AS.ev, AS.put, hle]) (areg_ng (by simp [AS.ev, AS.put, hle]) (areg_ng (by simp [AS.ev, AS.put, hle]) ?_)))
    refine areg_end (by simp [push_cast]; exact rfl) ?_
    refine wp_cond_f (by simp [AS.ev, AS.put]) (wp_skip' ?_)
    refine wp_sr (by simp [push_cast]; exact rfl) (wp_ret' ?_)
    exact fin (.int .i64 (-1)) _ _ (by rw [if_pos]; exact .inl (by omega)) rfl rfl
theorem lookV_ok (hok : ∀ y ∈ ts, TermOk y) {k : List UInt8} (hk : k.length = 32) : TermOk (lookV ts k) := by
  have h0 : TermOk ⟨0, [], [k]⟩ := ⟨by simp, by simp, by simp, by simp [hk]⟩
  unfold lookV
  split
  · exact h0
  · rename_i h
    have hlt : be32 k < ts.length := by
      rcases Nat.lt_or_ge (be32 k) ts.length with h' | h'
      · exact h'
      · exact absurd (.inl h') h
    rw [List.getD, List.getElem?_eq_getElem hlt]
    exact hok _ (List.getElem_mem hlt)
set_option maxHeartbeats 4000000 in
theorem rlook_call (hh : RtOk H t V U ts) (hn : ts.length < 100000) {k : List UInt8} (hk : k.length = 32) :
    XCall Go.Proofs.Tryz.prog 77 [.ptr t.b t.l 0 [], keyA k] H fun r H' => r = termA (lookV ts k) ∧ H' = H := by
  have h707 := fc707_eq
  refine XCall.le ?_
  have c1 := fun L => rnumber_call (hh.app L) hn hk
  unfold numV at c1
  unfold lookV
  have tA : ∀ z : Term, termA z = .st [1, 1, 1] [.lit (jn z.kind), .lit (tx z.text), .sl 32 (klA z.keys)] := fun _ => rfl
  refine XCall.of h707 rfl ?_; show AC.wp _ fb707 ⟨H.length, [.ptr t.b t.l 0 [], keyA k] ++ List.replicate (21 - 2) .any, H ++ List.replicate 21 none⟩ (fun x s => match x with | .exit _ => False | _ => ∃ s1, Le s s1 ∧ FinX [(.cell 4 .true 3)] s1 _); unfold fb707
  generalize hN : H.length = N at *
  have p1 : ∀ L k, (H ++ L)[N + k]? = L[k]? := fun L k => cat1 N H L k hN
  have p2 : ∀ L k x, (H ++ L).set (N + k) x = H ++ L.set k x := fun L k x => cat2 N H L k x hN
  have pb : ∀ L, (H ++ L)[t.b]? = some (some (.box t.l 2 (.st [1, 1] [.own t.j V, .own t.m U]))) := fun L => by rw [cat4 N H L _ hN (hN ▸ hh.lb)]; exact hh.hb
  have pj : ∀ L, (H ++ L)[t.j]? = some (some (.row 78 V 3 (ts.map termA) 0)) := fun L => by rw [cat4 N H L _ hN (hN ▸ hh.lj)]; exact hh.hj
  refine wp_sg (areg_bx rfl (by simp [AS.ev, keyA, AV.sz, bl, hk]) fun l3 => areg_al' (z' := .st [1, 1, 1] [.lit (jn 0), .lit (tx []), .lit (.slice none 0 0)]) rfl fun l4 => areg_end (by simp [push_cast, p2]; exact rfl) ?_)
  generalize be32 k = n at *
  refine wp_sg ?_
  refine areg_run 2 (by simp [push_cast, p1, hk, bl_len]; exact rfl) ?_
  refine areg_xc (by simp [AS.ev, AS.put, keyA] <;> exact rfl) (c1 _) ⟨_, _, rfl, rfl⟩ ?_
  rintro r H' ⟨rfl, rfl⟩
  refine areg_end (by simp [push_cast]; exact rfl) ?_
  by_cases hc : ts.length ≤ n ∨ nameK n ≠ k
  · rw [if_pos hc]
    simp only [if_pos hc]
    refine wp_seq' (wp_seq' (wp_r (by simp [push_cast, bin_lssm]; exact rfl) (wp_cond_t rfl ?_)))
    refine wp_sg ?_
    refine areg_run 1 (by simp [push_cast, p1, hk, bl_len]; exact rfl) ?_
    refine areg_bsl (els := [keyA k]) (by simp [fillAV, AS.ev, AS.put, AV.sub, AV.isTup, AV.sz, AV.upd, keyA, bl_len, hk] <;> rfl) ?_
    refine areg_end (by simp [push_cast, p1, p2]; exact rfl) (wp_ret' ?_)
    exact ⟨_, Le.refl _, [], _, ⟨by simp [AS.seals, RVals, RVal, AS.ev, AS.peek, AS.blk, p1, Blk.loc, Blk.cont, Blk.n, AV.nav, AV.isAgg, AV.isTup, AS.coe]; rfl, by simp [termA]⟩, termA ⟨0, [], [k]⟩, H, RelLe.refl _, by simp [termA], HpLe.trim _ _, rfl, rfl⟩
  · rw [if_neg hc]
    simp only [if_neg hc]
    have hlt : n < ts.length := by omega
    have g0 : ts[n]? = some ts[n] := List.getElem?_eq_getElem hlt
    have hd : ts.getD n ⟨0, [], [k]⟩ = ts[n] := by rw [List.getD, g0]; rfl
    simp only [hd]
    generalize ts[n] = x at *
    have g2 : (ts.map termA)[n]? = some (termA x) := by rw [List.getElem?_map, g0]; rfl
    have g3 : ∀ h, (ts.map termA)[n]'h = termA x := fun h => by rw [List.getElem?_eq_getElem h] at g2; exact Option.some.inj g2
    refine wp_seq' (wp_seq' (wp_r (by simp [push_cast]; exact rfl) (wp_cond_f rfl (wp_skip' ?_))))
    refine wp_sr (by simp [push_cast, p1, p2, pb, pj, hlt, g2, g3, tA]; exact rfl) (wp_ret' ?_)
    exact ⟨_, Le.refl _, [], _, ⟨by simp [AS.seals, RVals, RVal, AS.ev, AS.peek, AS.blk, p1, Blk.loc, Blk.cont, Blk.n, AV.nav, AV.isAgg, AV.isTup, AS.coe]; rfl, by simp [termA]⟩, termA x, H, RelLe.refl _, by simp [termA], HpLe.trim _ _, rfl, rfl⟩
theorem openX_look {k b m : List UInt8} (hl : m.length = 32) : openX ts k b m = (if (lookV ts m).kind = 6 ∧ (lookV ts m).keys.getD 0 zk = k ∧ (lookV ts m).keys.getD 1 zk = b then some (lookV ts m) else none) := by
  unfold openX lookV
  rw [if_neg (by simp [hl])]
  by_cases hc : ts.length ≤ be32 m ∨ nameK (be32 m) ≠ m
  · rw [if_pos hc, if_pos hc]; simp
  · rw [if_neg hc, if_neg hc]
    have hlt : be32 m < ts.length := by
      rcases Nat.lt_or_ge (be32 m) ts.length with h' | h'
      · exact h'
      · exact absurd (.inl h') hc
    rw [List.getD, List.getElem?_eq_getElem hlt]
    simp
theorem lookV_two (h2 : ∀ x ∈ ts, x.kind = 6 → 2 ≤ x.keys.length) {m : List UInt8} (h6 : (lookV ts m).kind = 6) : 2 ≤ (lookV ts m).keys.length := by
  unfold lookV at *
  split at h6
  · simp at h6
  · rename_i hc
    rw [if_neg hc]
    have hlt : be32 m < ts.length := by
      rcases Nat.lt_or_ge (be32 m) ts.length with h' | h'
      · exact h'
      · exact absurd (.inl h') hc
    rw [List.getD, List.getElem?_eq_getElem hlt] at h6 ⊢
    exact h2 _ (List.getElem_mem hlt) h6
theorem rlook_gk (hh : RtOk H t V U ts) {ts1 : List Term} (hn : ts1.length < 100000) {k : List UInt8} (hk : k.length = 32) :
    GC Go.Proofs.Tryz.prog 77 [.ptr t.b t.l 0 [], keyA k] (rF H t) ts1 (termA (lookV ts1 k)) ts1 := GC.ofR hh fun H V U h => by
  refine XCall.mono (rlook_call h hn hk) ?_
  rintro r H' ⟨h1, h2⟩
  exact ⟨h1, V, U, by rw [h2, h.self]⟩
theorem bl_set (z : List UInt8) (i : Nat) (b : UInt8) : (bl z).set i (.lit (bn b.toNat)) = bl (z.set i b) := by simp [bl, List.map_set]
theorem cp_step {m z : List UInt8} {i : Nat} {b : UInt8} (hb : m[i]? = some b) (hz : z.length = m.length) : (m.take i ++ z.drop i).set i b = m.take (i + 1) ++ z.drop (i + 1) := by
  have hi : i < m.length := (List.getElem?_eq_some_iff.1 hb).1
  rw [List.set_append_right _ _ (by simp; omega)]
  have e : i - (m.take i).length = 0 := by simp; omega
  rw [e, List.drop_eq_getElem_cons (by omega : i < z.length), List.set_cons_zero, List.take_add_one, hb]
  simp
set_option maxHeartbeats 16000000 in
theorem ropen_call (hh : RtOk H t V U ts) (hok : ∀ y ∈ ts, TermOk y) (h2 : ∀ x ∈ ts, x.kind = 6 → 2 ≤ x.keys.length) (hn : ts.length < 100000) {k b m : List UInt8} (hk : k.length = 32) (hb : b.length = 32) (hm : m.length < 9223372036854775808) :
    XCall Go.Proofs.Tryz.prog 61 [.ptr t.b t.l 0 [], keyA k, keyA b, .lit (tx m)] H fun r H' => r = openA (openX ts k b m) ∧ ∃ V' U', H' = rtOf H t V' U' ts := by
  have h709 := fc709_eq
  refine XCall.le ?_
  have hself := hh.self
  have G1 : ∀ i y, (rF H t i y).length = H.length := fun i y => rtOf_len _ _ _ _ _
  have cL := fun h => rlook_gk hh hn (k := m) h
  have hl6 := fun h => lookV_two h2 (m := m) h
  have hlo := fun h => lookV_ok hok (k := m) h
  have hX := fun h => openX_look (ts := ts) (k := k) (b := b) (m := m) h
  have h0 : m.length ≠ 32 → openX ts k b m = none := fun h => by unfold openX; rw [if_pos h]
  generalize openX ts k b m = oo at *
  generalize lookV ts m = x at *
  refine XCall.of h709 rfl ?_; show AC.wp _ fb709 ⟨H.length, [.ptr t.b t.l 0 [], keyA k, keyA b, .lit (tx m)] ++ List.replicate (53 - 4) .any, H ++ List.replicate 53 none⟩ (fun x s => match x with | .exit _ => False | _ => ∃ s1, Le s s1 ∧ FinX [(.tmp 8), (.tmp 9), (.tmp 10)] s1 _); unfold fb709
  have hst : ∀ L, H ++ L = rF H t ts (V, U) ++ L := fun L => by unfold rF; rw [hself]
  rw [hst]
  generalize hN : H.length = N at *
  have p1 : ∀ i y L k, (rF H t i y ++ L)[N + k]? = L[k]? := fun i y L k => cat1 N _ L k (G1 i y)
  have p2 : ∀ i y L k z, (rF H t i y ++ L).set (N + k) z = rF H t i y ++ L.set k z := fun i y L k z => cat2 N _ L k z (G1 i y)
  refine wp_sg (areg_bx rfl (by simp [AS.ev, keyA, AV.sz, bl, hk]) fun l5 => areg_bx rfl (by simp [AS.ev, AS.put, keyA, AV.sz, bl, hb]) fun l6 => areg_end (by simp [push_cast, p2]; exact rfl) ?_)
  by_cases hl : m.length = 32
  · have hx := hlo hl
    have hXX := hX hl
    have cLL := cL hl
    obtain ⟨kd, tt', ks⟩ := x
    refine wp_seq' (wp_sr (by simp [push_cast, hl]; exact rfl) (wp_cond_f rfl (wp_skip' ?_)))
    refine wp_sg (areg_al' zk_eq.symm fun l11 => areg_end (by simp [push_cast, p2]; exact rfl) ?_)
    have hz : zk.length = m.length := by rw [hl]; rfl
    refine wp_seq' (wp_seq' (wp_r (by simp [push_cast]; exact rfl) (wp_block' (wp_loop_to 32 (fun i => ⟨N, [.ptr t.b t.l 0 [], .any, .any, .lit (tx m), .any, .ptr (N + 5) l5 0 [], .ptr (N + 6) l6 0 [], .any, .any, .any, .any, .ptr (N + 11) l11 0 [], .lit (jn i)] ++ List.replicate 40 .any, rF H t ts (V, U) ++ ([none, none, none, none, none, some (.box l5 32 (keyA k)), some (.box l6 32 (keyA b)), none, none, none, none, some (.box l11 32 (keyA (m.take i ++ zk.drop i)))] ++ List.replicate 41 none)⟩) ?_ ?_ ?_))))
    · exact Le.cat (by simp [leT]) (by simp [leH, keyA])
    · intro i hi
      have q1 : i + 1 < 9223372036854775808 := by omega
      obtain ⟨c, hc⟩ : ∃ c, m[i]? = some c := ⟨_, List.getElem?_eq_getElem (by omega)⟩
      have hlen : (m.take i ++ zk.drop i).length = 32 := by simp [zk_len, hl]; omega
      have hset := cp_step hc hz
      refine wp_seq' (wp_sr (by simp [push_cast, hi]; exact rfl) (wp_cond_t (by simp [AS.ev]) (wp_skip' ?_)))
      refine wp_seq' (wp_block' (wp_r (by simp [push_cast, p1, p2, hc, hi, hlen, bl_set, hset]; exact rfl) ?_))
      refine wp_r (by simp [push_cast, q1]; exact rfl) ?_
      exact Le.cat (by simp [leT]) (by simp [leH, keyA])
    · have hfull : m.take 32 ++ zk.drop 32 = m := by rw [List.take_of_length_le (by omega)]; simp [zk]
      rw [hfull]
      refine wp_seq' (wp_sr (by simp [push_cast]; exact rfl) (wp_cond_f (by simp [AS.ev]) (wp_exit' (if_hit rfl ?_))))
      refine wp_sg ?_
      refine areg_run 2 (by simp [push_cast, p1, hl]; exact rfl) ?_
      refine areg_gi cLL (by simp [AS.ev, AS.put, keyA]) fun y => ?_
      have tA : termA ⟨kd, tt', ks⟩ = .st [1, 1, 1] [.lit (jn kd), .lit (tx tt'), .sl 32 (klA ks)] := rfl
      rw [tA]
      refine areg_al' (z' := .st [1, 1, 1] [.lit (jn 0), .lit (tx []), .lit (.slice none 0 0)]) rfl fun l13 => areg_end (by simp [push_cast, p1, p2]; exact rfl) ?_
      have finN : ∀ (s : AS) (R : List (Option Blk)), oo = none → RVals s [RV.tmp 8, RV.tmp 9, RV.tmp 10] = some [.lit (tx []), .lit (.slice none 0 0), .lit (.bool false)] → s.hp = rF H t ts y ++ R → ∃ s1, Le s s1 ∧ FinX [RV.tmp 8, RV.tmp 9, RV.tmp 10] s1 fun r H' => ∃ r' A, RelLe r r' ∧ r' ≠ .any ∧ HpLe H' A ∧ r' = openA oo ∧ ∃ V' U', A = rtOf H t V' U' ts := fun s R h1 h2 h3 =>
        ⟨s, Le.refl _, [], _, ⟨_, rfl, h2, by simp⟩, openA none, rF H t ts y, open_no, by simp [openA], by rw [show (s.seals []).hp = s.hp from rfl, h3]; exact HpLe.trim _ _, by rw [h1], y.1, y.2, rfl⟩
      refine wp_seq' (wp_seq' (wp_rg ?_))
      by_cases h6 : kd = 6
      · subst h6
        have h22 := hl6 rfl
        simp only at h22 hXX
        obtain ⟨a, b', r, rfl⟩ : ∃ a b' r, ks = a :: b' :: r := by
          match ks, h22 with
          | a :: b' :: r, _ => exact ⟨a, b', r, rfl⟩
        have ha32 : a.length = 32 := hx.k32 a (by simp)
        have hb32 : b'.length = 32 := hx.k32 b' (by simp)
        have e1 := eq_key ha32 hk
        have e2 := eq_key hb32 hb
        have kl : klA (a :: b' :: r) = keyA a :: keyA b' :: klA r := rfl
        have hr : (klA r).length < 100000 := by rw [klA_len]; have := hx.keys; simp at this; omega
        have he : oo = if a = k ∧ b' = b then some ⟨6, tt', a :: b' :: r⟩ else none := by rw [hXX]; simp
        have hfin : (.tup [.lit (tx tt'), .sl 32 (klA r), .lit (.bool true)] : AV) = openA (some ⟨6, tt', a :: b' :: r⟩) := rfl
        rw [kl] at *
        generalize klA r = rr at *
        refine areg_run 9 (by simp [push_cast, p1, ha32, hb32, hk, hb]; exact rfl) ?_
        refine areg_g (by simp [AS.ev, AS.put]) (areg_eq (by simp [AS.ev, AS.put] <;> exact rfl) (by simp [AS.ev, AS.put] <;> exact rfl) e1 rfl rfl ?_)
        by_cases hak : a = k
        · refine areg_run 7 (by simp [push_cast, p1, ha32, hb32, hk, hb, hak]; exact rfl) ?_
          refine areg_g (by simp [AS.ev, AS.put]) (areg_eq (by simp [AS.ev, AS.put] <;> exact rfl) (by simp [AS.ev, AS.put] <;> exact rfl) e2 rfl rfl ?_)
          by_cases hbk : b' = b
          · rw [if_pos (show a = k ∧ b' = b from ⟨hak, hbk⟩)] at he
            refine areg_end (by simp [push_cast, hbk]; exact rfl) ?_
            refine wp_cond_f (by simp [AS.ev]) (wp_skip' (wp_sg ?_))
            refine areg_run 4 (by simp [push_cast, p1]; exact rfl) ?_
            refine areg_rdp (us := [.sl 32 (keyA a :: keyA b' :: rr), .lit (jn 2)]) (by simp [AS.ev, AS.put, hak, hbk, keyA]) (v := .sl 32 rr) (by simp [rdA, rdB, bnds, bound_jn]) ?_
            refine areg_end (by simp [push_cast]; exact rfl) (wp_ret' ?_)
            exact ⟨_, Le.refl _, [], _, ⟨_, rfl, by simp [AS.seals, RVals, RVal, AS.ev, AS.peek, AS.blk, p1, AS.coe], by simp⟩, .tup [.lit (tx tt'), .sl 32 rr, .lit (.bool true)], rF H t ts y, RelLe.refl _, by simp, HpLe.trim _ _, by rw [he]; exact hfin, y.1, y.2, rfl⟩
          · rw [if_neg (show ¬ (a = k ∧ b' = b) from fun h => hbk h.2)] at he
            refine areg_end (by simp [push_cast, hbk]; exact rfl) ?_
            refine wp_cond_t (by simp [AS.ev]) (wp_sr (by simp [push_cast]; exact rfl) (wp_ret' ?_))
            exact finN _ _ he (by simp [RVals, RVal, AS.ev, AS.peek, AS.blk, p1, AS.coe]) rfl
        · rw [if_neg (show ¬ (a = k ∧ b' = b) from fun h => hak h.1)] at he
          refine areg_run 2 (by simp [push_cast, hak]; exact rfl) ?_
          refine areg_ng (by simp [AS.ev, AS.put]) (areg_ng (by simp [AS.ev, AS.put]) (areg_ng (by simp [AS.ev, AS.put]) (areg_ng (by simp [AS.ev, AS.put]) (areg_ng (by simp [AS.ev, AS.put]) (areg_ng (by simp [AS.ev, AS.put]) ?_)))))
          refine areg_end (by simp [push_cast]; exact rfl) ?_
          refine wp_cond_t (by simp [AS.ev, AS.put]) (wp_sr (by simp [push_cast]; exact rfl) (wp_ret' ?_))
          exact finN _ _ he (by simp [RVals, RVal, AS.ev, AS.peek, AS.blk, p1, AS.coe]) rfl
      · have he : oo = none := by rw [hXX]; simp [h6]
        refine areg_run 4 (by simp [push_cast, p1, h6]; exact rfl) ?_
        refine areg_ng (by simp [AS.ev, AS.put]) (areg_ng (by simp [AS.ev, AS.put]) (areg_ng (by simp [AS.ev, AS.put]) (areg_ng (by simp [AS.ev, AS.put]) (areg_ng (by simp [AS.ev, AS.put]) (areg_ng (by simp [AS.ev, AS.put]) ?_)))))
        refine areg_run 2 (by simp [push_cast]; exact rfl) ?_
        refine areg_ng (by simp [AS.ev, AS.put]) (areg_ng (by simp [AS.ev, AS.put]) (areg_ng (by simp [AS.ev, AS.put]) (areg_ng (by simp [AS.ev, AS.put]) (areg_ng (by simp [AS.ev, AS.put]) (areg_ng (by simp [AS.ev, AS.put]) ?_)))))
        refine areg_end (by simp [push_cast]; exact rfl) ?_
        refine wp_cond_t (by simp [AS.ev, AS.put]) (wp_sr (by simp [push_cast]; exact rfl) (wp_ret' ?_))
        exact finN _ _ he (by simp [RVals, RVal, AS.ev, AS.peek, AS.blk, p1, AS.coe]) rfl
  · rw [h0 hl]
    refine wp_seq' (wp_sr (by simp [push_cast, hl]; exact rfl) (wp_cond_t (by simp [AS.ev, hl]) (wp_sr (by simp [push_cast]; exact rfl) (wp_ret' ?_))))
    exact ⟨_, Le.refl _, [], _, ⟨_, rfl, by simp [AS.seals, RVals, RVal, AS.ev, AS.peek, AS.blk, p1, AS.coe], by simp⟩, openA none, rF H t ts (V, U), open_no, by simp [openA], HpLe.trim _ _, rfl, V, U, rfl⟩
theorem ropen_gk (hh : RtOk H t V U ts) {ts1 : List Term} (hok : ∀ y ∈ ts1, TermOk y) (h2 : ∀ x ∈ ts1, x.kind = 6 → 2 ≤ x.keys.length) (hn : ts1.length < 100000) {k b m : List UInt8} (hk : k.length = 32) (hb : b.length = 32) (hm : m.length < 9223372036854775808) :
    GC Go.Proofs.Tryz.prog 61 [.ptr t.b t.l 0 [], keyA k, keyA b, .lit (tx m)] (rF H t) ts1 (openA (openX ts1 k b m)) ts1 := GC.ofR hh fun H V U h => ropen_call h hok h2 hn hk hb hm
theorem ropenK_call (hh : RtOk H t V U ts) (hok : ∀ y ∈ ts, TermOk y) (h2 : ∀ x ∈ ts, x.kind = 6 → 2 ≤ x.keys.length) (hn : ts.length < 100000) {k b m : List UInt8} (hk : k.length = 32) (hb : b.length = 32) (hm : m.length < 9223372036854775808) :
    XCall Go.Proofs.Tryz.prog 42 [kitA t.b t.l, keyA k, keyA b, .lit (tx m)] H fun r H' => r = openA (openX ts k b m) ∧ ∃ V' U', H' = rtOf H t V' U' ts := by
  have h714 := fc714_eq
  refine XCall.le ?_
  have hput := ropen_gk hh hok h2 hn hk hb hm
  have hself := hh.self
  have G1 : ∀ i y, (rF H t i y).length = H.length := fun i y => rtOf_len _ _ _ _ _
  obtain ⟨x, ks, ok, hoA⟩ : ∃ x ks ok, openA (openX ts k b m) = .tup [.lit (tx x), .sl 32 ks, .lit (.bool ok)] := by
    cases openX ts k b m with
    | none => exact ⟨_, _, _, rfl⟩
    | some y => exact ⟨_, _, _, rfl⟩
  generalize openA (openX ts k b m) = oA at *
  subst hoA
  refine XCall.of h714 rfl ?_; show AC.wp _ fb714 ⟨H.length, [kitA t.b t.l, keyA k, keyA b, .lit (tx m)] ++ List.replicate (30 - 4) .any, H ++ List.replicate 30 none⟩ (fun x s => match x with | .exit _ => False | _ => ∃ s1, Le s s1 ∧ FinX [(.tmp 8), (.tmp 9), (.tmp 10)] s1 _); unfold fb714
  have hst : ∀ L, H ++ L = rF H t ts (V, U) ++ L := fun L => by unfold rF; rw [hself]
  rw [hst]
  generalize hN : H.length = N at *
  have g1 : ∀ i y L k, (rF H t i y ++ L)[N + k]? = L[k]? := fun i y L k => cat1 N _ L k (G1 i y)
  have g2 : ∀ i y L k z, (rF H t i y ++ L).set (N + k) z = rF H t i y ++ L.set k z := fun i y L k z => cat2 N _ L k z (G1 i y)
  refine wp_sg (areg_bx rfl (by simp [AS.ev, kitA, AV.sz]) fun l3 => areg_bx rfl (by simp [AS.ev, AS.put, keyA, AV.sz, bl, hk]) fun l4 => areg_bx rfl (by simp [AS.ev, AS.put, keyA, AV.sz, bl, hb]) fun l5 => areg_end (by simp [push_cast, g2]; exact rfl) ?_)
  refine wp_seq' (wp_seq' (wp_r (by simp [push_cast, g1, kitA]; exact rfl) (wp_cond_f (by simp [AS.ev]) (wp_skip' ?_))))
  refine wp_sg ?_
  refine areg_run 5 (by simp [push_cast, g1, kitA, hk, hb]; exact rfl) ?_
  refine areg_gi hput (by simp [AS.ev, AS.put, keyA]) fun y => ?_
  refine areg_end (by simp [push_cast]; exact rfl) (wp_ret' ?_)
  exact ⟨_, Le.refl _, [], _, ⟨_, rfl, by simp [AS.seals, RVals, RVal, AS.ev, AS.peek, AS.blk, g1, AS.coe], by simp⟩, .tup [.lit (tx x), .sl 32 ks, .lit (.bool ok)], rF H t ts y, RelLe.refl _, by simp, HpLe.trim _ _, rfl, y.1, y.2, rfl⟩
end
section
variable {H : List (Option Blk)} {t : Tb} {V : Value} {ts : List Term}
theorem len_call (hh : TbOk H t V ts) (hn : ts.length < 100000) : XCall Go.Proofs.Tryz.prog 28 [.ptr t.b t.l 0 []] H fun r H' => r = .lit (jn ts.length) ∧ H' = H := by
  have h738 := fc738_eq
  refine XCall.le ?_
  refine XCall.of h738 rfl ?_; show AC.wp _ fb738 ⟨H.length, [.ptr t.b t.l 0 []] ++ List.replicate (8 - 1) .any, H ++ List.replicate 8 none⟩ (fun x s => match x with | .exit _ => False | _ => ∃ s1, Le s s1 ∧ FinX [(.tmp 2)] s1 _); unfold fb738
  generalize hN : H.length = N at *
  have pb : ∀ L, (H ++ L)[t.b]? = some (some (.box t.l 2 (.st [1, 1] [.own t.j V, .own t.m (.map (some t.r))]))) := fun L => by rw [cat4 N H L _ hN (hN ▸ hh.lb)]; exact hh.hb
  have pj : ∀ L, (H ++ L)[t.j]? = some (some (.row 78 V 3 (ts.map termA) 0)) := fun L => by rw [cat4 N H L _ hN (hN ▸ hh.lj)]; exact hh.hj
  refine wp_sr (by simp [push_cast]; exact rfl) ?_
  refine wp_sr (by simp [push_cast, pb, pj]; exact rfl) (wp_ret' ?_)
  exact ⟨_, Le.refl _, finX1 (v := .lit (jn ts.length)) (by simp [RVal, AS.ev, AS.coe]) (by simp) ⟨_, _, RelLe.refl _, by simp, HpLe.trim _ _, rfl, rfl⟩⟩
set_option maxHeartbeats 4000000 in
theorem look_call (hh : TbOk H t V ts) (hok : ∀ y ∈ ts, TermOk y) (hn : ts.length < 100000) {k : List UInt8} (hk : k.length = 32) :
    XCall Go.Proofs.Tryz.prog 30 [.ptr t.b t.l 0 [], keyA k] H fun r H' => r = termA (lookV ts k) ∧ H' = H := by
  have h737 := fc737_eq
  refine XCall.le ?_
  have c1 := fun L => number_call (hh.app L) hn hk
  unfold numV at c1
  unfold lookV
  have tA : ∀ z : Term, termA z = .st [1, 1, 1] [.lit (jn z.kind), .lit (tx z.text), .sl 32 (klA z.keys)] := fun _ => rfl
  refine XCall.of h737 rfl ?_; show AC.wp _ fb737 ⟨H.length, [.ptr t.b t.l 0 [], keyA k] ++ List.replicate (27 - 2) .any, H ++ List.replicate 27 none⟩ (fun x s => match x with | .exit _ => False | _ => ∃ s1, Le s s1 ∧ FinX [(.cell 4 .true 3)] s1 _); unfold fb737
  generalize hN : H.length = N at *
  have p1 : ∀ L k, (H ++ L)[N + k]? = L[k]? := fun L k => cat1 N H L k hN
  have p2 : ∀ L k x, (H ++ L).set (N + k) x = H ++ L.set k x := fun L k x => cat2 N H L k x hN
  have pb : ∀ L, (H ++ L)[t.b]? = some (some (.box t.l 2 (.st [1, 1] [.own t.j V, .own t.m (.map (some t.r))]))) := fun L => by rw [cat4 N H L _ hN (hN ▸ hh.lb)]; exact hh.hb
  have pj : ∀ L, (H ++ L)[t.j]? = some (some (.row 78 V 3 (ts.map termA) 0)) := fun L => by rw [cat4 N H L _ hN (hN ▸ hh.lj)]; exact hh.hj
  refine wp_sg (areg_bx rfl (by simp [AS.ev, keyA, AV.sz, bl, hk]) fun l3 => areg_al' (z' := .st [1, 1, 1] [.lit (jn 0), .lit (tx []), .lit (.slice none 0 0)]) rfl fun l4 => areg_end (by simp [push_cast, p2]; exact rfl) ?_)
  generalize be32 k = n at *
  refine wp_sg ?_
  refine areg_run 2 (by simp [push_cast, p1, hk, bl_len]; exact rfl) ?_
  refine areg_xc (by simp [AS.ev, AS.put, keyA] <;> exact rfl) (c1 _) ⟨_, _, rfl, rfl⟩ ?_
  rintro r H' ⟨rfl, rfl⟩
  refine areg_end (by simp [push_cast]; exact rfl) ?_
  by_cases hc : ts.length ≤ n ∨ nameK n ≠ k
  · rw [if_pos hc]
    simp only [if_pos hc]
    refine wp_seq' (wp_seq' (wp_r (by simp [push_cast, bin_lssm]; exact rfl) (wp_cond_t rfl ?_)))
    refine wp_sg ?_
    refine areg_run 1 (by simp [push_cast, p1, hk, bl_len]; exact rfl) ?_
    refine areg_bsl (els := [keyA k]) (by simp [fillAV, AS.ev, AS.put, AV.sub, AV.isTup, AV.sz, AV.upd, keyA, bl_len, hk] <;> rfl) ?_
    refine areg_end (by simp [push_cast, p1, p2]; exact rfl) (wp_ret' ?_)
    exact ⟨_, Le.refl _, [], _, ⟨by simp [AS.seals, RVals, RVal, AS.ev, AS.peek, AS.blk, p1, Blk.loc, Blk.cont, Blk.n, AV.nav, AV.isAgg, AV.isTup, AS.coe]; rfl, by simp [termA]⟩, termA ⟨0, [], [k]⟩, H, RelLe.refl _, by simp [termA], HpLe.trim _ _, rfl, rfl⟩
  · rw [if_neg hc]
    simp only [if_neg hc]
    have hlt : n < ts.length := by omega
    have g0 : ts[n]? = some ts[n] := List.getElem?_eq_getElem hlt
    have hd : ts.getD n ⟨0, [], [k]⟩ = ts[n] := by rw [List.getD, g0]; rfl
    have hx := hok _ (List.getElem_mem hlt)
    simp only [hd]
    generalize ts[n] = x at *
    have g2 : (ts.map termA)[n]? = some (termA x) := by rw [List.getElem?_map, g0]; rfl
    have g3 : ∀ h, (ts.map termA)[n]'h = termA x := fun h => by rw [List.getElem?_eq_getElem h] at g2; exact Option.some.inj g2
    have cC := clone_call (klA x.keys) (by rw [klA_len]; exact hx.keys)
    refine wp_seq' (wp_seq' (wp_r (by simp [push_cast]; exact rfl) (wp_cond_f rfl (wp_skip' ?_))))
    refine wp_sg ?_
    refine areg_run 7 (by simp [push_cast, p1, pb, pj, hlt, g2, g3, tA]; exact rfl) ?_
    refine areg_al' (z' := .st [1, 1, 1] [.lit (jn 0), .lit (tx []), .lit (.slice none 0 0)]) rfl fun l6 => areg_end (by simp [push_cast, p1, p2]; exact rfl) ?_
    refine wp_sg ?_
    refine areg_run 2 (by simp [push_cast, p1]; exact rfl) ?_
    refine areg_ca (by simp [AS.ev, AS.coe, AS.put] <;> exact rfl) cC ?_
    refine areg_end (by simp [push_cast, p1, p2]; exact rfl) ?_
    refine wp_sr (by simp [push_cast, p1, p2]; exact rfl) (wp_ret' ?_)
    exact ⟨_, Le.refl _, [], _, ⟨by simp [AS.seals, RVals, RVal, AS.ev, AS.peek, AS.blk, p1, Blk.loc, Blk.cont, Blk.n, AV.nav, AV.isAgg, AV.isTup, AS.coe]; rfl, by simp [termA]⟩, termA x, H, RelLe.refl _, by simp [termA], HpLe.trim _ _, rfl, rfl⟩
set_option maxHeartbeats 8000000 in
theorem sealK_call (hh : TbOk H t V ts) (hn : ts.length < 100000) {k b s : List UInt8} {ks : List (List UInt8)} (hk : k.length = 32) (hb : b.length = 32) (hs : s.length < 100000) (hks : ks.length < 90000) (h32 : ∀ x ∈ ks, x.length = 32) :
    XCall Go.Proofs.Tryz.prog 16 [.ptr t.b t.l 0 [], keyA k, keyA b, .lit (tx s), .sl 32 (klA ks)] H fun r H' => r = .lit (tx (nameK (putN ts (sealK k b s ks)))) ∧ ∃ V', H' = tbOf H t V' (putT ts (sealK k b s ks)) := by
  have h555 := fc555_eq
  refine XCall.le ?_
  have hput := put_k hh hn _ (sealK_ok hk hb hs hks h32)
  have hself := hh.self
  have nl := nameK_len (putN ts (sealK k b s ks))
  have kl0 : (klA ks).length = ks.length := klA_len _
  have G1 : ∀ V' ts', (tbOf H t V' ts').length = H.length := fun V' ts' => tbOf_len _ _ _ _
  have g1 : ∀ V' ts' L k, (tbOf H t V' ts' ++ L)[H.length + k]? = L[k]? := fun V' ts' L k => cat1 _ _ _ _ (G1 _ _)
  have g2 : ∀ V' ts' L k x, (tbOf H t V' ts' ++ L).set (H.length + k) x = tbOf H t V' ts' ++ L.set k x := fun V' ts' L k x => cat2 _ _ _ _ _ (G1 _ _)
  unfold sealK at *
  simp only at hput
  refine XCall.of h555 rfl ?_; show AC.wp _ fb555 ⟨H.length, [.ptr t.b t.l 0 [], keyA k, keyA b, .lit (tx s), .sl 32 (klA ks)] ++ List.replicate (22 - 5) .any, H ++ List.replicate 22 none⟩ (fun x s => match x with | .exit _ => False | _ => ∃ s1, Le s s1 ∧ FinX [(.tmp 10)] s1 _); unfold fb555
  rw [← hself]
  rw [tbOf_len]
  generalize hN : H.length = N at *
  refine wp_sg (areg_bx rfl (by simp [AS.ev, keyA, AV.sz, bl, hk]) fun l6 => areg_bx rfl (by simp [AS.ev, keyA, AV.sz, bl, hb]) fun l7 => areg_end (by simp [push_cast, g2]; exact rfl) ?_)
  refine wp_sg ?_
  refine areg_run 4 (by simp [push_cast, g1, hk, hb]; exact rfl) ?_
  refine areg_bown (vs := [keyA k, keyA b]) (els := [keyA k, keyA b]) rfl (by simp [fillV, AV.sub, AV.isTup, AV.sz, AV.upd, keyA, bl_len, hk, hb] <;> rfl) (by intro t ht; cases ht) fun V1 => ?_
  refine areg_run 1 (by simp [push_cast]; exact rfl) ?_
  refine areg_ap (b := N + 16) (V := V1) (ys := klA ks) rfl (by simp only [AS.blk, g2, g1]; rfl) (by simp [AS.ev, AS.coe]) (by simp [kl0, maxLen]; omega) (by simp [kl0]; omega) (fun V2 => ?_)
  refine areg_run 0 (by simp [push_cast, g2]; exact rfl) ?_
  refine areg_xc (vs := [.ptr t.b t.l 0 [], .lit (jn 6), .lit (tx s), .own (N + 18) V2]) rfl (KC.seal (i := 3) (c := 18) (e := 23) (esz := 32) (els := klA (k :: b :: ks)) (sl := 0) hput (by rw [← hN]; rfl) rfl) ⟨_, _, rfl, .slice none 0 0, rfl⟩ ?_
  rintro r H' ⟨rfl, V4, rfl⟩
  generalize nameK (putN ts ⟨6, s, k :: b :: ks⟩) = nk at *
  refine areg_al' zk_eq.symm fun l11 => areg_end (by simp [push_cast, g1, g2, nl]; exact rfl) ?_
  refine wp_sg ?_
  refine areg_run 1 (by simp [push_cast, g1, g2, nl]; exact rfl) ?_
  refine areg_b2sv (u := .view (N + 11) l11 0 [] 1 0 32 32) (a := nk) rfl (by rw [listB_key (b := N + 11) (lo := 0) (len := 32) (cap := 32) (k := nk) (l := l11) (n := 32) (by simp only [AS.blk, g1]; rfl) (by omega), List.drop_zero, List.take_of_length_le (by omega)]) rfl ?_
  refine areg_end (by simp [push_cast]; exact rfl) (wp_ret' ?_)
  exact ⟨_, Le.refl _, finX1 (v := .lit (tx nk)) (by simp [AS.seals, RVals, RVal, AS.ev, AS.coe]) (by simp) ⟨_, _, RelLe.refl _, by simp, HpLe.trim _ _, rfl, V4, (hh.of_of _ _ _ _).symm⟩⟩
end
end Go.Cab
namespace Go.Cab
open Go.RowKit
open Classical
def fb514 : AC := (.seq (.reg [⟨some 4, none, .box 529 (.tmp 1), [], none⟩, ⟨some 5, none, .box 71 (.tmp 2), [], none⟩, ⟨some 6, none, .alloc 529 (.st [528, 1] [(.arr 66 (List.replicate 8 (.st [1, 1, 32, 32] [(.lit (.bool false)), (.lit (.bool false)), (.arr 1 (List.replicate 32 (.lit (bn 0)))), (.arr 1 (List.replicate 32 (.lit (bn 0))))]))), (.lit (.slice .none 0 0))]), [], none⟩, ⟨some 7, none, .mov (.const (tx [])), [], none⟩, ⟨some 8, none, .mov (.const (jn 0)), [], none⟩]) (.seq (.seq (.reg [⟨some 14, none, .load true 71 (.tmp 5), [], none⟩, ⟨some 15, none, .call 24 [.tmp 14], [], none⟩, ⟨some 16, none, .un .not (.tmp 15), [], none⟩]) (.cond (.tmp 16) (.seq (.reg [⟨some 17, none, .build (.st [528, 1] [(.arr 66 (List.replicate 8 (.st [1, 1, 32, 32] [(.lit (.bool false)), (.lit (.bool false)), (.arr 1 (List.replicate 32 (.lit (bn 0)))), (.arr 1 (List.replicate 32 (.lit (bn 0))))]))), (.lit (.slice .none 0 0))]) [], [], none⟩, ⟨none, none, .store 529 (.tmp 6) (.tmp 17), [], none⟩, ⟨some 7, none, .mov (.const (tx [])), [], none⟩, ⟨some 8, none, .mov (.const (jn 1)), [], none⟩]) .ret) .skip)) (.seq (.reg [⟨some 19, none, .mov (.tmp 0), [], none⟩, ⟨some 20, none, .load true 529 (.tmp 4), [], none⟩, ⟨some 21, none, .faddr 0 0 (.tmp 5), [], none⟩, ⟨some 22, none, .load false 1 (.tmp 21), [], none⟩, ⟨some 23, none, .xc (.dir 25) [.tmp 19, .tmp 20, .tmp 22] [] [], [], none⟩, ⟨some 18, none, .mov (.tmp 23), [], none⟩, ⟨some 24, none, .ext (.tmp 18) 0, [], none⟩, ⟨some 25, none, .ext (.tmp 18) 1, [], none⟩, ⟨some 26, none, .ext (.tmp 18) 2, [], none⟩, ⟨some 9, none, .alloc 32 (.arr 1 (List.replicate 32 (.lit (bn 0)))), [], none⟩, ⟨none, none, .store 529 (.tmp 4) (.tmp 24), [], none⟩, ⟨none, none, .store 32 (.tmp 9) (.tmp 25), [], none⟩, ⟨some 10, none, .mov (.tmp 26), [], none⟩]) (.seq (.seq (.reg [⟨some 27, none, .mov (.tmp 10), [], none⟩, ⟨some 28, none, .bin .neq (.tmp 27) (.const (jn 0)), [], none⟩]) (.cond (.tmp 28) (.seq (.reg [⟨some 29, none, .load true 529 (.tmp 4), [], none⟩, ⟨some 30, none, .mov (.tmp 10), [], none⟩, ⟨none, none, .store 529 (.tmp 6) (.tmp 29), [], none⟩, ⟨some 7, none, .mov (.const (tx [])), [], none⟩, ⟨some 8, none, .mov (.tmp 30), [], none⟩]) .ret) .skip)) (.seq (.reg [⟨some 32, none, .mov (.tmp 0), [], none⟩, ⟨some 33, none, .load true 32 (.tmp 9), [], (.some 9)⟩, ⟨some 34, none, .mov (.tmp 0), [], none⟩, ⟨some 35, none, .load true 71 (.tmp 5), [], (.some 5)⟩, ⟨some 36, none, .xc (.dir 26) [.tmp 34, .tmp 35] [9, 5] [], [], none⟩, ⟨some 37, none, .faddr 69 7 (.tmp 5), [], none⟩, ⟨some 38, none, .load false 1 (.tmp 37), [], (.some 5)⟩, ⟨some 39, none, .rdp (.mkfn (.method "Open") 1) [.tmp 32], [], none⟩, ⟨some 40, none, .rdp .nilv [.tmp 39], [], none⟩, ⟨some 41, none, .mov (.tmp 32), [], none⟩, ⟨some 42, none, .xc (.inv "Open") [.tmp 41, .tmp 33, .tmp 36, .tmp 38] [] [], [], none⟩, ⟨some 31, none, .mov (.tmp 42), [], none⟩, ⟨some 43, none, .ext (.tmp 31) 0, [], none⟩, ⟨some 44, none, .ext (.tmp 31) 1, [], none⟩, ⟨some 45, none, .ext (.tmp 31) 2, [], none⟩, ⟨some 11, none, .mov (.tmp 43), [], none⟩, ⟨some 12, none, .mov (.tmp 44), [], none⟩, ⟨some 13, none, .mov (.tmp 45), [], none⟩]) (.seq (.seq (.reg [⟨some 46, none, .mov (.tmp 13), [], none⟩, ⟨some 47, none, .un .not (.tmp 46), [], none⟩, ⟨some 48, none, .mov (.tmp 47), [], none⟩, ⟨some 49, some (48, false), .mov (.tmp 12), [], none⟩, ⟨some 50, some (48, false), .len false (.tmp 49), [], none⟩, ⟨some 51, some (48, false), .bin .gtr (.tmp 50) (.const (jn 0)), [], none⟩, ⟨some 52, none, .pick (.tmp 48) (.const (.bool true)) (.tmp 51), [], none⟩, ⟨some 53, none, .mov (.tmp 52), [], none⟩, ⟨some 54, some (53, false), .mov (.tmp 11), [], none⟩, ⟨some 55, some (53, false), .len true (.tmp 54), [], none⟩, ⟨some 56, some (53, false), .bin .gtr (.tmp 55) (.const (jn 64)), [], none⟩, ⟨some 57, none, .pick (.tmp 53) (.const (.bool true)) (.tmp 56), [], none⟩]) (.cond (.tmp 57) (.seq (.reg [⟨some 58, none, .build (.st [528, 1] [(.arr 66 (List.replicate 8 (.st [1, 1, 32, 32] [(.lit (.bool false)), (.lit (.bool false)), (.arr 1 (List.replicate 32 (.lit (bn 0)))), (.arr 1 (List.replicate 32 (.lit (bn 0))))]))), (.lit (.slice .none 0 0))]) [], [], none⟩, ⟨none, none, .store 529 (.tmp 6) (.tmp 58), [], none⟩, ⟨some 7, none, .mov (.const (tx [])), [], none⟩, ⟨some 8, none, .mov (.const (jn 2)), [], none⟩]) .ret) .skip)) (.seq (.reg [⟨some 59, none, .load true 529 (.tmp 4), [], none⟩, ⟨some 60, none, .mov (.tmp 11), [], none⟩, ⟨none, none, .store 529 (.tmp 6) (.tmp 59), [], none⟩, ⟨some 7, none, .mov (.tmp 60), [], none⟩, ⟨some 8, none, .mov (.const (jn 0)), [], none⟩]) .ret)))))))
def fc514 : FC := ⟨3, 61, [(.cell 6 .true 529), (.tmp 7), (.tmp 8)], fb514⟩
theorem fc514_eq : compF Go.Proofs.Tryz.prog 17 = some fc514 := by kernel_rfl
theorem open_k {H : List (Option Blk)} {t : Tb} {V0 : Value} {ts0 ts : List Term} (hh : TbOk H t V0 ts0) (hts : TsOk ts) {k b m : List UInt8} (hk : k.length = 32) (hb : b.length = 32) (hm : m.length < 9223372036854775808) :
    KC Go.Proofs.Tryz.prog 141 [.ptr t.b t.l 0 [], keyA k, keyA b, .lit (tx m)] H t ts (openA (openX ts k b m)) ts :=
  KC.of hh fun H V h => XCall.mono (open_call h hts hk hb hm) fun r H' hr => ⟨hr.1, V, by rw [hr.2, h.self]⟩
theorem tgt_openI (b : Nat) (l : Nat × Nat) (x y z : AV) : tgtA Go.Proofs.Tryz.prog (.inv "Open") [freeI b l, x, y, z] = some (141, [.ptr b l 0 [], x, y, z]) := by kernel_rfl
theorem nilv_open (b : Nat) (l : Nat × Nat) : rdA Go.Proofs.Tryz.prog (fun _ => none) .nilv [.fnv (.method "Open") [freeI b l] []] = some (.fnv (.method "Open") [freeI b l] []) := by kernel_rfl
def readV (it : Int → List UInt8) (ts : List Term) (o : OpV) (c : List UInt8) : Option (List UInt8) :=
  match openX (byV it (nextV ts c).2 o).2 (nextV ts c).1.1 (byV it (nextV ts c).2 o).1 o.text with
  | some x => if x.keys.drop 2 = [] ∧ x.text.length ≤ 64 then some x.text else none
  | none => none
def ks0A : AV := ksA [r0A, r0A, r0A, r0A, r0A, r0A, r0A, r0A] []
def readA (A2 ws : List AV) : Option (List UInt8) → AV
  | some s => .tup [ksA A2 ws, .lit (tx s), .lit (jn 0)]
  | none => .tup [ks0A, .lit (tx []), .lit (jn 2)]
theorem read_no (A2 ws : List AV) : RelLe (.tup [ks0, .lit (tx []), .lit (jn 2)]) (readA A2 ws none) := RelLe.tup (AVle.tupSt ks0_le (AVle.refl _))
set_option maxHeartbeats 16000000 in
theorem copen_call {H : List (Option Blk)} {t : Tb} {V : Value} {ts : List Term} (hh : TbOk H t V ts) (hn : ts.length + 10 < 100000) {o : OpV} (ho : OpOk o) (hbl : ∀ b ∈ o.boxes, b.body.length < 9223372036854775808) (hw : o.who.length < 1000) (hp : o.parents.length < 1000) {it : Int → List UInt8} (hit : ∀ n ∈ numsV o, PCall Go.Proofs.Tryz.prog 67 [.lit (ji n)] (.val (.lit (tx (it n))))) (hil : ∀ n ∈ numsV o, (it n).length ≤ 30)
    (hsay : saysV o = true) {w : Nat} (hau : o.author = (w : Int)) {A ws : List AV} (hA : A.length = 8) {op : Bool} {k c : List UInt8} (hk : k.length = 32) (hc : c.length = 32)
    (hwA : A[w]? = some (.st [1, 1, 32, 32] [.lit (.bool true), .lit (.bool op), keyA k, keyA c])) (hws : ws.length < 100000) (hts : TsOk (byV it (nextV ts c).2 o).2) :
    XCall Go.Proofs.Tryz.prog 17 [freeI t.b t.l, ksA A ws, opA o] H fun r H' => r = readA (A.set w (.st [1, 1, 32, 32] [.lit (.bool true), .lit (.bool op), keyA k, keyA (nextV ts c).1.2])) ws (readV it ts o c) ∧ ∃ V', H' = tbOf H t V' (byV it (nextV ts c).2 o).2 := by
  have h514 := fc514_eq
  refine XCall.le ?_
  have hself := hh.self
  have cS := says_call ho hbl
  have l1 := nextV_len ts c
  have cN := next_k hh (ts := ts) (by omega) hA hk hc hwA hws
  have cB := by_k hh (ts := (nextV ts c).2) (by omega) ho hbl hw hp (it := it) hit hil
  have n1 : (nextV ts c).1.1.length = 32 := nameK_len _
  have n2 : (nextV ts c).1.2.length = 32 := nameK_len _
  have n3 : (byV it (nextV ts c).2 o).1.length = 32 := byV_32 _ _ _
  have cK := open_k hh hts n1 n3 (m := o.text) ho.text
  have o5 := ho.ofk
  have o6 := ho.check
  have hxt : ∀ x, openX (byV it (nextV ts c).2 o).2 (nextV ts c).1.1 (byV it (nextV ts c).2 o).1 o.text = some x → x.text.length < 100000 ∧ x.keys.length < 100000 := fun x hx => by
    unfold openX at hx
    split at hx
    · cases hx
    split at hx
    · cases hx
    split at hx
    · rename_i y hy
      split at hx
      · obtain rfl := Option.some.inj hx
        have hk := hts.ok _ (List.mem_of_getElem? hy)
        exact ⟨hk.text, hk.keys⟩
      · cases hx
    · cases hx
  rw [hsay] at cS
  unfold readV
  generalize openX (byV it (nextV ts c).2 o).2 (nextV ts c).1.1 (byV it (nextV ts c).2 o).1 o.text = X at *
  generalize byV it (nextV ts c).2 o = bv at *
  generalize nextV ts c = nv at *
  obtain ⟨⟨k1, k2⟩, ts2⟩ := nv
  obtain ⟨bk, ts3⟩ := bv
  simp only at *
  have hA1 : opA o = opB o.author o.seq o.parents o.kind (o.who.map fun x => AV.lit (ji x)) o.ofk o.check o.text (o.boxes.map fun x => boxA x) := rfl
  have haj : ji o.author = jn w := by rw [hau]; rfl
  rw [hA1] at cS cB ⊢
  unfold opB at cS cB ⊢
  rw [haj] at cS cB ⊢
  generalize (o.who.map fun x => AV.lit (ji x)) = W at *
  generalize (o.boxes.map fun x => boxA x) = B at *
  have G1 : ∀ V' ts', (tbOf H t V' ts').length = H.length := fun V' ts' => tbOf_len _ _ _ _
  have g1 : ∀ V' ts' L k, (tbOf H t V' ts' ++ L)[H.length + k]? = L[k]? := fun V' ts' L k => cat1 _ _ _ _ (G1 _ _)
  have g2 : ∀ V' ts' L k x, (tbOf H t V' ts' ++ L).set (H.length + k) x = tbOf H t V' ts' ++ L.set k x := fun V' ts' L k x => cat2 _ _ _ _ _ (G1 _ _)
  have hAs : (A.set w (.st [1, 1, 32, 32] [.lit (.bool true), .lit (.bool op), keyA k, keyA k2])).length = 8 := by rw [List.length_set]; exact hA
  unfold ksA at cN ⊢
  generalize (A.set w (.st [1, 1, 32, 32] [.lit (.bool true), .lit (.bool op), keyA k, keyA k2])) = A2 at *
  refine XCall.of h514 rfl ?_; show AC.wp _ fb514 ⟨H.length, [freeI t.b t.l, .st [528, 1] [.arr 66 A, .sl 65 ws], .st [1, 1, 1, 1, 1, 32, 32, 1, 1] [.lit (jn w), .lit (wn o.seq), .sl 32 (klA o.parents), .lit (ji o.kind), .sl 1 W, keyA o.ofk, keyA o.check, .lit (tx o.text), .sl 36 B]] ++ List.replicate (61 - 3) .any, H ++ List.replicate 61 none⟩ (fun x s => match x with | .exit _ => False | _ => ∃ s1, Le s s1 ∧ FinX [(.cell 6 .true 529), (.tmp 7), (.tmp 8)] s1 _); unfold fb514
  rw [← hself]
  rw [tbOf_len]
  generalize hN : H.length = N at *
  refine wp_sg (areg_bx rfl rfl fun l5 => areg_bx rfl (by simp [AS.ev, AV.sz]) fun l6 => areg_al' (z' := ks0) rfl fun l8 => areg_end (by simp [push_cast, g2]; exact rfl) ?_)
  refine wp_seq' (wp_sg ?_)
  refine areg_run 1 (by simp [push_cast, g1, o5, o6]; exact rfl) ?_
  unfold keyA at cS
  refine areg_ca (by simp [AS.ev, AS.coe, AS.put] <;> exact rfl) cS ?_
  refine areg_end (by simp [push_cast]; exact rfl) ?_
  refine wp_cond_f (by simp [AS.ev]) (wp_skip' (wp_sg ?_))
  refine areg_run 4 (by simp [push_cast, g1, o5, o6]; exact rfl) ?_
  refine areg_k [freeI t.b t.l, .st [528, 1] [.arr 66 A, .sl 65 ws], .lit (jn w)] hN rfl (tgt_next _ _ _) cN (by simp) (by simp) fun V2 => ?_
  refine areg_run 4 (by simp [push_cast, g1, n1, n2]; exact rfl) ?_
  refine areg_al' zk_eq.symm fun l11 => areg_end (by simp [push_cast, g1, g2, n1, n2, hA, hAs]; exact rfl) ?_
  refine wp_seq' (wp_sr (by simp [push_cast, g1]; exact rfl) ?_)
  refine wp_cond_f (by simp [AS.ev]) (wp_skip' (wp_sg ?_))
  refine areg_run 4 (by simp [push_cast, g1, g2, hAs, n1, o5, o6]; exact rfl) ?_
  unfold keyA at cB
  refine areg_k [freeI t.b t.l, .st [1, 1, 1, 1, 1, 32, 32, 1, 1] [.lit (jn w), .lit (wn o.seq), .sl 32 (klA o.parents), .lit (ji o.kind), .sl 1 W, .arr 1 (bl o.ofk), .arr 1 (bl o.check), .lit (tx o.text), .sl 36 B]] hN rfl (tgt_by _ _) cB (by simp) (by simp [AS.ev, AV.place]) fun V3 => ?_
  refine areg_run 2 (by simp [push_cast, g1, o5, o6]; exact rfl) ?_
  refine areg_rdp (us := [freeI t.b t.l]) rfl (mkfn_draw _ _ _) ?_
  refine areg_rdp (us := [.fnv (.method "Open") [freeI t.b t.l] []]) rfl (nilv_open _ _) ?_
  refine areg_run 1 (by simp [push_cast]; exact rfl) ?_
  refine areg_k [freeI t.b t.l, keyA k1, keyA bk, .lit (tx o.text)] hN rfl (tgt_openI _ _ _ _ _) cK (by simp) (by simp [AS.ev, AV.place]) fun V4 => ?_
  cases X with
  | none =>
    simp only [openA]
    refine areg_end (by simp [push_cast]; exact rfl) ?_
    refine wp_seq' (wp_sr (by simp [push_cast]; exact rfl) ?_)
    refine wp_cond_t (by simp [AS.ev]) (wp_sg ?_)
    refine areg_bd (z' := ks0) rfl ?_
    unfold ks0
    refine areg_end (by simp [push_cast, g1, g2]; exact rfl) (wp_ret' ?_)
    exact ⟨_, Le.refl _, [], _, ⟨_, rfl, by simp [AS.seals, RVals, RVal, AS.ev, AS.peek, AS.blk, g1, Blk.loc, Blk.cont, Blk.n, AV.nav, AV.isAgg, AV.isTup, AS.coe]; rfl, by simp [keyA, ks0]⟩, readA A2 ws none, _, read_no _ _, by simp [readA], HpLe.trim _ _, rfl, V4, (hh.of_of _ _ _ _).symm⟩
  | some x =>
    obtain ⟨h1, h2⟩ := hxt x rfl
    simp only [openA]
    have hkl : (klA (x.keys.drop 2)).length = (x.keys.drop 2).length := klA_len _
    have hd : (x.keys.drop 2).length < 100000 := by rw [List.length_drop]; omega
    generalize x.keys.drop 2 = ks at *
    generalize x.text = xt at *
    have hcond : (ks = [] ∧ xt.length ≤ 64) ↔ (¬ 0 < ks.length ∧ ¬ 64 < xt.length) := by rw [List.length_pos_iff]; simp
    have hfail : 0 < ks.length ∨ 64 < xt.length → (if ks = [] ∧ xt.length ≤ 64 then some xt else none) = none := fun h => if_neg (fun hc => by rw [hcond] at hc; omega)
    by_cases hp : 0 < ks.length
    · rw [hfail (.inl hp)]
      refine areg_end (by simp [push_cast]; exact rfl) ?_
      refine wp_seq' (wp_sr (by simp [push_cast, hp, hkl]; exact rfl) ?_)
      refine wp_cond_t (by simp [AS.ev]) (wp_sg ?_)
      refine areg_bd (z' := ks0) rfl ?_
      unfold ks0
      refine areg_end (by simp [push_cast, g1, g2]; exact rfl) (wp_ret' ?_)
      exact ⟨_, Le.refl _, [], _, ⟨_, rfl, by simp [AS.seals, RVals, RVal, AS.ev, AS.peek, AS.blk, g1, Blk.loc, Blk.cont, Blk.n, AV.nav, AV.isAgg, AV.isTup, AS.coe]; rfl, by simp [keyA, ks0]⟩, readA A2 ws none, _, read_no _ _, by simp [readA], HpLe.trim _ _, rfl, V4, (hh.of_of _ _ _ _).symm⟩
    by_cases hx : 64 < xt.length
    · rw [hfail (.inr hx)]
      refine areg_end (by simp [push_cast]; exact rfl) ?_
      refine wp_seq' (wp_sr (by simp [push_cast, hp, hx, hkl]; exact rfl) ?_)
      refine wp_cond_t (by simp [AS.ev]) (wp_sg ?_)
      refine areg_bd (z' := ks0) rfl ?_
      unfold ks0
      refine areg_end (by simp [push_cast, g1, g2]; exact rfl) (wp_ret' ?_)
      exact ⟨_, Le.refl _, [], _, ⟨_, rfl, by simp [AS.seals, RVals, RVal, AS.ev, AS.peek, AS.blk, g1, Blk.loc, Blk.cont, Blk.n, AV.nav, AV.isAgg, AV.isTup, AS.coe]; rfl, by simp [keyA, ks0]⟩, readA A2 ws none, _, read_no _ _, by simp [readA], HpLe.trim _ _, rfl, V4, (hh.of_of _ _ _ _).symm⟩
    rw [if_pos (hcond.2 ⟨hp, hx⟩)]
    refine areg_end (by simp [push_cast]; exact rfl) ?_
    refine wp_seq' (wp_sr (by simp [push_cast, hp, hx, hkl]; exact rfl) ?_)
    refine wp_cond_f (by simp [AS.ev]) (wp_skip' (wp_sg ?_))
    refine areg_end (by simp [push_cast, g1, g2, hAs]; exact rfl) (wp_ret' ?_)
    exact ⟨_, Le.refl _, [], _, ⟨_, rfl, by simp [AS.seals, RVals, RVal, AS.ev, AS.peek, AS.blk, g1, Blk.loc, Blk.cont, Blk.n, AV.nav, AV.isAgg, AV.isTup, AS.coe]; rfl, by simp [keyA, ksA]⟩, readA A2 ws (some xt), _, RelLe.refl _, by simp [readA], HpLe.trim _ _, rfl, V4, (hh.of_of _ _ _ _).symm⟩
end Go.Cab
namespace Go.Cab
open Go.RowKit
open Classical
set_option maxHeartbeats 16000000 in
theorem cseal_long {H : List (Option Blk)} {o : OpV} (ho : OpOk o) {A ws : List AV} (hA : A.length = 8) {b : Nat} {l : Nat × Nat} {s : List UInt8} (hs : 64 < s.length) :
    XCall Go.Proofs.Tryz.prog 9 [freeI b l, ksA A ws, opA o, .lit (tx s)] H fun r H' => r = .tup [ks0A, .lit (tx []), .lit (jn 1)] ∧ H' = H := by
  have h513 := fc513_eq
  refine XCall.le ?_
  have o5 := ho.ofk
  have o6 := ho.check
  have hA1 : opA o = opB o.author o.seq o.parents o.kind (o.who.map fun x => AV.lit (ji x)) o.ofk o.check o.text (o.boxes.map fun x => boxA x) := rfl
  rw [hA1]
  unfold opB
  generalize (o.who.map fun x => AV.lit (ji x)) = W at *
  generalize (o.boxes.map fun x => boxA x) = B at *
  have hs64 : ¬ s.length ≤ 64 := by omega
  unfold ksA at *
  refine XCall.of h513 rfl ?_; show AC.wp _ fb513 ⟨H.length, [freeI b l, .st [528, 1] [.arr 66 A, .sl 65 ws], .st [1, 1, 1, 1, 1, 32, 32, 1, 1] [.lit (ji o.author), .lit (wn o.seq), .sl 32 (klA o.parents), .lit (ji o.kind), .sl 1 W, keyA o.ofk, keyA o.check, .lit (tx o.text), .sl 36 B], .lit (tx s)] ++ List.replicate (47 - 4) .any, H ++ List.replicate 47 none⟩ (fun x s => match x with | .exit _ => False | _ => ∃ s1, Le s s1 ∧ FinX [(.cell 8 .true 529), (.tmp 9), (.tmp 10)] s1 _); unfold fb513
  have g1 : ∀ L k, (H ++ L)[H.length + k]? = L[k]? := fun L k => cat1 _ _ _ _ rfl
  have g2 : ∀ L k x, (H ++ L).set (H.length + k) x = H ++ L.set k x := fun L k x => cat2 _ _ _ _ _ rfl
  generalize hN : H.length = N at *
  refine wp_sg (areg_bx rfl rfl fun l5 => areg_bx rfl (by simp [AS.ev, AV.sz, o5, o6]) fun l6 => areg_al' (z' := ks0) rfl fun l8 => areg_end (by simp [push_cast, g2]; exact rfl) ?_)
  refine wp_sg (areg_end (by simp [push_cast, g1, g2, o5, o6]; exact rfl) ?_)
  refine wp_seq' (wp_sg ?_)
  refine areg_run 5 (by simp [push_cast, g1, o5, o6, hs, hs64]; exact rfl) ?_
  refine areg_end (by simp [push_cast, g1, o5, o6, hs, hs64]; exact rfl) ?_
  refine wp_cond_t (by simp [AS.ev]) (wp_sg ?_)
  refine areg_bd (z' := ks0) rfl ?_
  unfold ks0
  refine areg_end (by simp [push_cast, g1, g2]; exact rfl) (wp_ret' ?_)
  exact ⟨_, Le.refl _, [], _, ⟨_, rfl, by simp [AS.seals, RVals, RVal, AS.ev, AS.peek, AS.blk, g1, Blk.loc, Blk.cont, Blk.n, AV.nav, AV.isAgg, AV.isTup, AS.coe]; rfl, by simp [keyA, ks0]⟩, .tup [ks0A, .lit (tx []), .lit (jn 1)], H, RelLe.tup (AVle.tupSt ks0_le (AVle.refl _)), by simp, HpLe.trim _ _, rfl, rfl⟩
end Go.Cab
namespace Go.Cab
open Go.RowKit
open Classical
def isBoolT (o : Option TypeDesc) : Bool := match o with | some .bool => true | _ => false
def KLit (P : Program) (d : Nat) (t : TypeId) (v : AV) (l : List Lit) : Prop := v.isTup = false ∧ v.sz = P.cellsOf t ∧ ∀ (Imm : Nat → Nat → Prop) (w : World) (cs : List Value), R Imm w v cs → P.keyLits d t cs = some l
theorem mid_cut {α : Type} {pre c post : List α} {a n : Nat} (ha : pre.length = a) (hn : c.length = n) : ((pre ++ c ++ post).drop a).take n = c := by subst ha hn; simp [List.append_assoc]
theorem R.elemD {Imm : Nat → Nat → Prop} {w : World} {esz : Nat} {els : List AV} {cs : List Value} (h : R Imm w (.arr esz els) cs) (i : Nat) (f : AV) (hf : els[i]? = some f) : R Imm w f ((cs.drop (i * esz)).take esz) := by
  obtain ⟨pre, c, post, rfl, h1, h2, h3, _⟩ := R.elem h i f hf
  rw [mid_cut h1 h2]; exact h3
theorem R.fieldD {Imm : Nat → Nat → Prop} {w : World} {ns : List Nat} {fs : List AV} {cs : List Value} (h : R Imm w (.st ns fs) cs) (i n o : Nat) (f : AV) (hn : ns[i]? = some n) (hf : fs[i]? = some f) (ho : (ns.take i).sum = o) : R Imm w f ((cs.drop o).take n) := by
  obtain ⟨pre, c, post, rfl, h1, h2, h3, _⟩ := R.field h i n f hn hf
  rw [mid_cut (h1.trans ho) h2]; exact h3
theorem KLit.arr {P : Program} {d : Nat} {t e : TypeId} {n esz : Nat} {els : List AV} {ls : Nat → List Lit} (hu : P.underlying t = some (.array n e)) (hn : els.length = n) (hc : P.cellsOf t = n * esz) (he : P.cellsOf e = esz)
    (h : ∀ i v, els[i]? = some v → KLit P d e v (ls i)) : KLit P (d + 1) t (.arr esz els) ((List.range n).map ls).flatten := by
  refine ⟨rfl, by simp [AV.sz, hc, hn], fun Imm w cs hr => ?_⟩
  have hl := hr.len rfl
  unfold Program.keyLits
  simp only [hu]
  rw [if_pos (by rw [hl, hc]; simp [AV.sz, hn]), mapM_some (g := ls)]
  · rfl
  · intro i hi
    have hi' : i < n := by simpa using hi
    have hg : els[i]? = some els[i] := List.getElem?_eq_getElem (by omega)
    have := (h i _ hg).2.2 Imm w _ (hr.elemD i _ hg)
    rw [he]
    exact this
theorem KLit.bool {P : Program} {d : Nat} {t : TypeId} {b : Bool} (hu : isBoolT (P.underlying t) = true) (hc : P.cellsOf t = 1) : KLit P (d + 1) t (.lit (.bool b)) [.bool b] := by
  refine ⟨rfl, by simp [AV.sz, hc], fun Imm w cs hr => ?_⟩
  cases hr
  unfold Program.keyLits
  unfold isBoolT at hu
  split at hu
  · rename_i h; simp only [h]
  · cases hu
theorem KLit.key {d : Nat} {k : List UInt8} (hk : k.length = 32) : KLit Go.Proofs.Tryz.prog (d + 2) 23 (keyA k) ((List.range 32).map fun i => Lit.int .u8 (((k.getD i 0).toNat : Nat) : Int)) := by
  have hc : Go.Proofs.Tryz.prog.cellsOf 23 = 32 := by kernel_rfl
  refine ⟨rfl, by simp [keyA, AV.sz, bl_len, hk, hc], fun Imm w cs hr => ?_⟩
  have ex := R_bl hr
  rw [map_range, hk] at ex
  subst ex
  have lt : ∀ i, (k.getD i 0).toNat < 256 := fun i => (k.getD i 0).toNat_lt
  have hu : Go.Proofs.Tryz.prog.underlying 23 = some (.array 32 5) := by kernel_rfl
  have he : Go.Proofs.Tryz.prog.underlying 5 = some (.int .u8) := by kernel_rfl
  have h1 : Go.Proofs.Tryz.prog.cellsOf 5 = 1 := by kernel_rfl
  exact keyLits_row hu he hc h1 (fun i => (((k.getD i 0).toNat : Nat) : Int)) (fun i _ => wf_bn (lt i)) d
theorem KLit.eq {P : Program} {t : TypeId} {D : Nat} {v : AV} {l : List Lit} (h : KLit P D t v l) (hf : ∀ cs : List Value, cs.length = v.sz → (asVal v cs).formed P t = true) : EqAV P t v v true := fun Imm w cs cs' h1 h2 => by
  have e1 := h.2.2 Imm w cs h1
  have e2 := h.2.2 Imm w cs' h2
  exact ⟨D, D, l, l, hf _ (h1.len h.1), hf _ (h2.len h.1), e1, e2, by simp⟩
theorem four_fields {P : Program} {o : Option TypeDesc} {tk : TypeId} (h : (match o with | some (.struct fs) => (match fs.toList with | [a, b, c, d] => isBoolT (P.underlying a.type) && P.cellsOf a.type == 1 && a.type == b.type && c.type == tk && d.type == tk && a.offset == 0 && b.offset == 1 && c.offset == 2 && d.offset == 34 && fs.all (·.name != "_") | _ => false) | _ => false) = true) :
    ∃ (fs : Array Field) (a b c d : Field), o = some (.struct fs) ∧ fs.toList = [a, b, c, d] ∧ fs.all (·.name != "_") = true ∧ isBoolT (P.underlying a.type) = true ∧ P.cellsOf a.type = 1 ∧ b.type = a.type ∧ c.type = tk ∧ d.type = tk ∧ a.offset = 0 ∧ b.offset = 1 ∧ c.offset = 2 ∧ d.offset = 34 := by
  split at h
  · rename_i fs
    split at h
    · rename_i a b c d e
      simp only [Bool.and_eq_true, beq_iff_eq] at h
      exact ⟨fs, a, b, c, d, rfl, e, h.2, h.1.1.1.1.1.1.1.1.1, h.1.1.1.1.1.1.1.1.2, h.1.1.1.1.1.1.1.2.symm, h.1.1.1.1.1.1.2, h.1.1.1.1.1.2, h.1.1.1.1.2, h.1.1.1.2, h.1.1.2, h.1.2⟩
    · cases h
  · cases h
def litK (k : List UInt8) : List Lit := (List.range 32).map fun i => Lit.int .u8 (((k.getD i 0).toNat : Nat) : Int)
theorem KLit.rat {d : Nat} {a b : Bool} {k c : List UInt8} (hk : k.length = 32) (hc : c.length = 32) : KLit Go.Proofs.Tryz.prog (d + 3) 25 (.st [1, 1, 32, 32] [.lit (.bool a), .lit (.bool b), keyA k, keyA c]) ([.bool a] ++ ([.bool b] ++ (litK k ++ litK c))) := by
  obtain ⟨fs, f1, f2, f3, f4, hu, hl, hall, hb, h1, t2, t3, t4, o1, o2, o3, o4⟩ := four_fields (P := Go.Proofs.Tryz.prog) (o := Go.Proofs.Tryz.prog.underlying 25) (tk := 23) (by kernel_rfl)
  have hcr : Go.Proofs.Tryz.prog.cellsOf 25 = 66 := by kernel_rfl
  have hck : Go.Proofs.Tryz.prog.cellsOf 23 = 32 := by kernel_rfl
  refine ⟨rfl, by rw [hcr]; simp [AV.sz], fun Imm w cs hr => ?_⟩
  have hlen := hr.len rfl
  have r1 := hr.fieldD 0 1 0 _ rfl rfl (by simp)
  have r2 := hr.fieldD 1 1 1 _ rfl rfl (by simp)
  have r3 := hr.fieldD 2 32 2 _ rfl rfl (by simp)
  have r4 := hr.fieldD 3 32 34 _ rfl rfl (by simp)
  have k1 := (KLit.bool (d := d + 1) (b := a) hb h1).2.2 Imm w _ r1
  have k2 := (KLit.bool (d := d + 1) (b := b) hb h1).2.2 Imm w _ r2
  have k3 := (KLit.key (d := d) hk).2.2 Imm w _ r3
  have k4 := (KLit.key (d := d) hc).2.2 Imm w _ r4
  unfold Program.keyLits
  simp only [hu]
  rw [if_pos ⟨by rw [hlen, hcr]; simp [AV.sz], hall⟩, hl]
  simp only [List.mapM_cons, List.mapM_nil, t2, t3, t4, o1, o2, o3, o4, h1, hck, k1, k2, k3, k4]
  simp [litK]
def RatOk (v : AV) : Prop := ∃ (a b : Bool) (k c : List UInt8), k.length = 32 ∧ c.length = 32 ∧ v = .st [1, 1, 32, 32] [.lit (.bool a), .lit (.bool b), keyA k, keyA c]
theorem eq_rats {A : List AV} (hA : A.length = 8) (h : ∀ v ∈ A, RatOk v) : EqAV Go.Proofs.Tryz.prog 26 (.arr 66 A) (.arr 66 A) true := by
  have hu : Go.Proofs.Tryz.prog.underlying 26 = some (.array 8 25) := by kernel_rfl
  have hc : Go.Proofs.Tryz.prog.cellsOf 26 = 8 * 66 := by kernel_rfl
  have he : Go.Proofs.Tryz.prog.cellsOf 25 = 66 := by kernel_rfl
  have hx : ∀ i : Nat, ∃ l : List Lit, ∀ v, A[i]? = some v → KLit Go.Proofs.Tryz.prog 3 25 v l := fun i => by
    cases hv : A[i]? with
    | none => exact ⟨[], fun v h => by cases h⟩
    | some v =>
      obtain ⟨a, b, k, c, h1, h2, rfl⟩ := h v (List.mem_of_getElem? hv)
      exact ⟨_, fun v h => by obtain rfl := Option.some.inj h; exact KLit.rat (d := 0) h1 h2⟩
  have hl : ∀ (i : Nat) (v : AV), A[i]? = some v → KLit Go.Proofs.Tryz.prog 3 25 v ((hx i).choose) := fun i => (hx i).choose_spec
  refine (KLit.arr hu hA hc he (ls := fun i => (hx i).choose) hl).eq fun cs hcs => ?_
  simp only [AV.sz, hA] at hcs
  simp only [asVal, Value.formed, hu]
  simp [hc, hcs]
theorem r0A_ok : RatOk r0A := ⟨false, false, zk, zk, zk_len, zk_len, rfl⟩
end Go.Cab
namespace Go.Cab
open Go.RowKit
open Classical
theorem nextN_k {H : List (Option Blk)} {t : Tb} {V0 : Value} {ts0 ts : List Term} (hh : TbOk H t V0 ts0) {A ws : List AV} {w : Nat} (hA : A.length = 8) {op : Bool} {k c : List UInt8} (hk : k.length = 32) (hc : c.length = 32)
    (hw : A[w]? = some (.st [1, 1, 32, 32] [.lit (.bool false), .lit (.bool op), keyA k, keyA c])) :
    KC Go.Proofs.Tryz.prog 25 [freeI t.b t.l, ksA A ws, .lit (jn w)] H t ts (.tup [ks0A, keyA zk, .lit (jn 18)]) ts :=
  KC.of hh fun H V h => XCall.mono (next_none h hA hk hc hw) fun r H' hr => ⟨hr.1, V, by rw [hr.2, h.self]⟩
set_option maxHeartbeats 16000000 in
theorem copen_none {H : List (Option Blk)} {t : Tb} {V : Value} {ts : List Term} (hh : TbOk H t V ts) {o : OpV} (ho : OpOk o) (hbl : ∀ b ∈ o.boxes, b.body.length < 9223372036854775808)
    (hsay : saysV o = true) {w : Nat} (hau : o.author = (w : Int)) {A ws : List AV} (hA : A.length = 8) {op : Bool} {k c : List UInt8} (hk : k.length = 32) (hc : c.length = 32)
    (hwA : A[w]? = some (.st [1, 1, 32, 32] [.lit (.bool false), .lit (.bool op), keyA k, keyA c])) :
    XCall Go.Proofs.Tryz.prog 17 [freeI t.b t.l, ksA A ws, opA o] H fun r H' => r = .tup [ks0A, .lit (tx []), .lit (jn 18)] ∧ ∃ V', H' = tbOf H t V' ts := by
  have h514 := fc514_eq
  refine XCall.le ?_
  have hself := hh.self
  have cS := says_call ho hbl
  have cN := nextN_k hh (ts := ts) (ws := ws) hA hk hc hwA
  have o5 := ho.ofk
  have o6 := ho.check
  rw [hsay] at cS
  have hA1 : opA o = opB o.author o.seq o.parents o.kind (o.who.map fun x => AV.lit (ji x)) o.ofk o.check o.text (o.boxes.map fun x => boxA x) := rfl
  have haj : ji o.author = jn w := by rw [hau]; rfl
  rw [hA1] at cS ⊢
  unfold opB at cS ⊢
  rw [haj] at cS ⊢
  generalize (o.who.map fun x => AV.lit (ji x)) = W at *
  generalize (o.boxes.map fun x => boxA x) = B at *
  have G1 : ∀ V' ts', (tbOf H t V' ts').length = H.length := fun V' ts' => tbOf_len _ _ _ _
  have g1 : ∀ V' ts' L k, (tbOf H t V' ts' ++ L)[H.length + k]? = L[k]? := fun V' ts' L k => cat1 _ _ _ _ (G1 _ _)
  have g2 : ∀ V' ts' L k x, (tbOf H t V' ts' ++ L).set (H.length + k) x = tbOf H t V' ts' ++ L.set k x := fun V' ts' L k x => cat2 _ _ _ _ _ (G1 _ _)
  unfold ks0A ksA at *
  refine XCall.of h514 rfl ?_; show AC.wp _ fb514 ⟨H.length, [freeI t.b t.l, .st [528, 1] [.arr 66 A, .sl 65 ws], .st [1, 1, 1, 1, 1, 32, 32, 1, 1] [.lit (jn w), .lit (wn o.seq), .sl 32 (klA o.parents), .lit (ji o.kind), .sl 1 W, keyA o.ofk, keyA o.check, .lit (tx o.text), .sl 36 B]] ++ List.replicate (61 - 3) .any, H ++ List.replicate 61 none⟩ (fun x s => match x with | .exit _ => False | _ => ∃ s1, Le s s1 ∧ FinX [(.cell 6 .true 529), (.tmp 7), (.tmp 8)] s1 _); unfold fb514
  rw [← hself]
  rw [tbOf_len]
  generalize hN : H.length = N at *
  refine wp_sg (areg_bx rfl rfl fun l5 => areg_bx rfl (by simp [AS.ev, AV.sz]) fun l6 => areg_al' (z' := ks0) rfl fun l8 => areg_end (by simp [push_cast, g2]; exact rfl) ?_)
  refine wp_seq' (wp_sg ?_)
  refine areg_run 1 (by simp [push_cast, g1, o5, o6]; exact rfl) ?_
  unfold keyA at cS
  refine areg_ca (by simp [AS.ev, AS.coe, AS.put] <;> exact rfl) cS ?_
  refine areg_end (by simp [push_cast]; exact rfl) ?_
  refine wp_cond_f (by simp [AS.ev]) (wp_skip' (wp_sg ?_))
  refine areg_run 4 (by simp [push_cast, g1, o5, o6]; exact rfl) ?_
  refine areg_k [freeI t.b t.l, .st [528, 1] [.arr 66 A, .sl 65 ws], .lit (jn w)] hN rfl (tgt_next _ _ _) cN (by simp) (by simp) fun V2 => ?_
  refine areg_run 4 (by simp [push_cast, g1]; exact rfl) ?_
  refine areg_al' zk_eq.symm fun l11 => areg_end (by simp [push_cast, g1, g2, zk_len, hA]; exact rfl) ?_
  refine wp_seq' (wp_sr (by simp [push_cast, g1]; exact rfl) ?_)
  refine wp_cond_t (by simp [AS.ev]) (wp_sr (by simp [push_cast, g1, g2]; exact rfl) (wp_ret' ?_))
  exact ⟨_, Le.refl _, [], _, ⟨_, rfl, by simp [AS.seals, RVals, RVal, AS.ev, AS.peek, AS.blk, g1, Blk.loc, Blk.cont, Blk.n, AV.nav, AV.isAgg, AV.isTup, AS.coe]; rfl, by simp [keyA]⟩, .tup [.st [528, 1] [.arr 66 [r0A, r0A, r0A, r0A, r0A, r0A, r0A, r0A], .sl 65 []], .lit (tx []), .lit (jn 18)], _, RelLe.refl _, by simp, HpLe.trim _ _, rfl, V2, (hh.of_of _ _ _ _).symm⟩
end Go.Cab
namespace Go.Cab
open Classical
def itD (x : Int) : List UInt8 := dec2 x.toNat
theorem itD_len (n : Int) : (itD n).length ≤ 30 := Nat.le_trans (dec2_len _) (by omega)
theorem sayO_ok {n : Nat} (hn : n < 100) {m : List UInt8} (hm : m.length < 9223372036854775808) : OpOk (sayO n m) :=
  ⟨by simp [sayO]; omega, by simp [sayO], by simp [sayO, key1], by simp [sayO], zk_len, zk_len, hm, by simp [sayO], fun b hb => by
    simp only [sayO, List.mem_singleton] at hb
    subst hb
    exact ⟨zk_len, by simp, by simp⟩⟩
theorem sayO_says {n : Nat} (h0 : 0 < n) {m : List UInt8} (h1 : 0 < m.length) (h2 : m.length ≤ 256) : saysV (sayO n m) = true := by
  have h3 : ¬ 256 < m.length := by omega
  have h4 : n ≠ 0 := by omega
  simp [saysV, rightV, c1V, c2V, c3V, whoV, boxesV, badBox, memB, risV, sayO, h1, h3, h4]
def sT1 (c : List UInt8) : Term := ⟨2, txSay ++ [47, 49], [c]⟩
def sT2 (c : List UInt8) : Term := ⟨2, txSay ++ [47, 50], [c]⟩
theorem sT1_ok {c : List UInt8} (h : c.length = 32) : TermOk (sT1 c) := ⟨by simp [sT1], by simp [sT1, txSay], by simp [sT1], by simp [sT1, h]⟩
theorem sT2_ok {c : List UInt8} (h : c.length = 32) : TermOk (sT2 c) := ⟨by simp [sT2], by simp [sT2, txSay], by simp [sT2], by simp [sT2, h]⟩
theorem nextV_eq (ts : List Term) (c : List UInt8) : nextV ts c = ((nameK (putN ts (sT1 c)), nameK (putN (putT ts (sT1 c)) (sT2 c))), putT (putT ts (sT1 c)) (sT2 c)) := rfl
theorem nextV_nm (ts : List Term) (c : List UInt8) : Nm (nextV ts c).2 (sT1 c) (nextV ts c).1.1 ∧ Nm (nextV ts c).2 (sT2 c) (nextV ts c).1.2 ∧ ts <+: (nextV ts c).2 :=
  ⟨(Nm.put ts (sT1 c)).mono (put_pre _ _), Nm.put _ _, (put_pre _ _).trans (put_pre _ _)⟩
theorem nextV_again {us : List Term} {c a b : List UInt8} (h1 : Nm us (sT1 c) a) (h2 : Nm us (sT2 c) b) : nextV us c = ((a, b), us) := by
  rw [nextV_eq, h1.putT, h1.putN, h2.putT, h2.putN]
theorem byV_nm {it : Int → List UInt8} {ts : List Term} {o : OpV} (h : rightV o = true) : Nm (byV it ts o).2 (byT it o) (byV it ts o).1 ∧ ts <+: (byV it ts o).2 := by
  unfold byV
  rw [if_pos h]
  exact ⟨Nm.put _ _, put_pre _ _⟩
theorem byV_again {it : Int → List UInt8} {us : List Term} {o : OpV} {a : List UInt8} (h : rightV o = true) (g : Nm us (byT it o) a) : byV it us o = (a, us) := by
  unfold byV
  rw [if_pos h, g.putT, g.putN]
theorem says_right {o : OpV} (h : saysV o = true) : rightV o = true := by
  unfold saysV at h
  simp at h
  exact h.1
theorem openX_nm {ts : List Term} (hts : TsOk ts) {x : Term} (hx : TermOk x) {k b m : List UInt8} (h : Nm ts x m) : openX ts k b m = if x.kind = 6 ∧ x.keys.getD 0 zk = k ∧ x.keys.getD 1 zk = b then some x else none := by
  have hm := h.len
  obtain ⟨n, rfl, hi⟩ := h
  have hl := hi.lt
  have hl2 := hts.len
  have hb : be32 (nameK n) = n := be32_name (by omega)
  have hg := hi.get hts hx
  unfold openX
  rw [if_neg (by simp [hm]), hb, if_neg (show ¬ (ts.length ≤ n ∨ nameK n ≠ nameK n) from fun h => h.elim (fun h => by omega) (fun h => h rfl)), hg]
def ChOk (ts : List Term) (c : List UInt8) : Prop := ∃ x, TermOk x ∧ Nm ts x c ∧ x ≠ sT2 c
theorem ChOk.len {ts : List Term} {c : List UInt8} (h : ChOk ts c) : c.length = 32 := by obtain ⟨x, _, h, _⟩ := h; exact h.len
theorem ChOk.mono {ts us : List Term} {c : List UInt8} (h : ChOk ts c) (p : ts <+: us) : ChOk us c := by
  obtain ⟨x, h1, h2, h3⟩ := h
  exact ⟨x, h1, h2.mono p, h3⟩
theorem ChOk.next {us : List Term} (hus : TsOk us) {c d : List UInt8} (h : ChOk us c) (hd : Nm us (sT2 c) d) : d ≠ c ∧ ChOk us d := by
  obtain ⟨x, h1, h2, h3⟩ := h
  have hc := h2.len
  have hne : d ≠ c := fun e => by
    subst e
    exact h3 (h2.inj hd hus h1 (sT2_ok hc))
  refine ⟨hne, sT2 c, sT2_ok hc, hd, fun e => ?_⟩
  simp [sT2] at e
  exact hne e.symm
theorem nextV_ok {ts : List Term} (hts : TsOk ts) (hl : ts.length + 2 < 90000) {c : List UInt8} (hc : c.length = 32) : TsOk (nextV ts c).2 := by
  rw [nextV_eq]
  have h := putT_len ts (sT1 c)
  exact (hts.put (sT1_ok hc) ⟨by simp [sT1], by simp [sT1]⟩ (by omega)).put (sT2_ok hc) ⟨by simp [sT2], by simp [sT2]⟩ (by omega)
theorem byT_ok {o : OpV} (ho : OpOk o) (hw : o.who.length < 1000) (hp : o.parents.length < 1000) : TermOk (byT itD o) := by
  refine ⟨by simp [byT], labelT_len ho (fun n _ => itD_len n) hw, by simp [byT]; omega, fun k hk => ?_⟩
  simp only [byT, List.mem_append, List.mem_cons, List.not_mem_nil, or_false] at hk
  rcases hk with hk | rfl | rfl
  · exact ho.p32 k hk
  · exact ho.ofk
  · exact zk_len
theorem byV_ok {ts : List Term} (hts : TsOk ts) (hl : ts.length + 1 < 90000) {o : OpV} (ho : OpOk o) (hw : o.who.length < 1000) (hp : o.parents.length < 1000) (hr : rightV o = true) : TsOk (byV itD ts o).2 := by
  unfold byV
  rw [if_pos hr]
  exact hts.put (byT_ok ho hw hp) ⟨by simp [byT], by simp [byT]⟩ hl
theorem sealT_ok {k b s : List UInt8} (hk : k.length = 32) (hb : b.length = 32) (hs : s.length < 100000) : TermOk (sealT k b s) := ⟨by simp [sealT], hs, by simp [sealT], by simp [sealT, hk, hb]⟩
set_option maxHeartbeats 1000000 in
theorem talk_law {ts : List Term} (hts : TsOk ts) (hl : ts.length + 20 < 90000) {c : List UInt8} (hc : ChOk ts c) {n : Nat} (h0 : 0 < n) (h1 : n < 100) {s : List UInt8} (hs : s.length ≤ 64) {m d : List UInt8} {us : List Term}
    (hm : msgV itD ts (sayO n []) c s = (m, us)) (hd : (nextV ts c).1.2 = d) :
    m.length = 32 ∧ ts <+: us ∧ TsOk us ∧ us.length ≤ ts.length + 4 ∧ readV itD us (sayO n m) c = some s ∧ (byV itD (nextV us c).2 (sayO n m)).2 = us ∧ (nextV us c).1.2 = d ∧
      ChOk us d ∧ readV itD us (sayO n m) d = none := by
  have hc32 := hc.len
  obtain ⟨a1, a2, a3⟩ := nextV_nm ts c
  have a4 := nextV_ok hts (by omega) hc32
  have a5 := nextV_len ts c
  have ho : OpOk (sayO n txX) := sayO_ok h1 (by simp [txX])
  have hr := says_right (sayO_says h0 (m := txX) (by simp [txX]) (by simp [txX]))
  obtain ⟨b1, b2⟩ := byV_nm (it := itD) (ts := (nextV ts c).2) hr
  have b4 := byV_ok a4 (by omega) ho (by simp [sayO]) (by simp [sayO]) hr
  have b5 := byV_len itD (nextV ts c).2 (sayO n txX)
  have hmv : msgV itD ts (sayO n []) c s = (nameK (putN (byV itD (nextV ts c).2 (sayO n txX)).2 (sealT (nextV ts c).1.1 (byV itD (nextV ts c).2 (sayO n txX)).1 s)), putT (byV itD (nextV ts c).2 (sayO n txX)).2 (sealT (nextV ts c).1.1 (byV itD (nextV ts c).2 (sayO n txX)).1 s)) := rfl
  rw [hmv] at hm
  clear hmv
  rw [hd] at a2
  generalize byV itD (nextV ts c).2 (sayO n txX) = bv at *
  obtain ⟨bk, t2⟩ := bv
  simp only at b1 b2 b4 b5 hm
  generalize (nextV ts c).2 = t1 at *
  generalize (nextV ts c).1.1 = k1 at *
  have hso := sealT_ok (s := s) a1.len b1.len (by omega)
  have c1 := Nm.put t2 (sealT k1 bk s)
  have c2 := put_pre t2 (sealT k1 bk s)
  have c4 := b4.put hso ⟨by simp [sealT], by simp [sealT]⟩ (by omega)
  have c5 := putT_len t2 (sealT k1 bk s)
  rw [Prod.mk.injEq] at hm
  obtain ⟨hm1, hm2⟩ := hm
  rw [hm1, hm2] at c1
  rw [hm2] at c2 c4 c5
  have hml := c1.len
  have hr2 := says_right (sayO_says h0 (m := m) (by omega) (by omega))
  have e1 := nextV_again ((a1.mono b2).mono c2) ((a2.mono b2).mono c2)
  have e2 := byV_again (it := itD) (o := sayO n m) hr2 (b1.mono c2)
  have hch := (hc.mono ((a3.trans b2).trans c2)).next c4 ((a2.mono b2).mono c2)
  refine ⟨hml, (a3.trans b2).trans c2, c4, by omega, ?_, ?_, ?_, hch.2, ?_⟩
  · unfold readV
    rw [e1]
    simp only
    rw [e2]
    show (match openX us k1 bk m with | some x => if x.keys.drop 2 = [] ∧ x.text.length ≤ 64 then some x.text else none | none => none) = some s
    rw [openX_nm c4 hso c1, if_pos ⟨rfl, rfl, rfl⟩]
    exact if_pos ⟨rfl, hs⟩
  · rw [e1]
    simp only
    rw [e2]
  · rw [e1]
  · have hd32 := hch.2.len
    obtain ⟨f1, f2, f3⟩ := nextV_nm us d
    have f4 := nextV_ok c4 (by omega) hd32
    unfold readV
    generalize (nextV us d).2 = t3 at *
    generalize (nextV us d).1.1 = k3 at *
    rw [byV_again (it := itD) (o := sayO n m) hr2 ((b1.mono c2).mono f3)]
    show (match openX t3 k3 bk m with | some x => if x.keys.drop 2 = [] ∧ x.text.length ≤ 64 then some x.text else none | none => none) = none
    rw [openX_nm f4 hso (c1.mono f3), if_neg]
    rintro ⟨_, hk, _⟩
    have hk' : k1 = k3 := hk
    subst hk'
    have := (((a1.mono b2).mono c2).mono f3).inj f1 f4 (sT1_ok hc32) (sT1_ok hd32)
    simp [sT1] at this
    exact hch.1 this.symm
end Go.Cab
namespace Go.Cab
open Go.RowKit
open Classical
def fb510 : AC := (.seq (.reg [⟨some 0, none, .mov (.const (.bool false)), [], none⟩]) (.seq (.reg [⟨some 16, none, .xc (.dir 7) [] [] [], [], none⟩, ⟨some 1, none, .alloc 1 (.st [1] [(.lit (.pointer .none))]), [], none⟩, ⟨none, none, .store 1 (.tmp 1) (.tmp 16), [], none⟩]) (.seq (.reg [⟨some 17, none, .faddr 0 0 (.tmp 1), [], none⟩, ⟨some 18, none, .load false 1 (.tmp 17), [], none⟩, ⟨some 19, none, .icall 20 (.tmp 18) [(.const (tx [99]))], [], none⟩, ⟨some 20, none, .call 19 [.tmp 19], [], none⟩, ⟨some 2, none, .alloc 529 (.st [528, 1] [(.arr 66 (List.replicate 8 (.st [1, 1, 32, 32] [(.lit (.bool false)), (.lit (.bool false)), (.arr 1 (List.replicate 32 (.lit (bn 0)))), (.arr 1 (List.replicate 32 (.lit (bn 0))))]))), (.lit (.slice .none 0 0))]), [], none⟩, ⟨none, none, .store 529 (.tmp 2) (.tmp 20), [], none⟩]) (.seq (.reg [⟨some 21, none, .call 21 [(.const (wn 1))], [], none⟩, ⟨some 3, none, .alloc 71 (.st [1, 1, 1, 1, 1, 32, 32, 1, 1] [(.lit (jn 0)), (.lit (wn 0)), (.lit (.slice .none 0 0)), (.lit (jn 0)), (.lit (.slice .none 0 0)), (.arr 1 (List.replicate 32 (.lit (bn 0)))), (.arr 1 (List.replicate 32 (.lit (bn 0)))), (.lit (tx [])), (.lit (.slice .none 0 0))]), [], none⟩, ⟨none, none, .store 71 (.tmp 3) (.tmp 21), [], none⟩]) (.seq (.reg [⟨some 23, none, .load true 1 (.tmp 1), [], none⟩, ⟨some 24, none, .rdp (.mkifc 40) [.tmp 23], [], none⟩, ⟨some 25, none, .load true 529 (.tmp 2), [], none⟩, ⟨some 26, none, .load true 71 (.tmp 3), [], none⟩, ⟨some 27, none, .xc (.dir 9) [(.tmp 24), (.tmp 25), (.tmp 26), (.const (tx [116, 101, 120, 116]))] [] [], [], none⟩, ⟨some 22, none, .mov (.tmp 27), [], none⟩, ⟨some 28, none, .ext (.tmp 22) 0, [], none⟩, ⟨some 29, none, .ext (.tmp 22) 1, [], none⟩, ⟨some 30, none, .ext (.tmp 22) 2, [], none⟩, ⟨some 4, none, .alloc 529 (.st [528, 1] [(.arr 66 (List.replicate 8 (.st [1, 1, 32, 32] [(.lit (.bool false)), (.lit (.bool false)), (.arr 1 (List.replicate 32 (.lit (bn 0)))), (.arr 1 (List.replicate 32 (.lit (bn 0))))]))), (.lit (.slice .none 0 0))]), [], none⟩, ⟨none, none, .store 529 (.tmp 4) (.tmp 28), [], none⟩, ⟨some 5, none, .mov (.tmp 29), [], none⟩, ⟨some 6, none, .mov (.tmp 30), [], none⟩]) (.seq (.reg [⟨some 31, none, .mov (.tmp 5), [], none⟩, ⟨some 32, none, .faddr 69 7 (.tmp 3), [], none⟩, ⟨none, none, .store 1 (.tmp 32) (.tmp 31), [], none⟩]) (.seq (.reg [⟨some 34, none, .load true 1 (.tmp 1), [], none⟩, ⟨some 35, none, .rdp (.mkifc 40) [.tmp 34], [], none⟩, ⟨some 36, none, .load true 529 (.tmp 2), [], none⟩, ⟨some 37, none, .load true 71 (.tmp 3), [], none⟩, ⟨some 38, none, .xc (.dir 17) [.tmp 35, .tmp 36, .tmp 37] [] [], [], none⟩, ⟨some 33, none, .mov (.tmp 38), [], none⟩, ⟨some 39, none, .ext (.tmp 33) 0, [], none⟩, ⟨some 40, none, .ext (.tmp 33) 1, [], none⟩, ⟨some 41, none, .ext (.tmp 33) 2, [], none⟩, ⟨some 7, none, .alloc 529 (.st [528, 1] [(.arr 66 (List.replicate 8 (.st [1, 1, 32, 32] [(.lit (.bool false)), (.lit (.bool false)), (.arr 1 (List.replicate 32 (.lit (bn 0)))), (.arr 1 (List.replicate 32 (.lit (bn 0))))]))), (.lit (.slice .none 0 0))]), [], none⟩, ⟨none, none, .store 529 (.tmp 7) (.tmp 39), [], none⟩, ⟨some 8, none, .mov (.tmp 40), [], none⟩, ⟨some 9, none, .mov (.tmp 41), [], none⟩]) (.seq (.reg [⟨some 43, none, .load true 1 (.tmp 1), [], none⟩, ⟨some 44, none, .rdp (.mkifc 40) [.tmp 43], [], none⟩, ⟨some 45, none, .load true 529 (.tmp 7), [], none⟩, ⟨some 46, none, .load true 71 (.tmp 3), [], none⟩, ⟨some 47, none, .xc (.dir 17) [.tmp 44, .tmp 45, .tmp 46] [] [], [], none⟩, ⟨some 42, none, .mov (.tmp 47), [], none⟩, ⟨some 48, none, .ext (.tmp 42) 0, [], none⟩, ⟨some 49, none, .ext (.tmp 42) 1, [], none⟩, ⟨some 50, none, .ext (.tmp 42) 2, [], none⟩, ⟨some 10, none, .alloc 529 (.st [528, 1] [(.arr 66 (List.replicate 8 (.st [1, 1, 32, 32] [(.lit (.bool false)), (.lit (.bool false)), (.arr 1 (List.replicate 32 (.lit (bn 0)))), (.arr 1 (List.replicate 32 (.lit (bn 0))))]))), (.lit (.slice .none 0 0))]), [], none⟩, ⟨none, none, .store 529 (.tmp 10) (.tmp 48), [], none⟩, ⟨some 11, none, .mov (.tmp 49), [], none⟩, ⟨some 12, none, .mov (.tmp 50), [], none⟩]) (.seq (.reg [⟨some 52, none, .load true 1 (.tmp 1), [], none⟩, ⟨some 53, none, .rdp (.mkifc 40) [.tmp 52], [], none⟩, ⟨some 54, none, .build (.st [528, 1] [(.arr 66 (List.replicate 8 (.st [1, 1, 32, 32] [(.lit (.bool false)), (.lit (.bool false)), (.arr 1 (List.replicate 32 (.lit (bn 0)))), (.arr 1 (List.replicate 32 (.lit (bn 0))))]))), (.lit (.slice .none 0 0))]) [], [], none⟩, ⟨some 55, none, .load true 71 (.tmp 3), [], none⟩, ⟨some 56, none, .xc (.dir 17) [.tmp 53, .tmp 54, .tmp 55] [] [], [], none⟩, ⟨some 51, none, .mov (.tmp 56), [], none⟩, ⟨some 57, none, .ext (.tmp 51) 0, [], none⟩, ⟨some 58, none, .ext (.tmp 51) 1, [], none⟩, ⟨some 59, none, .ext (.tmp 51) 2, [], none⟩, ⟨some 13, none, .alloc 529 (.st [528, 1] [(.arr 66 (List.replicate 8 (.st [1, 1, 32, 32] [(.lit (.bool false)), (.lit (.bool false)), (.arr 1 (List.replicate 32 (.lit (bn 0)))), (.arr 1 (List.replicate 32 (.lit (bn 0))))]))), (.lit (.slice .none 0 0))]), [], none⟩, ⟨none, none, .store 529 (.tmp 13) (.tmp 57), [], none⟩, ⟨some 14, none, .mov (.tmp 58), [], none⟩, ⟨some 15, none, .mov (.tmp 59), [], none⟩]) (.seq (.reg [⟨some 60, none, .mov (.tmp 6), [], none⟩, ⟨some 61, none, .bin .eql (.tmp 60) (.const (jn 0)), [], none⟩, ⟨some 62, none, .mov (.tmp 61), [], none⟩, ⟨some 63, some (62, true), .mov (.tmp 9), [], none⟩, ⟨some 64, some (62, true), .bin .eql (.tmp 63) (.const (jn 0)), [], none⟩, ⟨some 65, none, .pick (.tmp 62) (.tmp 64) (.const (.bool false)), [], none⟩, ⟨some 66, none, .mov (.tmp 65), [], none⟩, ⟨some 67, some (66, true), .mov (.tmp 8), [], none⟩, ⟨some 68, some (66, true), .bin .eql (.tmp 67) (.const (tx [116, 101, 120, 116])), [], none⟩, ⟨some 69, none, .pick (.tmp 66) (.tmp 68) (.const (.bool false)), [], none⟩, ⟨some 70, none, .mov (.tmp 69), [], none⟩, ⟨some 71, some (70, true), .faddr 0 0 (.tmp 4), [], none⟩, ⟨some 72, some (70, true), .load true 528 (.tmp 71), [], none⟩, ⟨some 73, some (70, true), .faddr 0 0 (.tmp 7), [], none⟩, ⟨some 74, some (70, true), .load true 528 (.tmp 73), [], none⟩, ⟨some 75, some (70, true), .eqv 26 false (.tmp 72) (.tmp 74), [], none⟩, ⟨some 76, none, .pick (.tmp 70) (.tmp 75) (.const (.bool false)), [], none⟩, ⟨some 77, none, .mov (.tmp 76), [], none⟩, ⟨some 78, some (77, true), .mov (.tmp 12), [], none⟩, ⟨some 79, some (77, true), .bin .eql (.tmp 78) (.const (jn 2)), [], none⟩, ⟨some 80, none, .pick (.tmp 77) (.tmp 79) (.const (.bool false)), [], none⟩, ⟨some 81, none, .mov (.tmp 80), [], none⟩, ⟨some 82, some (81, true), .mov (.tmp 15), [], none⟩, ⟨some 83, some (81, true), .bin .eql (.tmp 82) (.const (jn 18)), [], none⟩, ⟨some 84, none, .pick (.tmp 81) (.tmp 83) (.const (.bool false)), [], none⟩, ⟨some 0, none, .mov (.tmp 84), [], none⟩]) .ret))))))))))
def fc510 : FC := ⟨0, 85, [(.tmp 0)], fb510⟩
theorem fc510_eq : compF Go.Proofs.Tryz.prog 5 = some fc510 := by kernel_rfl
theorem mkifc_free (b : Nat) (l : Nat × Nat) : rdA Go.Proofs.Tryz.prog (fun _ => none) (.mkifc 40) [freeS b l] = some (freeI b l) := by kernel_rfl
theorem freeS_sz (b : Nat) (l : Nat × Nat) : (freeS b l).sz = 1 := rfl
theorem freeS_agg (b : Nat) (l : Nat × Nat) : (freeS b l).isAgg = true := rfl
theorem freeS_tup (b : Nat) (l : Nat × Nat) : (freeS b l).isTup = false := rfl
theorem tgt_cseal (x y z u : AV) : tgtA Go.Proofs.Tryz.prog (.dir 9) [x, y, z, u] = some (9, [x, y, z, u]) := by kernel_rfl
theorem tgt_copen (x y z : AV) : tgtA Go.Proofs.Tryz.prog (.dir 17) [x, y, z] = some (17, [x, y, z]) := by kernel_rfl
theorem hitD {n : Nat} (hn : n < 100) (m : List UInt8) : ∀ x ∈ numsV (sayO n m), PCall Go.Proofs.Tryz.prog 67 [.lit (ji x)] (.val (.lit (tx (itD x)))) := fun x hx => by
  have hx' : x = 7 ∨ x = 1 ∨ x = (n : Int) := by simpa [numsV, sayO] using hx
  rcases hx' with rfl | rfl | rfl
  · exact itoa_call 7 (by omega)
  · exact itoa_call 1 (by omega)
  · exact itoa_call n hn
def ratL (c : List UInt8) : List AV := [r0A, .st [1, 1, 32, 32] [.lit (.bool true), .lit (.bool false), keyA key2, keyA c], r0A, r0A, r0A, r0A, r0A, r0A]
theorem ratL_len (c : List UInt8) : (ratL c).length = 8 := rfl
theorem ratL_ok {c : List UInt8} (hc : c.length = 32) : ∀ v ∈ ratL c, RatOk v := fun v hv => by
  simp only [ratL, List.mem_cons, List.not_mem_nil, or_false] at hv
  rcases hv with rfl | rfl | rfl | rfl | rfl | rfl | rfl | rfl
  any_goals exact r0A_ok
  exact ⟨true, false, key2, c, rfl, hc, rfl⟩
theorem say_boxes (n : Nat) (m : List UInt8) : ∀ b ∈ (sayO n m).boxes, b.body.length < 9223372036854775808 := fun b hb => by
  simp only [sayO, List.mem_singleton] at hb
  subst hb
  simp
theorem cseal_k {H : List (Option Blk)} {t : Tb} {V0 : Value} {ts0 ts : List Term} (hh : TbOk H t V0 ts0) (hn : ts.length + 10 < 100000) {n : Nat} (h0 : 0 < n) (h1 : n < 100) {c s : List UInt8} (hc : c.length = 32) (hs : s.length ≤ 64) {m : List UInt8} (hm : m.length < 100000) :
    KC Go.Proofs.Tryz.prog 9 [freeI t.b t.l, ksA (ratL c) [], opA (sayO n m), .lit (tx s)] H t ts (.tup [ksA (ratL (nextV ts c).1.2) [], .lit (tx (msgV itD ts (sayO n []) c s).1), .lit (jn 0)]) (msgV itD ts (sayO n []) c s).2 :=
  KC.of hh fun H V h => cseal_call h hn (sayO_ok h1 (by omega)) (say_boxes n m) (by simp [sayO]) (by simp [sayO]) (hitD h1 m) (fun x _ => itD_len x) (sayO_says h0 (m := txX) (by simp [txX]) (by simp [txX])) (w := 1) rfl (ratL_len c) (op := false) (k := key2) rfl hc rfl (by simp) hs
theorem copen_k {H : List (Option Blk)} {t : Tb} {V0 : Value} {ts0 ts : List Term} (hh : TbOk H t V0 ts0) (hts : TsOk ts) (hn : ts.length + 10 < 90000) {n : Nat} (h0 : 0 < n) (h1 : n < 100) {c : List UInt8} (hc : c.length = 32) {m : List UInt8} (hm : m.length = 32) :
    KC Go.Proofs.Tryz.prog 17 [freeI t.b t.l, ksA (ratL c) [], opA (sayO n m)] H t ts (readA (ratL (nextV ts c).1.2) [] (readV itD ts (sayO n m) c)) (byV itD (nextV ts c).2 (sayO n m)).2 :=
  have hsy := sayO_says h0 (m := m) (by omega) (by omega)
  have ho := sayO_ok h1 (m := m) (by omega)
  have hl := nextV_len ts c
  KC.of hh fun H V h => copen_call h (by omega) ho (say_boxes n m) (by simp [sayO]) (by simp [sayO]) (hitD h1 m) (fun x _ => itD_len x) hsy (w := 1) rfl (ratL_len c) (op := false) (k := key2) rfl hc rfl (by simp)
    (byV_ok (nextV_ok hts (by omega) hc) (by omega) ho (by simp [sayO]) (by simp [sayO]) (says_right hsy))
theorem copenN_k {H : List (Option Blk)} {t : Tb} {V0 : Value} {ts0 ts : List Term} (hh : TbOk H t V0 ts0) {n : Nat} (h0 : 0 < n) (h1 : n < 100) {m : List UInt8} (hm : m.length = 32) :
    KC Go.Proofs.Tryz.prog 17 [freeI t.b t.l, ks0, opA (sayO n m)] H t ts (.tup [ks0A, .lit (tx []), .lit (jn 18)]) ts :=
  have hsy := sayO_says h0 (m := m) (by omega) (by omega)
  have ho := sayO_ok h1 (m := m) (by omega)
  KC.args (vs' := [freeI t.b t.l, ks0A, opA (sayO n m)]) ⟨RelLe.refl _, RelLe.st ks0_le, RelLe.refl _, trivial⟩
    (KC.of hh fun H V h => copen_none h ho (say_boxes n m) hsy (w := 1) rfl rfl (op := false) (k := zk) (c := zk) zk_len zk_len rfl)
theorem known_eq (c : List UInt8) : keysA (knownR c) [] = ksA (ratL c) [] := rfl
theorem TsOk.nil' : TsOk [] := ⟨by simp, by simp, by simp, by simp⟩
set_option maxHeartbeats 32000000 in
theorem calive_call : PCall Go.Proofs.Tryz.prog 5 [] (.val (.lit (.bool true))) := by
  have h510 := fc510_eq
  have hc6 : callable Go.Proofs.Tryz.prog 7 = true := by kernel_rfl
  refine PCall.of h510 rfl ?_; show AC.wp _ fb510 (AS.init [] 0 85) (fun x s => match x with | .exit _ => False | _ => Fin [(.tmp 0)] s _); unfold fb510 AS.init
  refine wp_sr (by simp [push_cast]; exact rfl) ?_
  refine wp_sgL ?_
  refine areg_run 0 (by simp [push_cast]; exact rfl) ?_
  refine areg_xq (us := []) rfl (by simp only [tgtA, tgtB, Option.bind_some, hc6, if_true]) (newfree_call _) ⟨_, _, (0, 0), 0, rfl, rfl⟩ (fun r hp' _ t' ht' => by cases ht') ?_
  rintro r H' ⟨l, rr, rfl, rfl⟩
  refine areg_run 0 (by simp [push_cast]; exact rfl) ?_
  refine areg_al' rfl fun l1 => areg_end (by simp [push_cast, freeS_sz, freeS_agg, freeS_tup]; exact rfl) ?_
  refine wp_kit (n := 85) (Lo := [none, some (.box l1 1 (freeS 85 l))] ++ List.replicate 83 none) (fun N t => [.lit (.bool false), .ptr (N + 1) l1 0 []] ++ List.replicate 83 .any) (fun N t => [none, some (.box l1 1 (freeS t.b t.l))] ++ List.replicate 83 none) rfl ?_ ?_ fun N H t V hh hN => ?_
  · simp [leA, RelLe.refl', RelLe.ptr']
  · simp [leB, tbNew, BlkLe.freeS']
  have G1 : ∀ V' ts', (tbOf H t V' ts').length = N := fun V' ts' => by rw [tbOf_len, hN]
  have g1 : ∀ V' ts' L k, (tbOf H t V' ts' ++ L)[N + k]? = L[k]? := fun V' ts' L k => cat1 _ _ _ _ (G1 _ _)
  have g2 : ∀ V' ts' L k x, (tbOf H t V' ts' ++ L).set (N + k) x = tbOf H t V' ts' ++ L.set k x := fun V' ts' L k x => cat2 _ _ _ _ _ (G1 _ _)
  have d1 := drawT_ok (s := [99]) (by decide)
  have hdk := draw_k hh (ts := []) (s := [99]) (by simp) (by decide)
  have p1 := putT_len [] (drawT [99])
  have q1 := TsOk.nil'.draw (s := [99]) (by decide) (by simp)
  have nm1 := Nm.put [] (drawT [99])
  have hch : ChOk (putT [] (drawT [99])) (nameK (putN [] (drawT [99]))) := ⟨_, d1, nm1, by simp [drawT, sT2]⟩
  simp only [List.length_nil] at p1
  generalize nameK (putN [] (drawT [99])) = c at *
  generalize putT [] (drawT [99]) = ts1 at *
  have hc32 := hch.len
  have ck := known_call hc32
  have cs := say_call (n := 1) (by omega)
  rw [known_eq] at ck
  refine wp_sg ?_
  refine areg_run 2 (by simp [push_cast, g1, freeS]; exact rfl) ?_
  refine areg_xc (vs := [.ptr t.b t.l 0 [], .lit (tx [99])]) rfl (hdk _ _) ⟨_, _, rfl, .slice none 0 0, rfl⟩ ?_
  rintro r H' ⟨rfl, V1, rfl⟩
  refine areg_ca (by simp [AS.ev, AS.coe, AS.put] <;> exact rfl) ck ?_
  refine areg_al' (z' := ks0) rfl fun l2 => areg_end (by simp [push_cast, g1, g2, ksA]; exact rfl) ?_
  obtain ⟨s, hs⟩ : ∃ s : List UInt8, s = [116, 101, 120, 116] := ⟨_, rfl⟩
  have hsl : s.length ≤ 64 := by rw [hs]; decide
  have htx : tx [116, 101, 120, 116] = tx s := by rw [hs]
  obtain ⟨m, us, hm⟩ : ∃ m us, msgV itD ts1 (sayO 1 []) c s = (m, us) := ⟨_, _, rfl⟩
  obtain ⟨d, hd⟩ : ∃ d, (nextV ts1 c).1.2 = d := ⟨_, rfl⟩
  obtain ⟨w1, w2, w3, w4, w5, w6, w7, w8, w9⟩ := talk_law q1 (by omega) hch (n := 1) (by omega) (by omega) hsl hm hd
  have hd32 := w8.len
  have k1 := cseal_k hh (ts := ts1) (by omega) (n := 1) (by omega) (by omega) hc32 hsl (m := []) (by simp)
  have k2 := copen_k hh w3 (by omega) (n := 1) (by omega) (by omega) hc32 w1
  have k3 := copen_k hh w3 (by omega) (n := 1) (by omega) (by omega) hd32 w1
  have k4 := copenN_k hh (ts := (byV itD (nextV us d).2 (sayO 1 m)).2) (n := 1) (by omega) (by omega) w1
  have hq := eq_rats (ratL_len d) (ratL_ok hd32)
  rw [hm, hd] at k1
  rw [w5, w6, w7] at k2
  rw [w9] at k3
  simp only [readA] at k1 k2 k3
  generalize (byV itD (nextV us d).2 (sayO 1 m)).2 = us2 at *
  refine wp_sg ?_
  refine areg_ca (by simp [AS.ev, AS.coe, AS.put] <;> exact rfl) cs ?_
  refine areg_al' rfl fun l3 => areg_end (by simp [push_cast, g1, g2, opA, sayO]; exact rfl) ?_
  refine wp_sg ?_
  refine areg_run 1 (by simp [push_cast, g1, freeS_sz, freeS_agg, freeS_tup]; exact rfl) ?_
  refine areg_rdp (us := [freeS t.b t.l]) rfl (mkifc_free _ _) ?_
  refine areg_run 2 (by simp [push_cast, g1, zk_len]; exact rfl) ?_
  rw [htx]
  refine areg_k [freeI t.b t.l, ksA (ratL c) [], opA (sayO 1 []), .lit (tx s)] hN rfl (tgt_cseal _ _ _ _) k1 (by simp) (by simp) fun V2 => ?_
  refine areg_run 4 (by simp [push_cast]; exact rfl) ?_
  refine areg_al' (z' := ks0) rfl fun l4 => areg_end (by simp [push_cast, g1, g2, ksA]; exact rfl) ?_
  refine wp_sg (areg_end (by simp [push_cast, g1, g2, zk_len]; exact rfl) ?_)
  refine wp_sg ?_
  refine areg_run 1 (by simp [push_cast, g1, freeS_sz, freeS_agg, freeS_tup]; exact rfl) ?_
  refine areg_rdp (us := [freeS t.b t.l]) rfl (mkifc_free _ _) ?_
  refine areg_run 2 (by simp [push_cast, g1, zk_len]; exact rfl) ?_
  refine areg_k [freeI t.b t.l, ksA (ratL c) [], opA (sayO 1 m)] hN rfl (tgt_copen _ _ _) k2 (by simp) (by simp) fun V3 => ?_
  refine areg_run 4 (by simp [push_cast]; exact rfl) ?_
  refine areg_al' (z' := ks0) rfl fun l7 => areg_end (by simp [push_cast, g1, g2, ksA]; exact rfl) ?_
  refine wp_sg ?_
  refine areg_run 1 (by simp [push_cast, g1, freeS_sz, freeS_agg, freeS_tup]; exact rfl) ?_
  refine areg_rdp (us := [freeS t.b t.l]) rfl (mkifc_free _ _) ?_
  refine areg_run 2 (by simp [push_cast, g1, zk_len]; exact rfl) ?_
  refine areg_k [freeI t.b t.l, ksA (ratL d) [], opA (sayO 1 m)] hN rfl (tgt_copen _ _ _) k3 (by simp) (by simp) fun V4 => ?_
  refine areg_run 4 (by simp [push_cast]; exact rfl) ?_
  refine areg_al' (z' := ks0) rfl fun l10 => areg_end (by simp [push_cast, g1, g2, ks0A, ksA]; exact rfl) ?_
  refine wp_sg ?_
  refine areg_run 1 (by simp [push_cast, g1, freeS_sz, freeS_agg, freeS_tup]; exact rfl) ?_
  refine areg_rdp (us := [freeS t.b t.l]) rfl (mkifc_free _ _) ?_
  refine areg_bd (z' := ks0) rfl ?_
  refine areg_run 1 (by simp [push_cast, g1, zk_len]; exact rfl) ?_
  refine areg_k [freeI t.b t.l, ks0, opA (sayO 1 m)] hN rfl (tgt_copen _ _ _) k4 (by simp) (by simp) fun V5 => ?_
  refine areg_run 4 (by simp [push_cast]; exact rfl) ?_
  refine areg_al' (z' := ks0) rfl fun l13 => areg_end (by simp [push_cast, g1, g2, ks0A, ksA]; exact rfl) ?_
  refine wp_sg ?_
  refine areg_run 15 (by simp [push_cast, g1]; exact rfl) ?_
  refine areg_g (by simp [AS.ev, AS.put]) (areg_eq (by simp [AS.ev, AS.put] <;> exact rfl) (by simp [AS.ev, AS.put] <;> exact rfl) hq rfl rfl ?_)
  refine areg_end (by simp [push_cast]; exact rfl) (wp_ret' ?_)
  exact fin_tmp (by simp [RVal, AS.ev, AS.coe]) (by simp)
end Go.Cab
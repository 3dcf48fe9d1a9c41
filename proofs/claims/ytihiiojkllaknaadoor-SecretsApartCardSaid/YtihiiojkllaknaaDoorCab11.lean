/- Part 11 of what the proof stands on: S15, S18, SD, S19, S20, S21. -/
import Derived.Test.YtihiiojkllaknaaDoorCab10
import Derived.Shelf.RegionOpenPlain
import Derived.WalkKit
import Derived.Deep.LoopGhost
import Derived.Deep.RegionLaw
import Derived.Deep.MidRow
import Derived.Lib.Walk
import Derived.Sort.WalkB12
import Derived.Lib.SliceRun
import Derived.Lib.SlicesDelete
set_option linter.unusedSimpArgs false
set_option linter.unnecessarySimpa false
set_option linter.unusedVariables false
set_option linter.unusedSectionVars false
/- Secrets: alive. -/
-- TEXTS
-- KIT
namespace Go.Cab
open Go.RowKit
open Classical
def fb602 : AC := (.seq (.reg [⟨(.some 0), .none, (.mov (.const (.bool .false))), [], .none⟩]) (.seq (.reg [⟨(.some 11), .none, (.xc (.dir 7) [] [] []), [], .none⟩, ⟨(.some 1), .none, (.alloc 1 (.st [1] [(.lit (.pointer .none))])), [], .none⟩, ⟨.none, .none, (.store 1 (.tmp 1) (.tmp 11)), [], .none⟩]) (.seq (.reg [⟨(.some 12), .none, (.faddr 0 0 (.tmp 1)), [], .none⟩, ⟨(.some 13), .none, (.load .false 1 (.tmp 12)), [], .none⟩, ⟨(.some 14), .none, (.icall 11 (.tmp 13) [(.const (tx [115, 101, 101, 100]))]), [], .none⟩, ⟨(.some 2), .none, (.alloc 32 (.arr 1 (List.replicate 32 (.lit (bn 0))))), [], .none⟩, ⟨.none, .none, (.store 32 (.tmp 2) (.tmp 14)), [], .none⟩]) (.seq (.reg [⟨(.some 15), .none, (.load .true 1 (.tmp 1)), [], .none⟩, ⟨(.some 16), .none, (.rdp (.mkifc 40) [(.tmp 15)]), [], .none⟩, ⟨(.some 17), .none, (.load .true 32 (.tmp 2)), [], .none⟩, ⟨(.some 18), .none, (.xc (.dir 12) [(.tmp 16), (.tmp 17)] [] []), [], .none⟩, ⟨(.some 3), .none, (.alloc 71 (.st [1, 1, 1, 1, 1, 32, 32, 1, 1] [(.lit (jn 0)), (.lit (wn 0)), (.lit (.slice .none 0 0)), (.lit (jn 0)), (.lit (.slice .none 0 0)), (.arr 1 (List.replicate 32 (.lit (bn 0)))), (.arr 1 (List.replicate 32 (.lit (bn 0)))), (.lit (tx [])), (.lit (.slice .none 0 0))])), [], .none⟩, ⟨.none, .none, (.store 71 (.tmp 3) (.tmp 18)), [], .none⟩]) (.seq (.reg [⟨(.some 20), .none, (.load .true 1 (.tmp 1)), [], .none⟩, ⟨(.some 21), .none, (.rdp (.mkifc 40) [(.tmp 20)]), [], .none⟩, ⟨(.some 22), .none, (.build (.st [528, 1] [(.arr 66 (List.replicate 8 (.st [1, 1, 32, 32] [(.lit (.bool .false)), (.lit (.bool .false)), (.arr 1 (List.replicate 32 (.lit (bn 0)))), (.arr 1 (List.replicate 32 (.lit (bn 0))))]))), (.lit (.slice .none 0 0))]) []), [], .none⟩, ⟨(.some 23), .none, (.build (.arr 1 (List.replicate 32 (.lit (bn 0)))) [(0, (.const (bn 9)))]), [], .none⟩, ⟨(.some 24), .none, (.load .true 71 (.tmp 3)), [], .none⟩, ⟨(.some 25), .none, (.build (.st [1, 1, 1, 1, 1, 32, 32, 1, 1] [(.lit (jn 0)), (.lit (wn 0)), (.lit (.slice .none 0 0)), (.lit (jn 0)), (.lit (.slice .none 0 0)), (.arr 1 (List.replicate 32 (.lit (bn 0)))), (.arr 1 (List.replicate 32 (.lit (bn 0)))), (.lit (tx [])), (.lit (.slice .none 0 0))]) []), [], .none⟩, ⟨(.some 26), .none, (.load .true 32 (.tmp 2)), [], .none⟩, ⟨(.some 27), .none, (.bslice 32 (.arr 1 (List.replicate 32 (.lit (bn 0)))) 1 [(0, (.tmp 26))]), [], .none⟩, ⟨(.some 28), .none, (.xc (.dir 10) [(.tmp 21), (.tmp 22), (.const (jn 0)), (.tmp 23), (.tmp 24), (.tmp 25), (.tmp 27)] [] []), [], .none⟩, ⟨(.some 19), .none, (.mov (.tmp 28)), [], .none⟩, ⟨(.some 29), .none, (.ext (.tmp 19) 0), [], .none⟩, ⟨(.some 30), .none, (.ext (.tmp 19) 1), [], .none⟩, ⟨(.some 4), .none, (.alloc 529 (.st [528, 1] [(.arr 66 (List.replicate 8 (.st [1, 1, 32, 32] [(.lit (.bool .false)), (.lit (.bool .false)), (.arr 1 (List.replicate 32 (.lit (bn 0)))), (.arr 1 (List.replicate 32 (.lit (bn 0))))]))), (.lit (.slice .none 0 0))])), [], .none⟩, ⟨.none, .none, (.store 529 (.tmp 4) (.tmp 29)), [], .none⟩, ⟨(.some 5), .none, (.mov (.tmp 30)), [], .none⟩]) (.seq (.reg [⟨(.some 32), .none, (.load .true 1 (.tmp 1)), [], .none⟩, ⟨(.some 33), .none, (.rdp (.mkifc 40) [(.tmp 32)]), [], .none⟩, ⟨(.some 34), .none, (.build (.st [528, 1] [(.arr 66 (List.replicate 8 (.st [1, 1, 32, 32] [(.lit (.bool .false)), (.lit (.bool .false)), (.arr 1 (List.replicate 32 (.lit (bn 0)))), (.arr 1 (List.replicate 32 (.lit (bn 0))))]))), (.lit (.slice .none 0 0))]) []), [], .none⟩, ⟨(.some 35), .none, (.build (.arr 1 (List.replicate 32 (.lit (bn 0)))) [(0, (.const (bn 9)))]), [], .none⟩, ⟨(.some 36), .none, (.load .true 71 (.tmp 3)), [], .none⟩, ⟨(.some 37), .none, (.build (.st [1, 1, 1, 1, 1, 32, 32, 1, 1] [(.lit (jn 0)), (.lit (wn 0)), (.lit (.slice .none 0 0)), (.lit (jn 0)), (.lit (.slice .none 0 0)), (.arr 1 (List.replicate 32 (.lit (bn 0)))), (.arr 1 (List.replicate 32 (.lit (bn 0)))), (.lit (tx [])), (.lit (.slice .none 0 0))]) []), [], .none⟩, ⟨(.some 38), .none, (.load .true 32 (.tmp 2)), [], .none⟩, ⟨(.some 39), .none, (.bslice 32 (.arr 1 (List.replicate 32 (.lit (bn 0)))) 1 [(0, (.tmp 38))]), [], .none⟩, ⟨(.some 40), .none, (.xc (.dir 10) [(.tmp 33), (.tmp 34), (.const (jn 1)), (.tmp 35), (.tmp 36), (.tmp 37), (.tmp 39)] [] []), [], .none⟩, ⟨(.some 31), .none, (.mov (.tmp 40)), [], .none⟩, ⟨(.some 41), .none, (.ext (.tmp 31) 0), [], .none⟩, ⟨(.some 42), .none, (.ext (.tmp 31) 1), [], .none⟩, ⟨(.some 6), .none, (.alloc 529 (.st [528, 1] [(.arr 66 (List.replicate 8 (.st [1, 1, 32, 32] [(.lit (.bool .false)), (.lit (.bool .false)), (.arr 1 (List.replicate 32 (.lit (bn 0)))), (.arr 1 (List.replicate 32 (.lit (bn 0))))]))), (.lit (.slice .none 0 0))])), [], .none⟩, ⟨.none, .none, (.store 529 (.tmp 6) (.tmp 41)), [], .none⟩, ⟨(.some 7), .none, (.mov (.tmp 42)), [], .none⟩]) (.seq (.reg [⟨(.some 44), .none, (.load .true 1 (.tmp 1)), [8], (.some 1)⟩, ⟨(.some 45), .none, (.rdp (.mkifc 40) [(.tmp 44)]), [], .none⟩, ⟨(.some 46), .none, (.build (.st [528, 1] [(.arr 66 (List.replicate 8 (.st [1, 1, 32, 32] [(.lit (.bool .false)), (.lit (.bool .false)), (.arr 1 (List.replicate 32 (.lit (bn 0)))), (.arr 1 (List.replicate 32 (.lit (bn 0))))]))), (.lit (.slice .none 0 0))]) []), [], .none⟩, ⟨(.some 47), .none, (.build (.arr 1 (List.replicate 32 (.lit (bn 0)))) [(0, (.const (bn 9)))]), [], .none⟩, ⟨(.some 48), .none, (.load .true 71 (.tmp 3)), [8], (.some 3)⟩, ⟨(.some 49), .none, (.build (.st [1, 1, 1, 1, 1, 32, 32, 1, 1] [(.lit (jn 0)), (.lit (wn 0)), (.lit (.slice .none 0 0)), (.lit (jn 0)), (.lit (.slice .none 0 0)), (.arr 1 (List.replicate 32 (.lit (bn 0)))), (.arr 1 (List.replicate 32 (.lit (bn 0)))), (.lit (tx [])), (.lit (.slice .none 0 0))]) []), [], .none⟩, ⟨(.some 50), .none, (.faddr 0 0 (.tmp 1)), [], .none⟩, ⟨(.some 51), .none, (.load .false 1 (.tmp 50)), [8], (.some 1)⟩, ⟨(.some 52), .none, (.xc (.dir 11) [(.tmp 51), (.const (tx [111, 116, 104, 101, 114]))] [1, 3] [8]), [], .none⟩, ⟨(.some 53), .none, (.bslice 32 (.arr 1 (List.replicate 32 (.lit (bn 0)))) 1 [(0, (.tmp 52))]), [], .none⟩, ⟨(.some 54), .none, (.xc (.dir 10) [(.tmp 45), (.tmp 46), (.const (jn 1)), (.tmp 47), (.tmp 48), (.tmp 49), (.tmp 53)] [] [8]), [], .none⟩, ⟨(.some 43), .none, (.mov (.tmp 54)), [], .none⟩, ⟨(.some 55), .none, (.ext (.tmp 43) 0), [], .none⟩, ⟨(.some 56), .none, (.ext (.tmp 43) 1), [], .none⟩, ⟨(.some 8), .none, (.alloc 529 (.st [528, 1] [(.arr 66 (List.replicate 8 (.st [1, 1, 32, 32] [(.lit (.bool .false)), (.lit (.bool .false)), (.arr 1 (List.replicate 32 (.lit (bn 0)))), (.arr 1 (List.replicate 32 (.lit (bn 0))))]))), (.lit (.slice .none 0 0))])), [], .none⟩, ⟨.none, .none, (.store 529 (.tmp 8) (.tmp 55)), [], .none⟩, ⟨(.some 9), .none, (.mov (.tmp 56)), [], .none⟩]) (.seq (.reg [⟨(.some 57), .none, (.build (.st [528, 1] [(.arr 66 (List.replicate 8 (.st [1, 1, 32, 32] [(.lit (.bool .false)), (.lit (.bool .false)), (.arr 1 (List.replicate 32 (.lit (bn 0)))), (.arr 1 (List.replicate 32 (.lit (bn 0))))]))), (.lit (.slice .none 0 0))]) []), [], .none⟩, ⟨(.some 58), .none, (.load .true 71 (.tmp 3)), [], .none⟩, ⟨(.some 59), .none, (.build (.st [1, 1, 1, 1, 1, 32, 32, 1, 1] [(.lit (jn 0)), (.lit (wn 0)), (.lit (.slice .none 0 0)), (.lit (jn 0)), (.lit (.slice .none 0 0)), (.arr 1 (List.replicate 32 (.lit (bn 0)))), (.arr 1 (List.replicate 32 (.lit (bn 0)))), (.lit (tx [])), (.lit (.slice .none 0 0))]) []), [], .none⟩, ⟨(.some 60), .none, (.load .true 32 (.tmp 2)), [], .none⟩, ⟨(.some 61), .none, (.call 16 [(.tmp 57), (.tmp 58), (.tmp 59), (.tmp 60), (.const (jn 1))]), [], .none⟩, ⟨(.some 10), .none, (.mov (.tmp 61)), [], .none⟩]) (.seq (.reg [⟨(.some 62), .none, (.mov (.tmp 5)), [], .none⟩, ⟨(.some 63), .none, (.bin .eql (.tmp 62) (.const (jn 0))), [], .none⟩, ⟨(.some 64), .none, (.mov (.tmp 63)), [], .none⟩, ⟨(.some 65), (.some (64, .true)), (.mov (.tmp 7)), [], .none⟩, ⟨(.some 66), (.some (64, .true)), (.bin .eql (.tmp 65) (.const (jn 0))), [], .none⟩, ⟨(.some 67), .none, (.pick (.tmp 64) (.tmp 66) (.const (.bool .false))), [], .none⟩, ⟨(.some 68), .none, (.mov (.tmp 67)), [], .none⟩, ⟨(.some 69), (.some (68, .true)), (.mov (.tmp 9)), [], .none⟩, ⟨(.some 70), (.some (68, .true)), (.bin .eql (.tmp 69) (.const (jn 19))), [], .none⟩, ⟨(.some 71), .none, (.pick (.tmp 68) (.tmp 70) (.const (.bool .false))), [], .none⟩, ⟨(.some 72), .none, (.mov (.tmp 71)), [], .none⟩, ⟨(.some 73), (.some (72, .true)), (.faddr 0 0 (.tmp 4)), [], .none⟩, ⟨(.some 74), (.some (72, .true)), (.iaddrA 8 66 (.tmp 73) (.const (jn 0))), [], .none⟩, ⟨(.some 75), (.some (72, .true)), (.load .true 66 (.tmp 74)), [], .none⟩, ⟨(.some 76), (.some (72, .true)), (.faddr 0 0 (.tmp 6)), [], .none⟩, ⟨(.some 77), (.some (72, .true)), (.iaddrA 8 66 (.tmp 76) (.const (jn 0))), [], .none⟩, ⟨(.some 78), (.some (72, .true)), (.load .true 66 (.tmp 77)), [], .none⟩, ⟨(.some 79), (.some (72, .true)), (.eqv 25 .false (.tmp 75) (.tmp 78)), [], .none⟩, ⟨(.some 80), .none, (.pick (.tmp 72) (.tmp 79) (.const (.bool .false))), [], .none⟩, ⟨(.some 81), .none, (.mov (.tmp 80)), [], .none⟩, ⟨(.some 82), (.some (81, .true)), (.faddr 528 1 (.tmp 4)), [], .none⟩, ⟨(.some 83), (.some (81, .true)), (.load .false 1 (.tmp 82)), [], .none⟩, ⟨(.some 84), (.some (81, .true)), (.len .false (.tmp 83)), [], .none⟩, ⟨(.some 85), (.some (81, .true)), (.bin .eql (.tmp 84) (.const (jn 1))), [], .none⟩, ⟨(.some 86), .none, (.pick (.tmp 81) (.tmp 85) (.const (.bool .false))), [], .none⟩, ⟨(.some 87), .none, (.mov (.tmp 86)), [], .none⟩, ⟨(.some 88), (.some (87, .true)), (.faddr 0 0 (.tmp 4)), [], .none⟩, ⟨(.some 89), (.some (87, .true)), (.iaddrA 8 66 (.tmp 88) (.const (jn 0))), [], .none⟩, ⟨(.some 90), (.some (87, .true)), (.faddr 0 0 (.tmp 89)), [], .none⟩, ⟨(.some 91), (.some (87, .true)), (.load .false 1 (.tmp 90)), [], .none⟩, ⟨(.some 92), .none, (.pick (.tmp 87) (.tmp 91) (.const (.bool .false))), [], .none⟩, ⟨(.some 93), .none, (.mov (.tmp 92)), [], .none⟩, ⟨(.some 94), (.some (93, .true)), (.mov (.tmp 10)), [], .none⟩, ⟨(.some 95), (.some (93, .true)), (.len .false (.tmp 94)), [], .none⟩, ⟨(.some 96), (.some (93, .true)), (.bin .eql (.tmp 95) (.const (jn 1))), [], .none⟩, ⟨(.some 97), .none, (.pick (.tmp 93) (.tmp 96) (.const (.bool .false))), [], .none⟩, ⟨(.some 98), .none, (.mov (.tmp 97)), [], .none⟩, ⟨(.some 99), (.some (98, .true)), (.mov (.tmp 10)), [], .none⟩, ⟨(.some 100), (.some (98, .true)), (.iaddrS 32 (.tmp 99) (.const (jn 0))), [], .none⟩, ⟨(.some 101), (.some (98, .true)), (.load .true 32 (.tmp 100)), [], .none⟩, ⟨(.some 102), (.some (98, .true)), (.load .true 32 (.tmp 2)), [], .none⟩, ⟨(.some 103), (.some (98, .true)), (.eqv 23 .false (.tmp 101) (.tmp 102)), [], .none⟩, ⟨(.some 104), .none, (.pick (.tmp 98) (.tmp 103) (.const (.bool .false))), [], .none⟩, ⟨(.some 0), .none, (.mov (.tmp 104)), [], .none⟩]) .ret)))))))))
def fc602 : FC := ⟨0, 105, [(.tmp 0)], fb602⟩
theorem fc602_eq : compF Go.Proofs.Tryd.prog 5 = some fc602 := by kernel_rfl

theorem eq_rat {a b : Bool} {k c : List UInt8} (hk : k.length = 32) (hc : c.length = 32) : EqAV Go.Proofs.Tryd.prog 25 (.st [1, 1, 32, 32] [.lit (.bool a), .lit (.bool b), keyA k, keyA c]) (.st [1, 1, 32, 32] [.lit (.bool a), .lit (.bool b), keyA k, keyA c]) true := by
  obtain ⟨fs, _, _, _, _, hu, _⟩ := four_fields (P := Go.Proofs.Tryd.prog) (o := Go.Proofs.Tryd.prog.underlying 25) (tk := 23) (by kernel_rfl)
  have hcr : Go.Proofs.Tryd.prog.cellsOf 25 = 66 := by kernel_rfl
  refine (KLit.rat (d := 0) hk hc).eq fun cs hcs => ?_
  simp only [asVal, Value.formed, hu]
  simp [AV.sz] at hcs
  simp [hcr, hcs]
theorem mkifc_free (b : Nat) (l : Nat × Nat) : rdA Go.Proofs.Tryd.prog (fun _ => none) (.mkifc 40) [freeS b l] = some (freeI b l) := by kernel_rfl
theorem freeS_sz (b : Nat) (l : Nat × Nat) : (freeS b l).sz = 1 := rfl
theorem freeS_agg (b : Nat) (l : Nat × Nat) : (freeS b l).isAgg = true := rfl
theorem freeS_tup (b : Nat) (l : Nat × Nat) : (freeS b l).isTup = false := rfl
theorem tgt_drawS (b : Nat) (l : Nat × Nat) (x : AV) : tgtA Go.Proofs.Tryd.prog (.dir 11) [.ptr b l 0 [], x] = some (11, [.ptr b l 0 [], x]) := by kernel_rfl
theorem tgt_cre (a b : AV) : tgtA Go.Proofs.Tryd.prog (.dir 12) [a, b] = some (12, [a, b]) := by kernel_rfl
theorem TsOk.nil' : TsOk [] := ⟨by simp, by simp, by simp, by simp⟩
def key9 : List UInt8 := 9 :: List.replicate 31 0
def txSeed : List UInt8 := [115, 101, 101, 100]
def txOther : List UInt8 := [111, 116, 104, 101, 114]
theorem cre_k {H : List (Option Blk)} {t : Tb} {V0 : Value} {ts0 ts : List Term} (hh : TbOk H t V0 ts0) (hl : ts.length + 100 < 90000) {seed m c' k' : List UInt8} {t3 : List Term} (hs : seed.length = 32) (h3 : t3.length < 90000) (hc' : c'.length = 32) (hk' : k'.length = 32) (hu : updV ts (dec2 1) zk seed = (m, c', k', t3)) :
    KC Go.Proofs.Tryd.prog 12 [freeI t.b t.l, keyA seed] H t ts (o0A (nameK (putN t3 (chkT c')))) (putT t3 (chkT c')) := KC.of hh fun H V h => cre_call h hl hs h3 hc' hk' hu
/-- Another seed has another check. -/
theorem chk_ne {us : List Term} (hus : TsOk us) {it s1 s2 a b c1 c2 k1 k2 m1 m2 chk1 chk2 x y : List UInt8} (_hi : it.length < 1000) (hx : x.length < 1000) (hy : y.length < 1000) (ha : Nm us (drawT x) a) (hb : Nm us (drawT y) b) (hxy : x ≠ y)
    (u1 : Nm us (senT a) s1 ∧ Nm us (rT1 zk s1) c1 ∧ Nm us (chkT c1) chk1) (u2 : Nm us (senT b) s2 ∧ Nm us (rT1 zk s2) c2 ∧ Nm us (chkT c2) chk2) : chk2 ≠ chk1 := fun e => by
  subst e
  obtain ⟨a1, a2, a3⟩ := u1
  obtain ⟨b1, b2, b3⟩ := u2
  have e1 := b3.inj a3 hus (chkT_ok b2.len) (chkT_ok a2.len)
  simp [chkT] at e1
  subst e1
  have e2 := b2.inj a2 hus (rT1_ok zk_len b1.len) (rT1_ok zk_len a1.len)
  simp [rT1] at e2
  subst e2
  have e3 := b1.inj a1 hus (senT_ok hb.len) (senT_ok ha.len)
  simp [senT] at e3
  subst e3
  have e4 := hb.inj ha hus (drawT_ok (by omega)) (drawT_ok (by omega))
  simp [drawT] at e4
  exact hxy e4.symm

set_option maxHeartbeats 64000000 in
theorem salive_call : PCall Go.Proofs.Tryd.prog 5 [] (.val (.lit (.bool true))) := by
  have h602 := fc602_eq
  have hc6 : callable Go.Proofs.Tryd.prog 7 = true := by kernel_rfl
  refine PCall.of h602 rfl ?_; show AC.wp _ fb602 (AS.init [] 0 105) (fun x s => match x with | .exit _ => False | _ => Fin [(.tmp 0)] s _); unfold fb602 AS.init
  refine wp_sr (by simp [push_cast]; exact rfl) ?_
  refine wp_sgL ?_
  refine areg_run 0 (by simp [push_cast]; exact rfl) ?_
  refine areg_xq (us := []) rfl (by simp only [tgtA, tgtB, Option.bind_some, hc6, if_true]) (newfree_call _) ⟨_, _, (0, 0), 0, rfl, rfl⟩ (fun r hp' _ t' ht' => by cases ht') ?_
  rintro r H' ⟨l, rr, rfl, rfl⟩
  refine areg_run 0 (by simp [push_cast]; exact rfl) ?_
  refine areg_al' rfl fun l1 => areg_end (by simp [push_cast, freeS_sz, freeS_agg, freeS_tup]; exact rfl) ?_
  refine wp_kit (n := 105) (Lo := [none, some (.box l1 1 (freeS 105 l))] ++ List.replicate 103 none) (fun N t => [.lit (.bool false), .ptr (N + 1) l1 0 []] ++ List.replicate 103 .any) (fun N t => [none, some (.box l1 1 (freeS t.b t.l))] ++ List.replicate 103 none) rfl ?_ ?_ fun N H t V hh hN => ?_
  · simp [leA, RelLe.refl', RelLe.ptr']
  · simp [leB, tbNew, BlkLe.freeS']
  have G1 : ∀ V' ts', (tbOf H t V' ts').length = N := fun V' ts' => by rw [tbOf_len, hN]
  have g1 : ∀ V' ts' L k, (tbOf H t V' ts' ++ L)[N + k]? = L[k]? := fun V' ts' L k => cat1 _ _ _ _ (G1 _ _)
  have g2 : ∀ V' ts' L k x, (tbOf H t V' ts' ++ L).set (N + k) x = tbOf H t V' ts' ++ L.set k x := fun V' ts' L k x => cat2 _ _ _ _ _ (G1 _ _)
  -- the seed, the beginning
  have d1 := drawT_ok (s := txSeed) (by decide)
  have hdk := draw_k hh (ts := []) (s := txSeed) (by simp) (by decide)
  have p1 := putT_len [] (drawT txSeed)
  have q1 := TsOk.nil'.draw (s := txSeed) (by decide) (by simp)
  have nm1 := Nm.put [] (drawT txSeed)
  simp only [List.length_nil] at p1
  generalize nameK (putN [] (drawT txSeed)) = seed at *
  generalize putT [] (drawT txSeed) = ts1 at *
  have hs := nm1.len
  obtain ⟨m, c', k', t3, hu⟩ : ∃ m c' k' t3, updV ts1 (dec2 1) zk seed = (m, c', k', t3) := ⟨_, _, _, _, rfl⟩
  obtain ⟨s, hU, w1, w2, w3, w4⟩ := upd_law q1 (by omega) (by decide) zk_len hs hu
  have kcre := cre_k hh (by omega) hs (by omega) w2 w3 hu
  generalize hck : nameK (putN t3 (chkT c')) = chk at *
  generalize hus : putT t3 (chkT c') = us at *
  have hcl := hU.chk.len
  have hcz := hU.chk.nz
  have hUl := hU.len
  have ka0 := acr_k hh (ts := us) (by omega) hs (t3 := us) (by omega) w2 w3 hU.again (c := chk) hcl hcz (me := 0) (.inl rfl) (id := key9) rfl
  have ka1 := acr_k hh (ts := us) (by omega) hs (t3 := us) (by omega) w2 w3 hU.again (c := chk) hcl hcz (me := 1) (.inr rfl) (id := key9) rfl
  rw [hU.chk.putN, hU.chk.putT, if_pos rfl] at ka0 ka1
  -- another seed
  have hdk2 := draw_k hh (ts := us) (s := txOther) (by omega) (by decide)
  have p2 := putT_len us (drawT txOther)
  have q2 := hU.tok.draw (s := txOther) (by decide) (by omega)
  have nm2 := Nm.put us (drawT txOther)
  have pre2 := put_pre us (drawT txOther)
  generalize nameK (putN us (drawT txOther)) = oth at *
  generalize putT us (drawT txOther) = ts2 at *
  have ho := nm2.len
  obtain ⟨m2, c2, k2, t5, hu2⟩ : ∃ m2 c2 k2 t5, updV ts2 (dec2 1) zk oth = (m2, c2, k2, t5) := ⟨_, _, _, _, rfl⟩
  obtain ⟨s2, hU2, v1, v2, v3, v4⟩ := upd_law q2 (by omega) (by decide) zk_len ho hu2
  have kb := acr_k hh (ts := ts2) (by omega) ho (t3 := t5) (by omega) v2 v3 hu2 (c := chk) hcl hcz (me := 1) (.inr rfl) (id := key9) rfl
  have pre3 := pre2.trans hU2.pre
  have hne := chk_ne hU2.tok (it := []) (m1 := m) (m2 := m2) (k1 := k') (k2 := k2) (x := txSeed) (y := txOther) (by simp) (by decide) (by decide) ((nm1.mono hU.pre).mono pre3) (nm2.mono hU2.pre) (by decide) ⟨hU.sen.mono pre3, hU.chn.mono pre3, hU.chk.mono pre3⟩ ⟨hU2.sen, hU2.chn, hU2.chk⟩
  rw [if_neg hne] at kb
  generalize putT t5 (chkT c2) = us2 at *
  have cc := content_call hcl hcz hs
  have hq := eq_rat (a := true) (b := false) w3 w2
  have hqk := eq_key hs hs
  have h9 : key9.length = 32 := rfl
  clear hu hu2 hU hU2 nm1 nm2 d1 q1 q2 pre2 pre3 hck hus hne
  refine wp_sg ?_
  refine areg_run 2 (by simp [push_cast, g1, freeS]; exact rfl) ?_
  refine areg_xc (vs := [.ptr t.b t.l 0 [], .lit (tx txSeed)]) rfl (hdk _ _) ⟨_, _, rfl, .slice none 0 0, rfl⟩ ?_
  rintro r H' ⟨rfl, V1, rfl⟩
  refine areg_al' zk_eq.symm fun l2 => areg_end (by simp [push_cast, g1, g2, hs, zk_len]; exact rfl) ?_
  refine wp_sg ?_
  refine areg_run 1 (by simp [push_cast, g1, freeS_sz, freeS_agg, freeS_tup]; exact rfl) ?_
  refine areg_rdp (us := [freeS t.b t.l]) rfl (mkifc_free _ _) ?_
  refine areg_run 1 (by simp [push_cast, g1, hs]; exact rfl) ?_
  refine areg_k [freeI t.b t.l, keyA seed] hN rfl (tgt_cre _ _) kcre (by simp) (by simp) fun V2 => ?_
  refine areg_al' (z' := ozA) rfl fun l3 => areg_end (by simp [push_cast, g1, g2, ozA, o0A, hcl, zk_len]; exact rfl) ?_
  refine wp_sg ?_
  refine areg_run 1 (by simp [push_cast, g1, freeS_sz, freeS_agg, freeS_tup]; exact rfl) ?_
  refine areg_rdp (us := [freeS t.b t.l]) rfl (mkifc_free _ _) ?_
  refine areg_bd (z' := ks0) rfl ?_
  refine areg_bd (z' := keyA key9) (fill_ar rfl rfl rfl rfl rfl) ?_
  refine areg_run 1 (by simp [push_cast, g1, o0A, hcl, zk_len]; exact rfl) ?_
  refine areg_bd (z' := ozA) rfl ?_
  refine areg_run 1 (by simp [push_cast, g1, hs]; exact rfl) ?_
  refine areg_bsl (k := 32) (els := klA [seed]) (fill_ar rfl rfl rfl (by simp [AV.sz, AS.ev, AS.put, hs, bl_len]) rfl) ?_
  refine areg_k [freeI t.b t.l, ks0, .lit (jn 0), keyA key9, o0A chk, ozA, .sl 32 (klA [seed])] hN rfl (tgt_apply _ _ _ _ _ _ _) ka0 (by simp) (by simp) fun V3 => ?_
  refine areg_run 3 (by simp [push_cast]; exact rfl) ?_
  refine areg_al' (z' := ks0) rfl fun l4 => areg_end (by simp [push_cast, g1, g2, keysA]; exact rfl) ?_
  refine wp_sg ?_
  refine areg_run 1 (by simp [push_cast, g1, freeS_sz, freeS_agg, freeS_tup]; exact rfl) ?_
  refine areg_rdp (us := [freeS t.b t.l]) rfl (mkifc_free _ _) ?_
  refine areg_bd (z' := ks0) rfl ?_
  refine areg_bd (z' := keyA key9) (fill_ar rfl rfl rfl rfl rfl) ?_
  refine areg_run 1 (by simp [push_cast, g1, o0A, hcl, zk_len]; exact rfl) ?_
  refine areg_bd (z' := ozA) rfl ?_
  refine areg_run 1 (by simp [push_cast, g1, hs]; exact rfl) ?_
  refine areg_bsl (k := 32) (els := klA [seed]) (fill_ar rfl rfl rfl (by simp [AV.sz, AS.ev, AS.put, hs, bl_len]) rfl) ?_
  refine areg_k [freeI t.b t.l, ks0, .lit (jn 1), keyA key9, o0A chk, ozA, .sl 32 (klA [seed])] hN rfl (tgt_apply _ _ _ _ _ _ _) ka1 (by simp) (by simp) fun V4 => ?_
  refine areg_run 3 (by simp [push_cast]; exact rfl) ?_
  refine areg_al' (z' := ks0) rfl fun l6 => areg_end (by simp [push_cast, g1, g2, keysA]; exact rfl) ?_
  refine wp_sg ?_
  refine areg_run 1 (by simp [push_cast, g1, freeS_sz, freeS_agg, freeS_tup]; exact rfl) ?_
  refine areg_rdp (us := [freeS t.b t.l]) rfl (mkifc_free _ _) ?_
  refine areg_bd (z' := ks0) rfl ?_
  refine areg_bd (z' := keyA key9) (fill_ar rfl rfl rfl rfl rfl) ?_
  refine areg_run 1 (by simp [push_cast, g1, o0A, hcl, zk_len]; exact rfl) ?_
  refine areg_bd (z' := ozA) rfl ?_
  refine areg_run 2 (by simp [push_cast, g1, freeS]; exact rfl) ?_
  refine areg_k [.ptr t.b t.l 0 [], .lit (tx txOther)] hN rfl (tgt_drawS _ _ _) hdk2 (by simp) (by simp [AS.ev, AV.place]) fun V5 => ?_
  refine areg_bsl (k := 32) (els := klA [oth]) (fill_ar rfl rfl rfl (by simp [AV.sz, AS.ev, AS.put, ho, bl_len, keyA]) rfl) ?_
  refine areg_k [freeI t.b t.l, ks0, .lit (jn 1), keyA key9, o0A chk, ozA, .sl 32 (klA [oth])] hN rfl (tgt_apply _ _ _ _ _ _ _) kb (by simp) (by simp) fun V6 => ?_
  refine areg_run 3 (by simp [push_cast]; exact rfl) ?_
  refine areg_al' (z' := ks0) rfl fun l8 => areg_end (by simp [push_cast, g1, g2, keysA]; exact rfl) ?_
  refine wp_sg ?_
  refine areg_bd (z' := ks0) rfl ?_
  refine areg_run 1 (by simp [push_cast, g1, o0A, hcl, zk_len]; exact rfl) ?_
  refine areg_bd (z' := ozA) rfl ?_
  refine areg_run 1 (by simp [push_cast, g1, hs]; exact rfl) ?_
  refine areg_cr (d := 61) rfl cc fun V7 => ?_
  refine areg_end (by simp [push_cast, g1, g2]; exact rfl) ?_
  refine wp_sg ?_
  refine areg_run 17 (by simp [push_cast, g1, rats1, ratA]; exact rfl) ?_
  refine areg_g (by simp [AS.ev, AS.put]) (areg_eq rfl rfl hq rfl rfl ?_)
  refine areg_run 23 (by simp [push_cast, g1, hs, klA]; exact rfl) ?_
  refine areg_g (by simp [AS.ev, AS.put]) (areg_eq (by simp [AS.ev, AS.put] <;> exact rfl) (by simp [AS.ev, AS.put] <;> exact rfl) hqk rfl rfl ?_)
  refine areg_end (by simp [push_cast]; exact rfl) (wp_ret' ?_)
  exact fin_tmp (by simp [RVal, AS.ev, AS.coe]) (by simp)
end Go.Cab

/- Secrets: whom an operation adds; the place of a wait. -/
-- TEXTS
-- KIT
namespace Go.Cab
open Go.RowKit
open Classical
def fb617 : AC := (.seq (.reg [⟨(.some 2), .none, (.box 71 (.tmp 0)), [], .none⟩, ⟨(.some 4), .none, (.mov (.const (.bool .false))), [], .none⟩]) (.seq (.reg [⟨(.some 5), .none, (.faddr 3 3 (.tmp 2)), [], .none⟩, ⟨(.some 6), .none, (.load .false 1 (.tmp 5)), [], .none⟩, ⟨(.some 7), .none, (.bin .eql (.tmp 6) (.const (jn 2))), [], .none⟩, ⟨(.some 8), .none, (.mov (.tmp 7)), [], .none⟩, ⟨(.some 9), (.some (8, .true)), (.faddr 4 4 (.tmp 2)), [], .none⟩, ⟨(.some 10), (.some (8, .true)), (.load .false 1 (.tmp 9)), [], .none⟩, ⟨(.some 11), (.some (8, .true)), (.mov (.tmp 1)), [], .none⟩, ⟨(.some 12), (.some (8, .true)), (.lcall 45 [(.tmp 10), (.tmp 11)]), [], .none⟩, ⟨(.some 13), .none, (.pick (.tmp 8) (.tmp 12) (.const (.bool .false))), [], .none⟩, ⟨(.some 4), .none, (.mov (.tmp 13)), [], .none⟩]) .ret))
def fc617 : FC := ⟨2, 14, [(.tmp 4)], fb617⟩
theorem fc617_eq : compF Go.Proofs.Tryd.prog 27 = some fc617 := by kernel_rfl
def fb618 : AC := (.seq (.reg [⟨(.some 3), .none, (.box 529 (.tmp 0)), [], .none⟩, ⟨(.some 4), .none, (.box 32 (.tmp 1)), [], .none⟩, ⟨(.some 5), .none, (.box 1 (.tmp 2)), [], .none⟩, ⟨(.some 6), .none, (.mov (.const (jn 0))), [], .none⟩]) (.seq (.reg [⟨(.some 7), .none, (.faddr 528 1 (.tmp 3)), [], .none⟩, ⟨(.some 8), .none, (.load .false 1 (.tmp 7)), [], .none⟩, ⟨(.some 9), .none, (.rdp (.mkfn (.func 47) 0) [(.tmp 4), (.tmp 5)]), [], .none⟩, ⟨(.some 10), .none, (.xc (.dir 46) [(.tmp 8), (.tmp 9)] [] []), [], .none⟩, ⟨(.some 6), .none, (.mov (.tmp 10)), [], .none⟩]) .ret))
def fc618 : FC := ⟨3, 11, [(.tmp 6)], fb618⟩
theorem fc618_eq : compF Go.Proofs.Tryd.prog 28 = some fc618 := by kernel_rfl
def fb619 : AC := (.seq (.reg [⟨(.some 3), .none, (.box 65 (.tmp 0)), [], .none⟩, ⟨(.some 4), .none, (.mov (.const (.bool .false))), [], .none⟩]) (.seq (.reg [⟨(.some 5), .none, (.faddr 0 0 (.tmp 3)), [], .none⟩, ⟨(.some 6), .none, (.load .true 32 (.tmp 5)), [], .none⟩, ⟨(.some 7), .none, (.load .true 32 (.tmp 1)), [], .none⟩, ⟨(.some 8), .none, (.eqv 23 .false (.tmp 6) (.tmp 7)), [], .none⟩, ⟨(.some 9), .none, (.mov (.tmp 8)), [], .none⟩, ⟨(.some 10), (.some (9, .true)), (.faddr 32 1 (.tmp 3)), [], .none⟩, ⟨(.some 11), (.some (9, .true)), (.load .false 1 (.tmp 10)), [], .none⟩, ⟨(.some 12), (.some (9, .true)), (.load .false 1 (.tmp 2)), [], .none⟩, ⟨(.some 13), (.some (9, .true)), (.bin .eql (.tmp 11) (.tmp 12)), [], .none⟩, ⟨(.some 14), .none, (.pick (.tmp 9) (.tmp 13) (.const (.bool .false))), [], .none⟩, ⟨(.some 4), .none, (.mov (.tmp 14)), [], .none⟩]) .ret))
def fc619 : FC := ⟨1, 15, [(.tmp 4)], fb619⟩
theorem fc619_eq : compF Go.Proofs.Tryd.prog 47 = some fc619 := by kernel_rfl
def fb633 : AC := (.seq (.reg [⟨(.some 4), .none, (.mov (.const (jn 0))), [], .none⟩]) (.seq (.seq (.reg [⟨(.some 6), .none, (.mov (.tmp 0)), [], .none⟩, ⟨(.some 7), .none, (.len .false (.tmp 6)), [], .none⟩, ⟨(.some 8), .none, (.mov (.const (jn 0))), [], .none⟩]) (.block 0 (.loop (.seq (.reg [⟨(.some 9), .none, (.bin .lss (.tmp 8) (.tmp 7)), [], .none⟩]) (.seq (.cond (.tmp 9) .skip (.exit 0)) (.seq (.block 1 (.seq (.reg [⟨(.some 10), .none, (.mov (.tmp 8)), [], .none⟩, ⟨(.some 5), .none, (.mov (.tmp 10)), [], .none⟩]) (.seq (.reg [⟨(.some 11), .none, (.mov (.tmp 1)), [], .none⟩, ⟨(.some 12), .none, (.mov (.tmp 0)), [], .none⟩, ⟨(.some 13), .none, (.mov (.tmp 5)), [], .none⟩, ⟨(.some 14), .none, (.iaddrS 65 (.tmp 12) (.tmp 13)), [], .none⟩, ⟨(.some 15), .none, (.load .true 65 (.tmp 14)), [], .none⟩, ⟨(.some 16), .none, (.xc .val [(.tmp 11), (.tmp 15)] [] []), [], .none⟩]) (.cond (.tmp 16) (.seq (.reg [⟨(.some 17), .none, (.mov (.tmp 5)), [], .none⟩, ⟨(.some 4), .none, (.mov (.tmp 17)), [], .none⟩]) .ret) .skip)))) (.reg [⟨(.some 18), .none, (.bin .add (.tmp 8) (.const (jn 1))), [], .none⟩, ⟨(.some 8), .none, (.mov (.tmp 18)), [], .none⟩]))))))) (.seq (.reg [⟨(.some 4), .none, (.mov (.const (.int .i64 (-1)))), [], .none⟩]) .ret)))
def fc633 : FC := ⟨2, 19, [(.tmp 4)], fb633⟩
theorem fc633_eq : compF Go.Proofs.Tryd.prog 46 = some fc633 := by kernel_rfl

def addsV (o : OpV) (who : Int) : Bool := decide (o.kind = 2) && o.who.any fun x => decide (who = x)
set_option maxHeartbeats 8000000 in
theorem adds_call {o : OpV} (ho : OpOk o) (who : Int) : PCall Go.Proofs.Tryd.prog 27 [opA o, .lit (ji who)] (.val (.lit (.bool (addsV o who)))) := by
  have h617 := fc617_eq
  have cc := containsN_call (v := who) (l := o.who) ho.who
  have hopA : opA o = .st [1, 1, 1, 1, 1, 32, 32, 1, 1] [.lit (ji o.author), .lit (wn o.seq), .sl 32 (klA o.parents), .lit (ji o.kind), .sl 1 (o.who.map fun x => AV.lit (ji x)), keyA o.ofk, keyA o.check, .lit (tx o.text), .sl 36 (o.boxes.map fun x => boxA x)] := rfl
  unfold addsV
  generalize hany : (o.who.any fun x => decide (who = x)) = any at *
  obtain ⟨_, _, _, _, o5, o6, _, _, _⟩ := ho
  generalize (o.boxes.map fun x => boxA x) = T at *
  generalize (o.who.map fun x => AV.lit (ji x)) = T2 at *
  rw [hopA]
  refine PCall.of h617 rfl ?_; show AC.wp _ fb617 (AS.init [.st [1, 1, 1, 1, 1, 32, 32, 1, 1] [.lit (ji o.author), .lit (wn o.seq), .sl 32 (klA o.parents), .lit (ji o.kind), .sl 1 T2, keyA o.ofk, keyA o.check, .lit (tx o.text), .sl 36 T], .lit (ji who)] 2 14) (fun x s => match x with | .exit _ => False | _ => Fin [(.tmp 4)] s _); unfold fb617 AS.init
  refine wp_sg (areg_bx rfl (by simp [AS.ev, AV.sz]) fun l1 => areg_end (by simp [push_cast]; exact rfl) ?_)
  refine wp_sg ?_
  have hk2 : binVal .eql (ji o.kind) (jn 2) = some (.bool (decide (o.kind = 2))) := bin_eqli _ _
  by_cases h : o.kind = 2
  · refine areg_run 7 (by simp [push_cast, hk2, h, o5, o6]; exact rfl) ?_
    refine areg_g (b := true) (by simp [AS.ev, AS.put]) ?_
    refine areg_lc (by simp [AS.ev, AS.lend, AS.lendF, AS.put, AOp.ro, AS.blk] <;> exact rfl) rfl cc ?_
    refine areg_end (by simp [push_cast]; exact rfl) (wp_ret' ?_)
    exact fin_tmp (by simp [RVal, AS.ev, AS.coe, h]) (by simp)
  · refine areg_run 7 (by simp [push_cast, hk2, h, o5, o6]; exact rfl) ?_
    refine areg_end (by simp [push_cast]; exact rfl) (wp_ret' ?_)
    exact fin_tmp (by simp [RVal, AS.ev, AS.coe, h]) (by simp)

/-! ### The place of a wait -/
def waitP (k : List UInt8) (who : Int) (w : WaitV) : Bool := decide (w.of_ = k) && decide (w.who = who)
def waitI (ws : List WaitV) (k : List UInt8) (who : Int) : Option Nat := idxQ (waitP k who) ws 0
set_option maxHeartbeats 8000000 in
theorem waitIs_call {H : List (Option Blk)} {c d : Nat} {lc ld : Nat × Nat} {k : List UInt8} {who : Int} (hc : H[c]? = some (some (.box lc 32 (keyA k)))) (hd : H[d]? = some (some (.box ld 1 (.lit (ji who))))) (hk : k.length = 32) (w : WaitV) (hw : w.of_.length = 32) (hw2 : w.key.length = 32) :
    XCall Go.Proofs.Tryd.prog 47 [waitA w, .ptr c lc 0 [], .ptr d ld 0 []] H fun r H' => r = .lit (.bool (waitP k who w)) ∧ H' = H := by
  have h619 := fc619_eq
  refine XCall.le ?_
  have lcc := (List.getElem?_eq_some_iff.1 hc).1
  have ldd := (List.getElem?_eq_some_iff.1 hd).1
  have e1 := eq_key hw hk
  unfold waitA waitP
  obtain ⟨of_, wh, key⟩ := w
  simp only at hw hw2 e1 ⊢
  refine XCall.ofC h619 (by show 3 ≤ 15; omega) ?_; show AC.wp _ fb619 ⟨H.length, [.st [32, 1, 32] [keyA of_, .lit (ji wh), keyA key], .ptr c lc 0 [], .ptr d ld 0 []] ++ List.replicate (15 - 3) .any, H ++ List.replicate 15 none⟩ (fun x s => match x with | .exit _ => False | _ => ∃ s1, Le s s1 ∧ FinX [(.tmp 4)] s1 _); unfold fb619
  generalize hN : H.length = N at *
  have q1 : ∀ L k, (H ++ L)[N + k]? = L[k]? := fun L k => cat1 N H L k hN
  have q2 : ∀ L k x, (H ++ L).set (N + k) x = H ++ L.set k x := fun L k x => cat2 N H L k x hN
  have q3 := fun L => (cat4 N H L c hN lcc).trans hc
  have q4 := fun L => (cat4 N H L d hN ldd).trans hd
  refine wp_sg (areg_bx rfl rfl fun l => areg_end (by simp [push_cast, q2]; exact rfl) ?_)
  refine wp_sg ?_
  refine areg_run 3 (by simp [push_cast, q1, q3, hw, hk]; exact rfl) ?_
  refine areg_eq (by simp [AS.ev, AS.put] <;> exact rfl) (by simp [AS.ev, AS.put] <;> exact rfl) e1 rfl rfl ?_
  have h2 : binVal .eql (ji wh) (ji who) = some (.bool (decide (wh = who))) := bin_eqli _ _
  generalize decide (wh = who) = b2 at *
  generalize decide (of_ = k) = b1 at *
  cases b1 with
  | false =>
    refine areg_end (by simp [push_cast, q1, q3, q4, h2]; exact rfl) (wp_ret' ?_)
    exact ⟨_, Le.refl _, finX1 (v := .lit (.bool false)) (by simp [AS.seals, RVals, RVal, AS.ev, AS.coe]) (by simp) ⟨.lit (.bool false), H, RelLe.refl _, by simp, HpLe.trim _ _, by simp, rfl⟩⟩
  | true =>
    refine areg_end (by simp [push_cast, q1, q3, q4, h2]; exact rfl) (wp_ret' ?_)
    exact ⟨_, Le.refl _, finX1 (v := .lit (.bool b2)) (by simp [AS.seals, RVals, RVal, AS.ev, AS.coe]) (by simp) ⟨.lit (.bool b2), H, RelLe.refl _, by simp, HpLe.trim _ _, by simp, rfl⟩⟩

set_option maxHeartbeats 8000000 in
theorem idxW_call {H : List (Option Blk)} {clo : AV} {g : FuncId} {as' : WaitV → List AV} {p : WaitV → Bool} {l : List (WaitV)} (htg : ∀ x, tgtA Go.Proofs.Tryd.prog .val [clo, waitA x] = some (g, as' x)) (hcl : clo.isTup = false)
    (hc : ∀ L, ∀ x ∈ l, XCall Go.Proofs.Tryd.prog g (as' x) (H ++ L) fun r H' => r = .lit (.bool (p x)) ∧ H' = H ++ L) (hks : l.length < 100000) :
    XCall Go.Proofs.Tryd.prog 46 [.sl 65 (l.map waitA), clo] H fun r H' => r = .lit (idxV (idxQ p l 0)) ∧ H' = H := by
  have h633 := fc633_eq
  refine XCall.le ?_
  have hml : (l.map waitA).length = l.length := List.length_map _
  have hget : ∀ i a, l[i]? = some a → (l.map waitA)[i]? = some (waitA a) := fun i a h => by rw [List.getElem?_map, h]; rfl
  generalize hT : (l.map waitA) = T at *
  refine XCall.of h633 rfl ?_; show AC.wp _ fb633 ⟨H.length, [.sl 65 T, clo] ++ List.replicate (19 - 2) .any, H ++ List.replicate 19 none⟩ (fun x s => match x with | .exit _ => False | _ => ∃ s1, Le s s1 ∧ FinX [(.tmp 4)] s1 _); unfold fb633
  generalize hN : H.length = N at *
  refine wp_sr (by simp [push_cast]; exact rfl) ?_
  refine wp_seq' (wp_seq' (wp_r (by simp [push_cast, hml]; exact rfl) ?_))
  refine wp_block' (wp_loop_m (fun i => ⟨N, [.sl 65 T, clo, .any, .any, .lit (jn 0), .any, .sl 65 T, .lit (jn l.length), .lit (jn i)] ++ List.replicate 10 .any, H ++ List.replicate 19 none⟩) (fun i => l.length - i) (fun i => idxQ p (l.drop i) i = idxQ p l 0 ∧ i ≤ l.length) 0 ?_ ⟨rfl, by simp⟩ ?_)
  · exact Le.mk rfl (by simp [leT]) (leH_refl _)
  · rintro i ⟨hI, hi⟩
    simp only at hI hi ⊢
    by_cases hlt : i < l.length
    · obtain ⟨x, hx⟩ : ∃ x, l[i]? = some x := ⟨_, List.getElem?_eq_getElem hlt⟩
      have hdrop : l.drop i = x :: l.drop (i + 1) := by
        rw [List.drop_eq_getElem_cons hlt]
        rw [List.getElem?_eq_getElem hlt] at hx
        rw [Option.some.inj hx]
      rw [hdrop, idxQ] at hI
      have c := fun L => hc L x (List.mem_of_getElem? hx)
      have g1 := hget i x hx
      have g2 : ∀ h, T[i]'h = waitA x := fun h => by rw [List.getElem?_eq_getElem h] at g1; exact Option.some.inj g1
      have q1 : i + 1 < 9223372036854775808 := by omega
      refine wp_sr (by simp [push_cast, hlt]; exact rfl) (wp_seq' (wp_cond_t (by simp [AS.ev]) (wp_skip' ?_)))
      refine wp_seq' (wp_block' (wp_sr (by simp [push_cast]; exact rfl) ?_))
      refine wp_seq' (wp_rg ?_)
      refine areg_run 5 (by simp [push_cast, g1, g2, hlt, hml, waitA]; exact rfl) ?_
      refine areg_xq (us := [clo, waitA x]) rfl (htg _) (c _) ⟨_, _, rfl, rfl⟩ (fun r hp' _ t' ht' => by cases ht') ?_
      rintro r H' ⟨rfl, rfl⟩
      refine areg_end (by simp [push_cast]; exact rfl) ?_
      by_cases hk : p x = true
      · rw [if_pos hk] at hI
        refine wp_cond_t (by simp [AS.ev, AS.put, hk]) ?_
        refine wp_sr (by simp [push_cast]; exact rfl) (wp_ret' ?_)
        exact ⟨_, Le.refl _, finX1 (v := .lit (jn i)) rfl (by simp) ⟨_, H, RelLe.refl _, by simp, HpLe.trim _ _, by rw [← hI]; rfl, rfl⟩⟩
      · rw [if_neg hk] at hI
        refine wp_cond_f (by simp [AS.ev, AS.put, hk]) (wp_skip' ?_)
        refine wp_r (by simp [push_cast, q1]; exact rfl) ?_
        exact Exists.intro (i + 1) ⟨⟨hI, by omega⟩, by omega, Le.mk rfl (by simp [leT]) (leH_refl _)⟩
    · have hin : i = l.length := by omega
      subst hin
      rw [List.drop_length, idxQ] at hI
      refine wp_sr (by simp [push_cast]; exact rfl) (wp_seq' (wp_cond_f (by simp [AS.ev]) (wp_exit' (if_hit rfl ?_))))
      refine wp_sr (by simp [push_cast]; exact rfl) (wp_ret' ?_)
      exact ⟨_, Le.refl _, finX1 (v := .lit (.int .i64 (-1))) rfl (by simp) ⟨_, H, RelLe.refl _, by simp, HpLe.trim _ _, by rw [← hI]; rfl, rfl⟩⟩

def cloW (c d : Nat) (lc ld : Nat × Nat) : AV := .fnv (.func 47) [] [.ptr c lc 0 [], .ptr d ld 0 []]
theorem tgt_cloW (c d : Nat) (lc ld : Nat × Nat) (x : AV) : tgtA Go.Proofs.Tryd.prog .val [cloW c d lc ld, x] = some (47, [x, .ptr c lc 0 [], .ptr d ld 0 []]) := by kernel_rfl
theorem mkfn_cloW (c d : Nat) (lc ld : Nat × Nat) : rdA Go.Proofs.Tryd.prog (fun _ => none) (.mkfn (.func 47) 0) [.ptr c lc 0 [], .ptr d ld 0 []] = some (cloW c d lc ld) := by kernel_rfl
set_option maxHeartbeats 8000000 in
theorem wait_call {rs : List Rat} {ws : List WaitV} (hrl : rs.length = 8) (hw : ∀ w ∈ ws, w.of_.length = 32 ∧ w.key.length = 32) (hwl : ws.length < 100000) {k : List UInt8} (hk : k.length = 32) (who : Int) :
    PCall Go.Proofs.Tryd.prog 28 [keysA rs (ws.map waitA), keyA k, .lit (ji who)] (.val (.lit (idxV (waitI ws k who)))) := by
  have h618 := fc618_eq
  have hcI : callable Go.Proofs.Tryd.prog 46 = true := by kernel_rfl
  have cc := fun (H : List (Option Blk)) (lc ld : Nat × Nat) (hc : H[4]? = some (some (.box lc 32 (keyA k)))) (hd : H[5]? = some (some (.box ld 1 (.lit (ji who))))) => idxW_call (H := H) (clo := cloW 4 5 lc ld) (g := 47) (as' := fun x => [waitA x, .ptr 4 lc 0 [], .ptr 5 ld 0 []]) (p := waitP k who) (l := ws) (fun x => tgt_cloW _ _ _ _ _) rfl
    (fun L x hx => waitIs_call (by rw [List.getElem?_append_left (List.getElem?_eq_some_iff.1 hc).1]; exact hc) (by rw [List.getElem?_append_left (List.getElem?_eq_some_iff.1 hd).1]; exact hd) hk x (hw x hx).1 (hw x hx).2) hwl
  have hA : (rs.map ratA).length = 8 := by rw [List.length_map]; exact hrl
  unfold waitI keysA
  generalize idxV (idxQ (waitP k who) ws 0) = iv at *
  generalize (ws.map waitA) = T at *
  generalize (rs.map ratA) = A at *
  refine PCall.of h618 rfl ?_; show AC.wp _ fb618 (AS.init [.st [528, 1] [.arr 66 A, .sl 65 T], keyA k, .lit (ji who)] 3 11) (fun x s => match x with | .exit _ => False | _ => Fin [(.tmp 6)] s _); unfold fb618 AS.init
  refine wp_sg (areg_bx rfl (by simp [AS.ev, AV.sz]) fun l3 => areg_bx rfl (by simp [AS.ev, AS.put, keyA_sz, hk]) fun l4 => areg_bx rfl rfl fun l5 => areg_end (by simp [push_cast]; exact rfl) ?_)
  refine wp_sg ?_
  refine areg_run 2 (by simp [push_cast, hA]; exact rfl) ?_
  refine areg_rdp (us := [.ptr 4 l4 0 [], .ptr 5 l5 0 []]) rfl (mkfn_cloW _ _ _ _) ?_
  refine areg_xq (us := [.sl 65 T, cloW 4 5 l4 l5]) rfl (by simp only [tgtA, tgtB, Option.bind_some, hcI, if_true]) (cc _ l4 l5 rfl rfl) ⟨_, _, rfl, rfl⟩ (fun r hp' _ t' ht' => by cases ht') ?_
  rintro r H' ⟨rfl, rfl⟩
  refine areg_end (by simp [push_cast]; exact rfl) (wp_ret' ?_)
  exact fin_tmp (by simp [RVal, AS.ev, AS.coe]) (by simp)
end Go.Cab

/- Secrets: one taken out of the waits, in place. -/
-- TEXTS
-- KIT
namespace Go.Cab
open Go.RowKit Go.Lib Go.Sort Go.Proofs

noncomputable def Zw : Array Value := Tryd.zeroCells83
theorem Zw_size : Zw.size = 65 := by kernel_rfl
theorem Zw_one : Zw.all (fun v => v.oneCell') = true := by kernel_rfl
/-- So many waits of nothing. -/
noncomputable def zlw (n : Nat) : List Value := (Builtin.zeroCells Zw n).toList
theorem zlw_len (n : Nat) : (zlw n).length = n * 65 := by
  unfold zlw
  rw [Array.length_toList, size_zeroCells, Zw_size]
theorem zlw_one {n : Nat} {v : Value} (h : v ∈ zlw n) : v.oneCell' = true := by
  unfold zlw Builtin.zeroCells at h
  rw [Array.toList_map, List.mem_map] at h
  obtain ⟨i, _, rfl⟩ := h
  have hi : i % Zw.size < Zw.size := Nat.mod_lt _ (by rw [Zw_size]; decide)
  show (Zw[i % Zw.size]!).oneCell' = true
  rw [getElem!_pos Zw (i % Zw.size) hi]
  exact Array.all_eq_true.1 Zw_one _ hi
theorem run_clear65 (W : World) (ty : TypeId) (b o n c : Nat) (hn : 0 < n) (hc : ∀ j, j < n * 65 → (W.cell? ⟨b, o + j, none⟩).isSome = true) (hf : ∀ j, j < n * 65 → W.frozen? ⟨b, o + j, none⟩ = false) :
    (Builtin.clear_ #[27] ty #[.slice (some ⟨b, o, none⟩) n c]).run Tryd.prog W = .ok (.tuple #[]) (W.setCells b o (zlw n)) := by
  have hv : ∀ w, (zeroValue 83).run Tryd.prog w = .ok (.agg Zw) w := Tryd.zeroValue83
  have hst := run_storeCells_cells (P := Tryd.prog) b o (zlw n) 0 W (by simpa [zlw_len] using hc) (by simpa [zlw_len] using hf) (by intro v hv'; exact zlw_one hv')
  simp only [Nat.add_zero] at hst
  obtain ⟨m, rfl⟩ : ∃ m, n = m + 1 := ⟨n - 1, by omega⟩
  have hz : (Value.agg (Zw)).cells = Zw := rfl
  simp [Builtin.clear_, run_underlying Tryd.underlying27, hv, hz, show (Builtin.zeroCells Zw (m + 1)).toList = zlw (m + 1) from rfl, hst]

set_option maxHeartbeats 4000000 in
set_option maxRecDepth 1000000 in
theorem del_raw (g cap i j n : Nat) (cs : List Value) (w : World) (hlen : cs.length = n * 65) (hcell : ∀ k u, cs[k]? = some u → w.cell? ⟨g, 0 + k, none⟩ = some u) (hfz : ∀ k, k < n * 65 → w.frozen? ⟨g, 0 + k, none⟩ = false)
    (h1c : ∀ u ∈ cs, u.oneCell' = true) (hcap : n ≤ cap) (hm : cap ≤ 9223372036854775807) (hij : i < j) (hj : j ≤ n) :
    Calls Tryd.prog 72 #[.slice (some ⟨g, 0, none⟩) n cap, .int .i64 i, .int .i64 j] w fun e w' => e = .returned (.slice (some ⟨g, 0, none⟩) (i + (n - j)) cap) ∧
      w' = (w.drew.setCells g (i * 65) (cs.drop (j * 65))).setCells g ((i + (n - j)) * 65) (zlw (j - i)) := by
  have mixed : Tryd.prog.follows .mixedOrders = true := by kernel_rfl
  obtain ⟨i0, hi0, hz0, hz1, hz2⟩ := info_parts (P := Tryd.prog) (e := 83) (by kernel_rfl : (Tryd.prog.info? 83).map (fun i => (i.zero, i.size, i.bytes)) = some (some (.agg Zw), 65, 72))
  have t0 := @Tryd.underlying0; have t3 := @Tryd.underlying3; have t4 := @Tryd.underlying4; have t27 := @Tryd.underlying27
  have heq : i ≠ j := by omega
  obtain ⟨news, hnews⟩ : ∃ news, news = cs.drop (j * 65) := ⟨_, rfl⟩
  have hnl : news.length = (n - j) * 65 := by rw [hnews, List.length_drop, hlen]; omega
  have hget : ∀ t u, news[t]? = some u → w.cell? ⟨g, 0 + (j * 65 + t), none⟩ = some u := fun t u hu => by
    rw [hnews, List.getElem?_drop] at hu
    exact hcell _ _ hu
  obtain ⟨A, hA, hsrc⟩ : ∃ A : Addr, (if cap = j then some (⟨g, 0, none⟩ : Addr) else some ⟨g, j * 65, none⟩) = some A ∧ Hid (∀ t u, news[t]? = some u → w.drew.cell? (A.add t) = some u) := by
    by_cases h : cap = j
    · refine ⟨⟨g, 0, none⟩, by simp [h], fun t u hu => ?_⟩
      have h0 : news.length = 0 := by rw [hnl]; omega
      rw [List.length_eq_zero_iff.1 h0] at hu
      simp at hu
    · refine ⟨⟨g, j * 65, none⟩, by simp [h], fun t u hu => ?_⟩
      rw [Addr.add_lit]
      have := hget t u hu
      rwa [Nat.zero_add] at this
  have s1 : Hid (news.length = (n - j) * 65) := hnl
  have s2 : Hid (∀ u ∈ news, u.oneCell' = true) := by
    intro u hu
    rw [hnews] at hu
    exact h1c u (List.mem_of_mem_drop hu)
  have s3 : Hid (∀ t, t < news.length → (w.drew.cell? ⟨g, 0 + i * 65 + t, none⟩).isSome = true ∧ w.drew.frozen? ⟨g, 0 + i * 65 + t, none⟩ = false) := by
    intro t ht
    rw [hnl] at ht
    have hlt : i * 65 + t < cs.length := by omega
    refine ⟨?_, ?_⟩
    · rw [Nat.add_assoc]
      show (w.cell? _).isSome = true
      rw [hcell (i * 65 + t) _ (List.getElem?_eq_getElem hlt)]; rfl
    · rw [Nat.add_assoc]; exact hfz _ (by omega)
  obtain ⟨W1, hW1⟩ : ∃ W1, W1 = w.drew.setCells g (0 + i * 65) news := ⟨_, rfl⟩
  have hcl : ∀ ty, (Builtin.clear_ #[27] ty #[.slice (some ⟨g, (i + (n - j)) * 65, none⟩) (n - (i + (n - j))) (cap - (i + (n - j)))]).run Tryd.prog W1 = .ok (.tuple #[]) (W1.setCells g ((i + (n - j)) * 65) (zlw (n - (i + (n - j))))) := by
    intro ty
    refine run_clear65 W1 ty g _ _ _ (by omega) (fun t ht => ?_) (fun t ht => ?_)
    · rw [hW1]
      refine World.isSome_setCells g news _ _ _ ?_
      have hlt : (i + (n - j)) * 65 + t < cs.length := by omega
      have := hcell _ _ (List.getElem?_eq_getElem hlt)
      rw [Nat.zero_add] at this
      show (w.cell? _).isSome = true
      rw [this]; rfl
    · rw [hW1, World.frozen?_setCells]
      have := hfz ((i + (n - j)) * 65 + t) (by omega)
      rwa [Nat.zero_add] at this
  have X : Aside (W1 = w.drew.setCells g (0 + i * 65) news) := hW1
  have hW : Hid (W1 = w.drew.setCells g (0 + i * 65) news) := hW1
  have hN : Hid (news = cs.drop (j * 65)) := hnews
  have hic : i ≤ cap := by omega
  have hjc : j ≤ cap := by omega
  clear hW1 hcell hfz h1c hnews hnl hget hlen
  go_enter Tryd.func72, Tryd.ntmps72
  go_wp2_with fail
  go_region_law_o (refine step_append_room rfl (.tmp 22) (.tmp 25) 27 rfl 83 i0 65 t27 hi0 hz1 g 0 i cap (by simp [Act.eval, Act.put]) A (n - j) (cap - j) news (by simp [Act.eval, Act.put]) s1.out hsrc.out s2.out (by omega) s3.out ?_; rw [← hW.out])
  go_wp2
  go_ret
  refine ⟨rfl, ?_⟩
  rw [X.out, hN.out, show n - (i + (n - j)) = j - i by omega, Nat.zero_add]

/-- The world with one row's object turned. -/
theorem turnRow {w0 wk w w' : World} {regs : List (Nat × Nat × Nat)} {St Imm : Nat → Nat → Prop} {hp : List (Option Blk)} {c g : Nat} {x x' : Blk} (hfr : Fr regs w0 w) (h1 : ImmOk w0 wk St Imm w) (h3 : HeapOk w0 regs Imm hp w) (hb : (hp[c]?).join = some x)
    (hfx : ∀ b o, x.foot b o ↔ b = g) (hfx' : ∀ b o, x'.foot b o ↔ b = g) (hI : ∀ o, ¬ Imm g o) (hos : w'.os = w.os) (htp : w'.tape = w.tape) (hot : w'.output = w.output) (hsize : w'.heap.size = w.heap.size)
    (hoth : ∀ k, k ≠ g → w'.heap[k]? = w.heap[k]?) (hfro : ∀ k o, w'.frozen? ⟨k, o, none⟩ = w.frozen? ⟨k, o, none⟩) (hx' : x'.ok Imm w') : Fr regs w0 w' ∧ ImmOk w0 wk St Imm w' ∧ HeapOk w0 regs Imm (hp.set c (some x')) w' := by
  obtain ⟨hok, hfoot⟩ := h3.ok _ _ hb
  have hcell : ∀ k o, k ≠ g → w'.cell? ⟨k, o, none⟩ = w.cell? ⟨k, o, none⟩ := fun k o hk => by
    simp only [World.cell?, hoth k hk]
  have hImm : ∀ b o, Imm b o → w'.cell? ⟨b, o, none⟩ = w.cell? ⟨b, o, none⟩ := fun b o hb => hcell b o (fun he => hI o (he ▸ hb))
  have hreg : g < w0.heap.size → ∀ o, inReg regs g o := fun h o => ((hfoot g o ((hfx g o).2 rfl)).2.resolve_left (by omega))
  refine ⟨?_, ⟨h1.sub, h1.old, fun b o hb => by rw [hImm b o hb]; exact h1.there b o hb, fun b o hb => by rw [hImm b o (h1.sub b o hb)]; exact h1.val b o hb⟩, ⟨fun k y hy => ?_, fun k k' y z hne hy hz => ?_⟩⟩
  · refine ⟨hos.trans hfr.os, htp.trans hfr.tape, hot.trans hfr.output, by rw [hsize]; exact hfr.size, fun k hk hr => ?_, fun b o hlb hn => ?_, fun b o hlb => by rw [hfro]; exact hfr.frozen b o hlb⟩
    · rw [hoth k (fun he => ?_)]
      · exact hfr.block k hk hr
      · subst he
        obtain ⟨q, hq, e, _⟩ := hreg hk 0
        exact hr q hq e.symm
    · rw [hcell b o (fun he => ?_)]
      · exact hfr.cell b o hlb hn
      · subst he; exact hn (hreg hlb o)
  · rcases hp_set hy with ⟨rfl, rfl⟩ | ⟨hkb, hy'⟩
    · refine ⟨hx', fun b' o hf => ?_⟩
      obtain rfl := (hfx' b' o).1 hf
      rw [hsize]
      exact hfoot b' o ((hfx b' o).2 rfl)
    · obtain ⟨hyo, hyf⟩ := h3.ok k y hy'
      have hne : ∀ b' o, y.foot b' o → b' ≠ g := fun b' o hf he => by
        subst he
        exact h3.apart k c y x hkb hy' hb b' o hf ((hfx b' o).2 rfl)
      refine ⟨hyo.keep (fun _ _ h => h) hImm (fun _ _ _ h => h) (fun b' o hf => hcell b' o (hne b' o hf)) (fun b' o _ => hfro b' o) (fun b' hw => hoth b' (hne b' 0 (Blk.whole_foot hw 0))), fun b' o hf => by rw [hsize]; exact hyf b' o hf⟩
  · intro b' o hf hf'
    rcases hp_set hy with ⟨rfl, rfl⟩ | ⟨hkb, hy'⟩
    · rcases hp_set hz with ⟨rfl, rfl⟩ | ⟨hkb', hz'⟩
      · exact hne rfl
      · exact h3.apart _ k' x z hne hb hz' b' o ((hfx b' o).2 ((hfx' b' o).1 hf)) hf'
    · rcases hp_set hz with ⟨rfl, rfl⟩ | ⟨hkb', hz'⟩
      · exact h3.apart k _ y x hne hy' hb b' o hf ((hfx b' o).2 ((hfx' b' o).1 hf'))
      · exact h3.apart k k' y z hne hy' hz' b' o hf hf'

theorem wsetCells (b : Nat) : ∀ (vs : List Value) (o : Nat) (w : World), w.setCells b o vs = Cab.setCells b o vs w
  | [], _, _ => rfl
  | v :: vs, o, w => by rw [World.setCells, Cab.setCells, wsetCells b vs]

set_option maxHeartbeats 4000000 in
theorem delete_call {H : List (Option Blk)} {c i j e : Nat} {V : Value} {els : List AV} (hc : H[c]? = some (some (.row e V 65 els 0))) (hij : i < j) (hj : j ≤ els.length) :
    XCall Go.Proofs.Tryd.prog 72 [.own c V, .lit (jn i), .lit (jn j)] H fun r H' => ∃ V', r = .own c V' ∧ H' = H.set c (some (.row e V' 65 (els.take i ++ els.drop j) 0)) := by
  intro w0 w regs Imm Vs hfr hth hheap hargs
  match Vs, hargs with
  | [V0, V1, V2], ⟨a0, a1, a2, _⟩ =>
    obtain ⟨rfl, _⟩ := a1.lit
    obtain ⟨rfl, _⟩ := a2.lit
    have hV : V0 = V := by
      rcases a0 with h | ⟨cs, h, e⟩
      · cases h
      · cases h; exact e
    subst hV
    have hcj : (H[c]?).join = some (.row e V0 65 els 0) := by rw [hc]; rfl
    obtain ⟨⟨cs, hR, hown, hsV, _, hnI⟩, hfoot⟩ := hheap.ok c _ hcj
    obtain ⟨hlen, hown2⟩ := hown
    rcases hown2 with ⟨_, hn⟩ | ⟨g, cap, cur, rfl, h0, hg, hcapn, hcapm, hcs, htake⟩
    · omega
    have hscs : ∀ u ∈ cs, sc u = true := hR.scs rfl
    have hcellw : ∀ k, w.cell? ⟨g, k, none⟩ = cur[k]? := fun k => cell_of_row w g k cur e (0, 0) hg
    have hcur : ∀ k u, cs[k]? = some u → cur[k]? = some u := fun k u hu => by
      rw [← htake, List.getElem?_take] at hu
      split at hu
      · simpa using hu
      · cases hu
    have hraw := del_raw g cap i j els.length cs w hlen (fun k u hu => by rw [Nat.zero_add, hcellw]; exact hcur k u hu) (fun k hk => frozen_of_row w g _ cur e hg) (fun u hu => oneCell_of_sc (hscs u hu)) hcapn (by simp only [maxLen] at hcapm; omega) hij hj
    refine Calls.mono hraw ?_
    rintro e' w' ⟨rfl, rfl⟩
    rw [wsetCells, wsetCells]
    have hel : (els.take i ++ els.drop j).length = i + (els.length - j) := by rw [List.length_append, List.length_take, List.length_drop]; omega
    have hnl : (cs.drop (j * 65)).length = (els.length - j) * 65 := by rw [List.length_drop, hlen]; omega
    have hdrew : w.drew.heap[g]? = some (.cells cur e (0, 0)) := hg
    obtain ⟨cur1, hg1, hs1⟩ := setCells_heap_same g (cs.drop (j * 65)) (i * 65) w.drew cur e (0, 0) hdrew
    obtain ⟨cur2, hg2, hs2⟩ := setCells_heap_same g (zlw (j - i)) ((i + (els.length - j)) * 65) _ cur1 e (0, 0) hg1
    have hw2 := setCells_os g (zlw (j - i)) ((i + (els.length - j)) * 65) (Cab.setCells g (i * 65) (cs.drop (j * 65)) w.drew)
    have hw1 := setCells_os g (cs.drop (j * 65)) (i * 65) w.drew
    have hz2 := setCells_size g (zlw (j - i)) ((i + (els.length - j)) * 65) (Cab.setCells g (i * 65) (cs.drop (j * 65)) w.drew)
    have hz1 := setCells_size g (cs.drop (j * 65)) (i * 65) w.drew
    have hcell2 : ∀ k, k < (i + (els.length - j)) * 65 → (Cab.setCells g ((i + (els.length - j)) * 65) (zlw (j - i)) (Cab.setCells g (i * 65) (cs.drop (j * 65)) w.drew)).cell? ⟨g, k, none⟩ = (cs.take (i * 65) ++ cs.drop (j * 65))[k]? := fun k hk => by
      rw [setCells_out _ _ _ _ _ _ (.inr (.inl hk))]
      have hlt : (cs.take (i * 65)).length = i * 65 := by rw [List.length_take, hlen]; omega
      by_cases hki : k < i * 65
      · rw [setCells_out _ _ _ _ _ _ (.inr (.inl hki)), List.getElem?_append_left (by omega), List.getElem?_take, if_pos hki]
        have h2 : k < cs.length := by omega
        show w.cell? ⟨g, k, none⟩ = _
        rw [hcellw, List.getElem?_eq_getElem h2]
        exact hcur k _ (List.getElem?_eq_getElem h2)
      · obtain ⟨t, rfl⟩ : ∃ t, k = i * 65 + t := ⟨k - i * 65, by omega⟩
        have h2 : t < (cs.drop (j * 65)).length := by omega
        rw [List.getElem?_append_right (by omega), hlt, Nat.add_sub_cancel_left, List.getElem?_eq_getElem h2]
        refine setCells_in g _ _ _ (fun q hq => ?_) t _ (List.getElem?_eq_getElem h2)
        show (w.cell? _).isSome = true
        have h3 : i * 65 + q < cs.length := by omega
        rw [hcellw, hcur _ _ (List.getElem?_eq_getElem h3)]; rfl
    generalize hW2 : Cab.setCells g ((i + (els.length - j)) * 65) (zlw (j - i)) (Cab.setCells g (i * 65) (cs.drop (j * 65)) w.drew) = W2 at *
    have hoth : ∀ k, k ≠ g → W2.heap[k]? = w.heap[k]? := fun k hk => by
      rw [← hW2, setCells_heap_other _ _ _ _ _ hk, setCells_heap_other _ _ _ _ _ hk]; rfl
    have hfro : ∀ k o, W2.frozen? ⟨k, o, none⟩ = w.frozen? ⟨k, o, none⟩ := fun k o => by
      rw [← hW2, setCells_frozen, setCells_frozen]; rfl
    have hng : ∀ o, ¬ Imm g o := fun o => hnI g o rfl (by omega)
    have hImmW : ∀ b o, Imm b o → W2.cell? ⟨b, o, none⟩ = w.cell? ⟨b, o, none⟩ := fun b o hb => by
      have : b ≠ g := fun he => hng o (he ▸ hb)
      simp only [World.cell?, hoth b this]
    have hR' : R Imm W2 (.arr 65 (els.take i ++ els.drop j)) (cs.take (i * 65) ++ cs.drop (j * 65)) := (R.app (R_arr_drop i hR).2 (R_arr_drop j hR).1).mono (fun _ _ h => h) hImmW
    have hcl : (cs.take (i * 65) ++ cs.drop (j * 65)).length = (i + (els.length - j)) * 65 := by rw [List.length_append, List.length_take, hnl, hlen]; omega
    have hx' : (Blk.row e (.slice (some ⟨g, 0, none⟩) (i + (els.length - j)) cap) 65 (els.take i ++ els.drop j) 0).ok Imm W2 := by
      refine ⟨_, hR', ⟨by rw [hel]; exact hcl, .inr ⟨g, cap, cur2, by rw [hel], Nat.zero_le _, hg2, by rw [hel]; omega, hcapm, by rw [hs2, hs1]; exact hcs, ?_⟩⟩, rfl, Nat.zero_le _, fun b o hb _ => by
        have : g = b := by simpa [Value.ownBlock] using hb
        subst this
        exact hng o⟩
      rw [hel]
      apply List.ext_getElem?
      intro k
      rw [List.getElem?_take]
      by_cases hk : k < (i + (els.length - j)) * 65
      · rw [if_pos hk, ← hcell2 k hk, cell_of_row W2 g k cur2 e (0, 0) hg2]
        simp
      · rw [if_neg hk, List.getElem?_eq_none (by omega)]
    have hf0 : ∀ (n' : Nat) (es : List AV) (b o : Nat), (Blk.row e (.slice (some ⟨g, 0, none⟩) n' cap) 65 es 0).foot b o ↔ b = g := fun n' es b o => by
      simp only [Blk.foot, Value.ownBlock, Option.map_some, Option.some.injEq]
      exact eq_comm
    obtain ⟨f1, f2, f3⟩ := turnRow (wk := w) (St := Imm) hfr ⟨fun _ _ h => h, fun _ _ h _ => h, hth.there, fun _ _ _ => rfl⟩ hheap hcj (hf0 _ _) (hf0 (i + (els.length - j)) (els.take i ++ els.drop j)) hng (hw2.1.trans hw1.1) (hw2.2.1.trans hw1.2.1) (hw2.2.2.trans hw1.2.2) (hz2.trans hz1) hoth hfro hx'
    exact ⟨_, .own c (.slice (some ⟨g, 0, none⟩) (i + (els.length - j)) cap), _, Imm, rfl, ⟨_, rfl, rfl⟩, f1, f2, .inr ⟨_, .own c _ rfl, rfl⟩, by simp, f3⟩
end Go.Cab

/- Secrets: the author's ratchet given; what is said; an addition acknowledged. -/
-- TEXTS
-- KIT
namespace Go.Cab
open Go.RowKit
open Classical
def fb624 : AC := (.seq (.reg [⟨(.some 2), .none, (.mov (.const (.bool .false))), [], .none⟩]) (.seq (.seq (.reg [⟨(.some 3), .none, (.mov (.tmp 0)), [], .none⟩, ⟨(.some 4), .none, (.nilc (.tmp 3)), [], .none⟩, ⟨(.some 5), .none, (.faddr 705 6 (.tmp 4)), [], .none⟩, ⟨(.some 6), .none, (.load .false 1 (.tmp 5)), [], .none⟩, ⟨(.some 7), .none, (.len .false (.tmp 6)), [], .none⟩, ⟨(.some 8), .none, (.bin .neq (.tmp 7) (.const (jn 1))), [], .none⟩]) (.cond (.tmp 8) (.seq (.reg [⟨(.some 2), .none, (.mov (.const (.bool .false))), [], .none⟩]) .ret) .skip)) (.seq (.reg [⟨(.some 9), .none, (.mov (.tmp 0)), [], .none⟩, ⟨(.some 10), .none, (.xc (.dir 31) [(.tmp 9)] [0, 1000000, 1000000] []), [], .none⟩, ⟨(.some 11), .none, (.mov (.tmp 0)), [], .none⟩, ⟨(.some 12), .none, (.nilc (.tmp 11)), [], .none⟩, ⟨(.some 13), .none, (.faddr 705 6 (.tmp 12)), [], .none⟩, ⟨(.some 14), .none, (.load .false 1 (.tmp 13)), [], (.some 0)⟩, ⟨(.some 15), .none, (.iaddrS 32 (.tmp 14) (.const (jn 0))), [], (.some 1000000)⟩, ⟨(.some 16), .none, (.load .true 32 (.tmp 15)), [], (.some 1000000)⟩, ⟨(.some 17), .none, (.build (.st [1, 1, 32, 32] [(.lit (.bool .false)), (.lit (.bool .false)), (.arr 1 (List.replicate 32 (.lit (bn 0)))), (.arr 1 (List.replicate 32 (.lit (bn 0))))]) [(0, (.const (.bool .true))), (2, (.tmp 16))]), [], .none⟩, ⟨(.some 18), .none, (.nilc (.tmp 10)), [], .none⟩, ⟨.none, .none, (.store 66 (.tmp 18) (.tmp 17)), [], .none⟩]) (.seq (.reg [⟨(.some 2), .none, (.mov (.const (.bool .true))), [], .none⟩]) .ret))))
def fc624 : FC := ⟨1, 19, [(.tmp 2)], fb624⟩
theorem fc624_eq : compF Go.Proofs.Tryd.prog 68 = some fc624 := by kernel_rfl
def fb630 : AC := (.seq (.reg [⟨(.some 2), .none, (.mov (.const (.bool .false))), [], .none⟩]) (.seq (.seq (.reg [⟨(.some 3), .none, (.mov (.tmp 0)), [], .none⟩, ⟨(.some 4), .none, (.nilc (.tmp 3)), [], .none⟩, ⟨(.some 5), .none, (.faddr 634 5 (.tmp 4)), [], .none⟩, ⟨(.some 6), .none, (.load .true 71 (.tmp 5)), [], (.some 0)⟩, ⟨(.some 7), .none, (.mov (.tmp 0)), [], .none⟩, ⟨(.some 8), .none, (.nilc (.tmp 7)), [], .none⟩, ⟨(.some 9), .none, (.faddr 530 2 (.tmp 8)), [], .none⟩, ⟨(.some 10), .none, (.load .false 1 (.tmp 9)), [], (.some 0)⟩, ⟨(.some 11), .none, (.callv 27 [(.tmp 6), (.tmp 10)]), [], (.some 1000000)⟩, ⟨(.some 12), .none, (.mov (.tmp 11)), [], .none⟩, ⟨(.some 13), (.some (12, .true)), (.mov (.tmp 0)), [], .none⟩, ⟨(.some 14), (.some (12, .true)), (.xc (.dir 68) [(.tmp 13)] [] []), [], .none⟩, ⟨(.some 15), (.some (12, .true)), (.un .not (.tmp 14)), [], .none⟩, ⟨(.some 16), .none, (.pick (.tmp 12) (.tmp 15) (.const (.bool .false))), [], .none⟩, ⟨(.some 17), .none, (.mov (.tmp 16)), [], .none⟩, ⟨(.some 18), (.some (17, .false)), (.mov (.tmp 0)), [], .none⟩, ⟨(.some 19), (.some (17, .false)), (.xc (.dir 69) [(.tmp 18)] [] []), [], .none⟩, ⟨(.some 20), (.some (17, .false)), (.un .not (.tmp 19)), [], .none⟩, ⟨(.some 21), .none, (.pick (.tmp 17) (.const (.bool .true)) (.tmp 20)), [], .none⟩]) (.cond (.tmp 21) (.seq (.reg [⟨(.some 2), .none, (.mov (.const (.bool .false))), [], .none⟩]) .ret) .skip)) (.seq (.reg [⟨(.some 22), .none, (.mov (.tmp 0)), [], .none⟩, ⟨(.some 23), .none, (.mov (.tmp 0)), [], .none⟩, ⟨(.some 24), .none, (.nilc (.tmp 23)), [], .none⟩, ⟨(.some 25), .none, (.faddr 0 0 (.tmp 24)), [], .none⟩, ⟨(.some 26), .none, (.load .false 1 (.tmp 25)), [], .none⟩, ⟨(.some 27), .none, (.xc (.inv "Hash") [(.tmp 26), (.const (tx [97, 100, 100])), (.const (.slice .none 0 0))] [] []), [], .none⟩, ⟨(.some 28), .none, (.icall 70 (.tmp 22) [(.tmp 27)]), [], .none⟩]) (.seq (.reg [⟨(.some 2), .none, (.mov (.const (.bool .true))), [], .none⟩]) .ret))))
def fc630 : FC := ⟨1, 29, [(.tmp 2)], fb630⟩
theorem fc630_eq : compF Go.Proofs.Tryd.prog 52 = some fc630 := by kernel_rfl
def fb631 : AC := (.seq (.reg [⟨(.some 2), .none, (.mov (.const (.bool .false))), [], .none⟩]) (.seq (.reg [⟨(.some 3), .none, (.mov (.tmp 0)), [], .none⟩, ⟨(.some 4), .none, (.icall 69 (.tmp 3) []), [], .none⟩, ⟨(.some 2), .none, (.mov (.tmp 4)), [], .none⟩]) .ret))
def fc631 : FC := ⟨1, 5, [(.tmp 2)], fb631⟩
theorem fc631_eq : compF Go.Proofs.Tryd.prog 53 = some fc631 := by kernel_rfl

def txAdd : List UInt8 := [97, 100, 100]
def txWelcome : List UInt8 := [119, 101, 108, 99, 111, 109, 101]
def hshT (s : List UInt8) : Term := ⟨2, s, []⟩
/-- A ratchet as it was given. -/
def ratG (g : List UInt8) : Rat := ⟨true, false, g, zk⟩
def givX (x : StV) (a : Nat) (g : List UInt8) : StV := rX x (x.rats.set a (ratG g))
theorem tgt_given (x : AV) : tgtA Go.Proofs.Tryd.prog (.dir 68) [x] = some (68, [x]) := by kernel_rfl
theorem tgt_known (x : AV) : tgtA Go.Proofs.Tryd.prog (.dir 69) [x] = some (69, [x]) := by kernel_rfl
theorem hsh_k {G : List (Option Blk)} {t : Tb} {S : Sb} {x0 : StV} {Vc0 V : Value} {ts0 ts : List Term} (hh : StT G t S x0 Vc0 V ts0) (x : StV) (Vc : Value) (hn : ts.length < 100000) {s : List UInt8} (hs : s.length < 100000) :
    KC Go.Proofs.Tryd.prog 108 [.ptr t.b t.l 0 [], .lit (tx s), .lit (.slice none 0 0)] (stOf G t S x Vc) t ts (keyA (nameK (putN ts (hshT s)))) (putT ts (hshT s)) :=
  KC.args (vs' := [.ptr t.b t.l 0 [], .lit (tx s), .sl 32 (klA [])]) ⟨RelLe.refl _, RelLe.refl _, RelLe.nil 32, trivial⟩ (hash_k (hh.st.tb hh.tb x Vc) hn hs (ks := []) (by simp) (by simp))

/-- Not one key. -/
theorem given_none {G : List (Option Blk)} {t : Tb} {S : Sb} {x : StV} {Vc V : Value} {ts : List Term} (hh : StT G t S x Vc V ts) (hg : x.got.length ≠ 1) (hg2 : x.got.length < 9223372036854775808) :
    XCall Go.Proofs.Tryd.prog 68 [.ptr S.b S.l 0 []] G fun r' H' => r' = .lit (.bool false) ∧ ∃ V' Vc', H' = tbOf (stOf G t S x Vc') t V' ts := by
  have h624 := fc624_eq
  refine XCall.le ?_
  have hself := hh.self
  have gb := hh.gb
  have hgl := klA_len x.got
  refine XCall.of h624 rfl ?_; show AC.wp _ fb624 ⟨G.length, [.ptr S.b S.l 0 []] ++ List.replicate (19 - 1) .any, G ++ List.replicate 19 none⟩ (fun x s => match x with | .exit _ => False | _ => ∃ s1, Le s s1 ∧ FinX [(.tmp 2)] s1 _); unfold fb624
  rw [← hself]
  unfold stOf
  rw [stB_len]
  generalize hN : G.length = N at *
  refine wp_sr (by simp [push_cast]; exact rfl) ?_
  refine wp_seq' (wp_sr (by simp [push_cast, gb, sbk, stA, hgl, hg]; exact rfl) ?_)
  refine wp_cond_t (by simp [AS.ev]) (wp_sr (by simp [push_cast]; exact rfl) (wp_ret' ?_))
  exact ⟨_, Le.refl _, finX1 (v := .lit (.bool false)) (by simp [AS.seals, RVals, RVal, AS.ev, AS.coe]) (by simp) ⟨_, _, RelLe.refl _, by simp, HpLe.trim _ _, rfl, V, Vc, (hh.of_of x x Vc Vc V V ts ts).symm⟩⟩
set_option maxHeartbeats 16000000 in
theorem given_call {G : List (Option Blk)} {t : Tb} {S : Sb} {x : StV} {Vc V : Value} {ts : List Term} (hh : StT G t S x Vc V ts) {a : Nat} (ha : AuOk x a) {g : List UInt8} (hgg : x.got = [g]) (hgs : g.length = 32) :
    XCall Go.Proofs.Tryd.prog 68 [.ptr S.b S.l 0 []] G fun r' H' => r' = .lit (.bool true) ∧ ∃ V' Vc', H' = tbOf (stOf G t S (givX x a g) Vc') t V' ts := by
  have h624 := fc624_eq
  refine XCall.le ?_
  have hself := hh.self
  have gb := hh.gb
  have gbs := hh.gbs
  have ac := fun Vc V ts L => author_call (G := tbOf (stB G S (sbk t S x Vc) (swk x Vc)) t V ts ++ L) (gb _ _ _ _ _) ha
  obtain ⟨h1, h2, h3⟩ := ha
  have hgl1 : (klA x.got).length = 1 := by rw [hgg]; rfl
  have hgl2 : (klA x.got)[0]? = some (keyA g) := by rw [hgg]; rfl
  have hgl3 : ∀ h, (klA x.got)[0]'h = keyA g := fun h => by rw [List.getElem?_eq_getElem h] at hgl2; exact Option.some.inj hgl2
  have hA : (x.rats.map ratA).length = 8 := by rw [List.length_map]; exact h3
  have hwA : a < (x.rats.map ratA).length := by omega
  obtain ⟨r0, hr0⟩ : ∃ r0, x.rats[a]? = some r0 := ⟨_, List.getElem?_eq_getElem (by omega)⟩
  have hg : (x.rats.map ratA)[a]? = some (ratA r0) := by rw [List.getElem?_map, hr0]; rfl
  have hg4 : ∀ h, (x.rats.map ratA)[a]'h = ratA r0 := fun h => by rw [List.getElem?_eq_getElem h] at hg; exact Option.some.inj hg
  have e1 : ∀ n, 1 + (a * 66 + n) = 1 + a * 66 + n := fun n => by omega
  have hfin : (x.rats.map ratA).set a (.st [1, 1, 32, 32] [.lit (.bool true), .lit (.bool false), keyA g, keyA zk]) = (givX x a g).rats.map ratA := by simp [givX, rX, List.map_set, ratA, ratG]
  refine XCall.of h624 rfl ?_; show AC.wp _ fb624 ⟨G.length, [.ptr S.b S.l 0 []] ++ List.replicate (19 - 1) .any, G ++ List.replicate 19 none⟩ (fun x s => match x with | .exit _ => False | _ => ∃ s1, Le s s1 ∧ FinX [(.tmp 2)] s1 _); unfold fb624
  rw [← hself]
  unfold stOf
  rw [stB_len]
  generalize hN : G.length = N at *
  refine wp_sr (by simp [push_cast]; exact rfl) ?_
  refine wp_seq' (wp_sr (by simp [push_cast, gb, sbk, stA, hgl1]; exact rfl) ?_)
  refine wp_cond_f (by simp [AS.ev]) (wp_skip' ?_)
  refine wp_sg ?_
  refine areg_run 1 (by simp [push_cast]; exact rfl) ?_
  refine areg_xq (us := [.ptr S.b S.l 0 []]) rfl (tgt_author _) (ac _ _ _ _) ⟨_, _, rfl, rfl⟩ (fun r hp' hK t' ht' b hb => by obtain ⟨_, rfl⟩ := hK; rfl) ?_
  rintro r' H' ⟨rfl, rfl⟩
  refine areg_run 6 (by simp [push_cast, autP, gb, sbk, stA, hgl1, hgl2, hgl3, hgs]; exact rfl) ?_
  refine areg_bd (z' := .st [1, 1, 32, 32] [.lit (.bool true), .lit (.bool false), keyA g, keyA zk]) (by rw [zk_eq]; exact fill_st rfl rfl rfl rfl rfl (fill_st rfl rfl rfl rfl (by simp [AV.sz, AS.ev, AS.put, keyA, hgs, bl_len]) rfl)) ?_
  refine areg_end (by simp [push_cast, autP, gb, gbs, sbk, stA, hA, hwA, hg, hg4, h2, e1, zk_len, ratA, hgs]; exact rfl) ?_
  refine wp_sr (by simp [push_cast]; exact rfl) (wp_ret' ?_)
  refine ⟨_, Le.refl _, finX1 (v := .lit (.bool true)) (by simp [AS.seals, RVals, RVal, AS.ev, AS.coe]) (by simp) ⟨_, _, RelLe.refl _, by simp, HpLe.trim _ _, rfl, V, Vc, ?_⟩⟩
  refine Eq.trans ?_ (hh.of_of x (givX x a g) Vc Vc V V ts ts).symm
  unfold stOf sbk stA
  rw [← hfin]
  rfl

theorem say_call {G : List (Option Blk)} {t : Tb} {S : Sb} {x : StV} {Vc V : Value} {ts : List Term} (hh : StT G t S x Vc V ts) {a : Nat} (ha : AuOk x a) {r : Rat} (hr : x.rats[a]? = some r) :
    XCall Go.Proofs.Tryd.prog 53 [.ptr S.b S.l 0 []] G fun r' H' => r' = .lit (.bool r.known) ∧ ∃ V' Vc', H' = tbOf (stOf G t S x Vc') t V' ts := by
  have h631 := fc631_eq
  refine XCall.le ?_
  have hself := hh.self
  have gb := hh.gb
  have kn := fun Vc V ts L => knownS_call (G := tbOf (stB G S (sbk t S x Vc) (swk x Vc)) t V ts ++ L) (gb _ _ _ _ _) ha hr
  refine XCall.of h631 rfl ?_; show AC.wp _ fb631 ⟨G.length, [.ptr S.b S.l 0 []] ++ List.replicate (5 - 1) .any, G ++ List.replicate 5 none⟩ (fun x s => match x with | .exit _ => False | _ => ∃ s1, Le s s1 ∧ FinX [(.tmp 2)] s1 _); unfold fb631
  rw [← hself]
  unfold stOf
  rw [stB_len]
  generalize hN : G.length = N at *
  refine wp_sr (by simp [push_cast]; exact rfl) (wp_sg ?_)
  refine areg_run 1 (by simp [push_cast]; exact rfl) ?_
  refine areg_xc (vs := [.ptr S.b S.l 0 []]) rfl (kn _ _ _ _) ⟨_, _, rfl, rfl⟩ ?_
  rintro r' H' ⟨rfl, rfl⟩
  refine areg_end (by simp [push_cast]; exact rfl) (wp_ret' ?_)
  exact ⟨_, Le.refl _, finX1 (v := .lit (.bool r.known)) (by simp [AS.seals, RVals, RVal, AS.ev, AS.coe]) (by simp) ⟨_, _, RelLe.refl _, by simp, HpLe.trim _ _, rfl, V, Vc, (hh.of_of x x Vc Vc V V ts ts).symm⟩⟩
end Go.Cab

/- Secrets: an addition acknowledged. -/
-- TEXTS
-- KIT
namespace Go.Cab
open Go.RowKit
open Classical

/-- A hash and a step. -/
def stepH (ts : List Term) (x : StV) (a : Nat) (r : Rat) (s : List UInt8) : StV × List Term :=
  let k := nameK (putN ts (hshT s))
  let v := twoV (putT ts (hshT s)) txRatchet [r.key, k]
  (stepX x a r v.1, v.2)
/-- What is known of the author then: it may have been given. -/
def entG (b : Bool) (x : StV) (a : Nat) (r : Rat) : Option (StV × Rat) :=
  if b then (match x.got with | [g] => some (givX x a g, ratG g) | _ => none) else if r.known then some (x, r) else none
def addAckV (ts : List Term) (x : StV) (a : Nat) (r : Rat) : StV × List Term :=
  match entG (addsV x.of_ x.me) x a r with
  | some y => stepH ts y.1 a y.2 txAdd
  | none => (x, ts)
theorem entG_none {b : Bool} {x : StV} {a : Nat} {r : Rat} (h : x.got.length ≠ 1) (hb : b = true) : entG b x a r = none := by
  unfold entG
  rw [if_pos hb]
  split
  · rename_i g e; rw [e] at h; exact absurd rfl h
  · rfl
theorem got_one {x : StV} (h : x.got.length = 1) : ∃ g, x.got = [g] := by
  match hx : x.got, h with
  | [g], _ => exact ⟨g, rfl⟩
theorem entG_ok {b : Bool} {x x1 : StV} {a : Nat} {r r1 : Rat} (ha : AuOk x a) (hr : x.rats[a]? = some r) (hk : r.key.length = 32 ∧ r.chain.length = 32) (hg : ∀ g ∈ x.got, g.length = 32) (h : entG b x a r = some (x1, r1)) : AuOk x1 a ∧ x1.rats[a]? = some r1 ∧ r1.key.length = 32 ∧ r1.chain.length = 32 ∧ r1.known = true := by
  unfold entG at h
  split at h
  · split at h <;> try (cases h; done)
    rename_i g e
    cases h
    refine ⟨⟨ha.au, ha.lt, by simp [givX, rX, ha.len]⟩, ?_, hg g (by rw [e]; simp), rfl, rfl⟩
    show (x.rats.set a (ratG g))[a]? = _
    rw [List.getElem?_set_self (by rw [ha.len]; exact ha.lt)]
  · split at h <;> try (cases h; done)
    rename_i hkn
    cases h
    exact ⟨ha, hr, hk.1, hk.2, hkn⟩

set_option maxHeartbeats 32000000 in
theorem addAck_call {G : List (Option Blk)} {t : Tb} {S : Sb} {x : StV} {Vc V : Value} {ts : List Term} (hh : StT G t S x Vc V ts) (hn : ts.length + 10 < 100000) (ho : OpOk x.of_) {a : Nat} (ha : AuOk x a) {r : Rat} (hr : x.rats[a]? = some r) (hrk : r.key.length = 32 ∧ r.chain.length = 32) (hg32 : ∀ g ∈ x.got, g.length = 32) (hgl : x.got.length < 9223372036854775808) :
    XCall Go.Proofs.Tryd.prog 52 [.ptr S.b S.l 0 []] G fun r' H' => r' = .lit (.bool (entG (addsV x.of_ x.me) x a r).isSome) ∧ ∃ V' Vc', H' = tbOf (stOf G t S (addAckV ts x a r).1 Vc') t V' (addAckV ts x a r).2 := by
  have h630 := fc630_eq
  refine XCall.le ?_
  have hself := hh.self
  have gb := hh.gb
  have kn := fun Vc V ts L => knownS_call (G := tbOf (stB G S (sbk t S x Vc) (swk x Vc)) t V ts ++ L) (gb _ _ _ _ _) ha hr
  have ad := adds_call ho x.me
  have hok := fun x1 r1 => entG_ok (b := addsV x.of_ x.me) (x1 := x1) (r1 := r1) ha hr hrk hg32
  have hv : ∀ x1 r1, entG (addsV x.of_ x.me) x a r = some (x1, r1) → addAckV ts x a r = stepH ts x1 a r1 txAdd := fun x1 r1 e => by unfold addAckV; rw [e]
  have hv0 : entG (addsV x.of_ x.me) x a r = none → addAckV ts x a r = (x, ts) := fun e => by unfold addAckV; rw [e]
  generalize addAckV ts x a r = av at *
  have gvN : x.got.length ≠ 1 → SC Go.Proofs.Tryd.prog 68 [.ptr S.b S.l 0 []] G t S x ts (.lit (.bool false)) x ts := fun h => SC.of hh fun H V Vc hh => given_none hh h hgl
  have gvS : ∀ g, x.got = [g] → SC Go.Proofs.Tryd.prog 68 [.ptr S.b S.l 0 []] G t S x ts (.lit (.bool true)) (givX x a g) ts := fun g h => SC.of hh fun H V Vc hh => given_call hh ha h (hg32 g (by rw [h]; simp))
  have hlen := nameK_len (putN ts (hshT txAdd))
  have hpl := putT_len ts (hshT txAdd)
  have hkk := fun x1 Vc1 => hsh_k hh x1 Vc1 (ts := ts) (by omega) (s := txAdd) (by decide)
  have hst := fun x1 r1 e => let ⟨h1, h2, h3, h4, _⟩ := hok x1 r1 e; step_sc hh (x := x1) (ts := putT ts (hshT txAdd)) (by omega) h1 h2 h3 h4 hlen
  have hstp : ∀ x1 r1, stepH ts x1 a r1 txAdd = (stepX x1 a r1 (twoV (putT ts (hshT txAdd)) txRatchet [r1.key, nameK (putN ts (hshT txAdd))]).1, (twoV (putT ts (hshT txAdd)) txRatchet [r1.key, nameK (putN ts (hshT txAdd))]).2) := fun x1 r1 => rfl
  generalize hkv : nameK (putN ts (hshT txAdd)) = kk at *
  generalize putT ts (hshT txAdd) = ts2 at *
  refine XCall.of h630 rfl ?_; show AC.wp _ fb630 ⟨G.length, [.ptr S.b S.l 0 []] ++ List.replicate (29 - 1) .any, G ++ List.replicate 29 none⟩ (fun x s => match x with | .exit _ => False | _ => ∃ s1, Le s s1 ∧ FinX [(.tmp 2)] s1 _); unfold fb630
  rw [← hself]
  unfold stOf
  rw [stB_len]
  generalize hN : G.length = N at *
  refine wp_sr (by simp [push_cast]; exact rfl) ?_
  refine wp_seqM (X := StV × Rat × Value × Value) (fun y => ⟨N, [.ptr S.b S.l 0 [], .any, .lit (.bool false)] ++ List.replicate 26 .any, tbOf (stB G S (sbk t S y.1 y.2.2.1) (swk y.1 y.2.2.1)) t y.2.2.2 ts ++ List.replicate 29 none⟩) (fun y => entG (addsV x.of_ x.me) x a r = some (y.1, y.2.1)) ?_ ?_
  · rintro ⟨x1, r1, Vc1, V1⟩ he
    simp only at he ⊢
    refine wp_sg ?_
    refine areg_run 5 (by simp [push_cast, gb, sbk, stA, freeI]; exact rfl) ?_
    refine areg_k (H := stOf G t S x1 Vc1) [freeI t.b t.l, .lit (tx txAdd), .lit (.slice none 0 0)] (by rw [stOf_len]; exact hN) rfl (tgt_hashI _ _ _ _) (hkk x1 Vc1) (by simp) (by simp [AS.ev, AV.place]) fun V2 => ?_
    refine areg_xc (vs := [.ptr S.b S.l 0 [], keyA kk]) rfl (hst x1 r1 he V2 Vc1 _) ⟨_, _, rfl, .slice none 0 0, .slice none 0 0, rfl⟩ ?_
    rintro r' H' ⟨rfl, V3, Vc3, rfl⟩
    refine areg_end (by simp [push_cast]; exact rfl) ?_
    refine wp_sr (by simp [push_cast]; exact rfl) (wp_ret' ?_)
    rw [hv x1 r1 he, hstp, he]
    exact ⟨_, Le.refl _, finX1 (v := .lit (.bool true)) (by simp [AS.seals, RVals, RVal, AS.ev, AS.coe]) (by simp) ⟨_, _, RelLe.refl _, by simp, HpLe.trim _ _, rfl, V3, Vc3, (hh.of_of x _ Vc Vc3 V V3 ts _).symm⟩⟩
  · refine wp_seq' (wp_rg ?_)
    refine areg_run 8 (by simp [push_cast, gb, sbk, stA, opA]; exact rfl) ?_
    refine areg_cv (by simp [AS.ev, AS.coe, AS.put] <;> exact rfl) ad ?_ (by intro p hp b V; simp at hp; rcases hp with rfl | rfl <;> simp [AS.ev, AS.put])
    generalize hb : addsV x.of_ x.me = b at *
    cases b with
    | true =>
      by_cases hgl1 : x.got.length = 1
      · obtain ⟨g, hg⟩ := got_one hgl1
        have he : entG true x a r = some (givX x a g, ratG g) := by unfold entG; rw [if_pos rfl, hg]
        obtain ⟨k1, k2, _⟩ := hok _ _ he
        have kn1 := fun Vc V ts L => knownS_call (G := tbOf (stB G S (sbk t S (givX x a g) Vc) (swk (givX x a g) Vc)) t V ts ++ L) (gb _ _ _ _ _) k1 k2
        refine areg_run 2 (by simp [push_cast]; exact rfl) ?_
        refine areg_g (b := true) (by simp [AS.ev, AS.put]) (areg_sc (x := x) (Vc := Vc) [.ptr S.b S.l 0 []] hN rfl (tgt_given _) (gvS g hg) (by simp) (by simp) fun V2 Vc2 => ?_)
        unfold stOf
        refine areg_run 4 (by simp [push_cast]; exact rfl) ?_
        refine areg_g (b := false) (by simp [AS.ev, AS.put]) (areg_xq (us := [.ptr S.b S.l 0 []]) rfl (tgt_known _) (kn1 _ _ _ _) ⟨_, _, rfl, rfl⟩ (fun r hp' hK t' ht' => by cases ht') ?_)
        rintro r' H' ⟨rfl, rfl⟩
        refine areg_end (by simp [push_cast]; exact rfl) ?_
        refine wp_cond_f (by simp [AS.ev, ratG]) (wp_skip' ?_)
        exact ⟨(givX x a g, ratG g, Vc2, V2), he, Le.mk rfl (by simp [leT]) (leH_app (leH_refl _) (by simp [leH]))⟩
      · have he : entG true x a r = none := entG_none hgl1 rfl
        refine areg_run 2 (by simp [push_cast]; exact rfl) ?_
        refine areg_g (b := true) (by simp [AS.ev, AS.put]) (areg_sc (x := x) (Vc := Vc) [.ptr S.b S.l 0 []] hN rfl (tgt_given _) (gvN hgl1) (by simp) (by simp) fun V2 Vc2 => ?_)
        unfold stOf
        refine areg_run 4 (by simp [push_cast]; exact rfl) ?_
        refine areg_end (by simp [push_cast]; exact rfl) ?_
        refine wp_cond_t (by simp [AS.ev]) (wp_sr (by simp [push_cast]; exact rfl) (wp_ret' ?_))
        rw [hv0 he, he]
        exact ⟨_, Le.refl _, finX1 (v := .lit (.bool false)) (by simp [AS.seals, RVals, RVal, AS.ev, AS.coe]) (by simp) ⟨_, _, RelLe.refl _, by simp, HpLe.trim _ _, rfl, V2, Vc2, (hh.of_of x x Vc Vc2 V V2 ts ts).symm⟩⟩
    | false =>
      refine areg_run 7 (by simp [push_cast]; exact rfl) ?_
      refine areg_g (b := false) (by simp [AS.ev, AS.put]) (areg_xq (us := [.ptr S.b S.l 0 []]) rfl (tgt_known _) (kn _ _ _ _) ⟨_, _, rfl, rfl⟩ (fun r hp' hK t' ht' => by cases ht') ?_)
      rintro r' H' ⟨rfl, rfl⟩
      cases hrk : r.known with
      | true =>
        have he : entG false x a r = some (x, r) := by unfold entG; rw [if_neg (by decide), if_pos hrk]
        refine areg_end (by simp [push_cast]; exact rfl) ?_
        refine wp_cond_f (by simp [AS.ev]) (wp_skip' ?_)
        exact ⟨(x, r, Vc, V), he, Le.mk rfl (by simp [leT]) (leH_app (leH_refl _) (by simp [leH]))⟩
      | false =>
        have he : entG false x a r = none := by unfold entG; rw [if_neg (by decide), if_neg (by rw [hrk]; decide)]
        refine areg_end (by simp [push_cast]; exact rfl) ?_
        refine wp_cond_t (by simp [AS.ev]) (wp_sr (by simp [push_cast]; exact rfl) (wp_ret' ?_))
        rw [hv0 he, he]
        exact ⟨_, Le.refl _, finX1 (v := .lit (.bool false)) (by simp [AS.seals, RVals, RVal, AS.ev, AS.coe]) (by simp) ⟨_, _, RelLe.refl _, by simp, HpLe.trim _ _, rfl, V, Vc, (hh.of_of x x Vc Vc V V ts ts).symm⟩⟩
end Go.Cab

/- Secrets: a member added. -/
-- TEXTS
-- KIT
namespace Go.Cab
open Go.RowKit
open Classical
def fb628 : AC := (.seq (.reg [⟨(.some 2), .none, (.mov (.const (.bool .false))), [], .none⟩]) (.seq (.reg [⟨(.some 5), .none, (.mov (.tmp 0)), [], .none⟩, ⟨(.some 6), .none, (.nilc (.tmp 5)), [], .none⟩, ⟨(.some 7), .none, (.faddr 563 4 (.tmp 6)), [], .none⟩, ⟨(.some 8), .none, (.faddr 4 4 (.tmp 7)), [], .none⟩, ⟨(.some 9), .none, (.load .false 1 (.tmp 8)), [], .none⟩, ⟨(.some 10), .none, (.iaddrS 1 (.tmp 9) (.const (jn 0))), [], .none⟩, ⟨(.some 11), .none, (.load .false 1 (.tmp 10)), [], .none⟩, ⟨(.some 3), .none, (.mov (.tmp 11)), [], .none⟩]) (.seq (.seq (.reg [⟨(.some 12), .none, (.mov (.tmp 0)), [], .none⟩, ⟨(.some 13), .none, (.nilc (.tmp 12)), [], .none⟩, ⟨(.some 14), .none, (.faddr 530 2 (.tmp 13)), [], .none⟩, ⟨(.some 15), .none, (.load .false 1 (.tmp 14)), [], .none⟩, ⟨(.some 16), .none, (.mov (.tmp 3)), [], .none⟩, ⟨(.some 17), .none, (.bin .eql (.tmp 15) (.tmp 16)), [], .none⟩, ⟨(.some 18), .none, (.mov (.tmp 17)), [], .none⟩, ⟨(.some 19), (.some (18, .true)), (.mov (.tmp 0)), [], .none⟩, ⟨(.some 20), (.some (18, .true)), (.icall 68 (.tmp 19) []), [], .none⟩, ⟨(.some 21), (.some (18, .true)), (.un .not (.tmp 20)), [], .none⟩, ⟨(.some 22), .none, (.pick (.tmp 18) (.tmp 21) (.const (.bool .false))), [], .none⟩, ⟨(.some 23), .none, (.mov (.tmp 22)), [], .none⟩, ⟨(.some 24), (.some (23, .false)), (.mov (.tmp 0)), [], .none⟩, ⟨(.some 25), (.some (23, .false)), (.icall 69 (.tmp 24) []), [], .none⟩, ⟨(.some 26), (.some (23, .false)), (.un .not (.tmp 25)), [], .none⟩, ⟨(.some 27), .none, (.pick (.tmp 23) (.const (.bool .true)) (.tmp 26)), [], .none⟩]) (.cond (.tmp 27) (.seq (.reg [⟨(.some 2), .none, (.mov (.const (.bool .false))), [], .none⟩]) .ret) .skip)) (.seq (.seq (.reg [⟨(.some 28), .none, (.mov (.tmp 0)), [], .none⟩, ⟨(.some 29), .none, (.mov (.tmp 3)), [], .none⟩, ⟨(.some 30), .none, (.nilc (.tmp 28)), [], .none⟩, ⟨(.some 31), .none, (.faddr 1 1 (.tmp 30)), [], .none⟩, ⟨(.some 32), .none, (.faddr 0 0 (.tmp 31)), [], .none⟩, ⟨(.some 33), .none, (.iaddrA 8 66 (.tmp 32) (.tmp 29)), [], .none⟩, ⟨(.some 4), .none, (.mov (.tmp 33)), [], .none⟩]) (.seq (.reg [⟨(.some 34), .none, (.mov (.tmp 4)), [], .none⟩, ⟨(.some 35), .none, (.nilc (.tmp 34)), [], .none⟩, ⟨(.some 36), .none, (.faddr 0 0 (.tmp 35)), [], .none⟩, ⟨(.some 37), .none, (.load .false 1 (.tmp 36)), [], .none⟩, ⟨(.some 38), .none, (.un .not (.tmp 37)), [], .none⟩, ⟨(.some 39), .none, (.mov (.tmp 38)), [], .none⟩, ⟨(.some 40), (.some (39, .true)), (.mov (.tmp 4)), [], .none⟩, ⟨(.some 41), (.some (39, .true)), (.nilc (.tmp 40)), [], .none⟩, ⟨(.some 42), (.some (39, .true)), (.faddr 1 1 (.tmp 41)), [], .none⟩, ⟨(.some 43), (.some (39, .true)), (.load .false 1 (.tmp 42)), [], .none⟩, ⟨(.some 44), (.some (39, .true)), (.un .not (.tmp 43)), [], .none⟩, ⟨(.some 45), .none, (.pick (.tmp 39) (.tmp 44) (.const (.bool .false))), [], .none⟩]) (.cond (.tmp 45) (.reg [⟨(.some 46), .none, (.mov (.tmp 4)), [], .none⟩, ⟨(.some 47), .none, (.nilc (.tmp 46)), [], .none⟩, ⟨(.some 48), .none, (.faddr 0 0 (.tmp 47)), [], .none⟩, ⟨.none, .none, (.store 1 (.tmp 48) (.const (.bool .true))), [], .none⟩]) .skip))) (.seq (.reg [⟨(.some 49), .none, (.mov (.tmp 0)), [], .none⟩, ⟨(.some 50), .none, (.mov (.tmp 0)), [], .none⟩, ⟨(.some 51), .none, (.nilc (.tmp 50)), [], .none⟩, ⟨(.some 52), .none, (.faddr 0 0 (.tmp 51)), [], .none⟩, ⟨(.some 53), .none, (.load .false 1 (.tmp 52)), [], .none⟩, ⟨(.some 54), .none, (.xc (.inv "Hash") [(.tmp 53), (.const (tx [119, 101, 108, 99, 111, 109, 101])), (.const (.slice .none 0 0))] [] []), [], .none⟩, ⟨(.some 55), .none, (.icall 70 (.tmp 49) [(.tmp 54)]), [], .none⟩]) (.seq (.reg [⟨(.some 56), .none, (.mov (.tmp 0)), [], .none⟩, ⟨(.some 57), .none, (.mov (.tmp 3)), [], .none⟩, ⟨(.some 58), .none, (.mov (.tmp 0)), [], .none⟩, ⟨(.some 59), .none, (.xc (.dir 31) [(.tmp 58)] [] []), [], .none⟩, ⟨(.some 60), .none, (.nilc (.tmp 59)), [], .none⟩, ⟨(.some 61), .none, (.faddr 34 3 (.tmp 60)), [], .none⟩, ⟨(.some 62), .none, (.load .true 32 (.tmp 61)), [], .none⟩, ⟨(.some 63), .none, (.icall 71 (.tmp 56) [(.tmp 57), (.tmp 62)]), [], .none⟩]) (.seq (.reg [⟨(.some 64), .none, (.mov (.tmp 0)), [], .none⟩, ⟨(.some 65), .none, (.mov (.tmp 0)), [], .none⟩, ⟨(.some 66), .none, (.nilc (.tmp 65)), [], .none⟩, ⟨(.some 67), .none, (.faddr 0 0 (.tmp 66)), [], .none⟩, ⟨(.some 68), .none, (.load .false 1 (.tmp 67)), [], .none⟩, ⟨(.some 69), .none, (.xc (.inv "Hash") [(.tmp 68), (.const (tx [97, 100, 100])), (.const (.slice .none 0 0))] [] []), [], .none⟩, ⟨(.some 70), .none, (.icall 70 (.tmp 64) [(.tmp 69)]), [], .none⟩]) (.seq (.reg [⟨(.some 2), .none, (.mov (.const (.bool .true))), [], .none⟩]) .ret))))))))
def fc628 : FC := ⟨1, 71, [(.tmp 2)], fb628⟩
theorem fc628_eq : compF Go.Proofs.Tryd.prog 49 = some fc628 := by kernel_rfl

/-- The ratchet behind a step. -/
def nextR (r : Rat) (n : List UInt8 × List UInt8) : Rat := ⟨r.known, r.open_, n.2, n.1⟩
def hshV (ts : List Term) (r : Rat) (s : List UInt8) : (List UInt8 × List UInt8) × List Term := twoV (putT ts (hshT s)) txRatchet [r.key, nameK (putN ts (hshT s))]
theorem stepH_eq (ts : List Term) (x : StV) (a : Nat) (r : Rat) (s : List UInt8) : stepH ts x a r s = (stepX x a r (hshV ts r s).1, (hshV ts r s).2) := rfl
/-- One who is neither known nor lost is known. -/
def knX (x : StV) (n : Nat) : StV := match x.rats[n]? with
  | some q => if q.known = false ∧ q.open_ = false then rX x (x.rats.set n ⟨true, q.open_, q.key, q.chain⟩) else x
  | none => x
def addTl (ts : List Term) (x : StV) (a : Nat) (r : Rat) (n : Nat) : StV × List Term :=
  let v := hshV ts r txWelcome
  stepH v.2 (awaitX (stepX x a r v.1) (n : Int) v.1.1) a (nextR r v.1) txAdd
def addV (ts : List Term) (x : StV) (a : Nat) (r : Rat) (n : Nat) : StV × List Term :=
  match entG (decide (x.me = (n : Int))) x a r with
  | some y => addTl ts (knX y.1 n) a y.2 n
  | none => (x, ts)
theorem hshV_len (ts : List Term) (r : Rat) (s : List UInt8) : (hshV ts r s).1.1.length = 32 ∧ (hshV ts r s).1.2.length = 32 ∧ (hshV ts r s).2.length ≤ ts.length + 3 := by
  have h1 := putT_len ts (hshT s)
  refine ⟨nameK_len _, nameK_len _, ?_⟩
  unfold hshV twoV
  simp only
  have h2 := putT_len (putT ts (hshT s)) ⟨2, txRatchet ++ [47, 49], [r.key, nameK (putN ts (hshT s))]⟩
  have h3 := putT_len (putT (putT ts (hshT s)) ⟨2, txRatchet ++ [47, 49], [r.key, nameK (putN ts (hshT s))]⟩) ⟨2, txRatchet ++ [47, 50], [r.key, nameK (putN ts (hshT s))]⟩
  omega
theorem knX_ok {x : StV} {a n : Nat} {r : Rat} (ha : AuOk x a) (hr : x.rats[a]? = some r) (hna : n ≠ a) : AuOk (knX x n) a ∧ (knX x n).rats[a]? = some r ∧ (knX x n).id = x.id ∧ (knX x n).waits = x.waits := by
  unfold knX
  split
  · split
    · refine ⟨⟨ha.au, ha.lt, by simp [rX, ha.len]⟩, ?_, rfl, rfl⟩
      show (x.rats.set n _)[a]? = _
      rw [List.getElem?_set_ne hna, hr]
    · exact ⟨ha, hr, rfl, rfl⟩
  · exact ⟨ha, hr, rfl, rfl⟩
theorem stepX_ok {x : StV} {a : Nat} (ha : AuOk x a) (r : Rat) (n : List UInt8 × List UInt8) : AuOk (stepX x a r n) a ∧ (stepX x a r n).rats[a]? = some (nextR r n) :=
  ⟨⟨ha.au, ha.lt, by simp [stepX, ha.len]⟩, by
    show (x.rats.set a _)[a]? = _
    rw [List.getElem?_set_self (by rw [ha.len]; exact ha.lt)]
    rfl⟩

set_option maxHeartbeats 64000000 in
theorem add_call {G : List (Option Blk)} {t : Tb} {S : Sb} {x : StV} {Vc V : Value} {ts : List Term} (hh : StT G t S x Vc V ts) (hn : ts.length + 20 < 90000) {a : Nat} (ha : AuOk x a) {r : Rat} (hr : x.rats[a]? = some r) (hrk : r.key.length = 32 ∧ r.chain.length = 32) (hg32 : ∀ g ∈ x.got, g.length = 32) (hgl : x.got.length < 9223372036854775808)
    (hid : x.id.length = 32) (hwl : x.waits.length < 9000) {n : Nat} (hw : x.o.who = [(n : Int)]) (hn8 : n < 8) (hna : n ≠ a) :
    XCall Go.Proofs.Tryd.prog 49 [.ptr S.b S.l 0 []] G fun r' H' => r' = .lit (.bool (entG (decide (x.me = (n : Int))) x a r).isSome) ∧ ∃ V' Vc', H' = tbOf (stOf G t S (addV ts x a r n).1 Vc') t V' (addV ts x a r n).2 := by
  have h628 := fc628_eq
  refine XCall.le ?_
  have hself := hh.self
  have gb := hh.gb
  have gbs := hh.gbs
  have kn := fun Vc V ts L => knownS_call (G := tbOf (stB G S (sbk t S x Vc) (swk x Vc)) t V ts ++ L) (gb _ _ _ _ _) ha hr
  have hok := fun x1 r1 => entG_ok (b := decide (x.me = (n : Int))) (x1 := x1) (r1 := r1) ha hr hrk hg32
  have hidk : ∀ x1 r1, entG (decide (x.me = (n : Int))) x a r = some (x1, r1) → x1.id = x.id ∧ x1.waits = x.waits := fun x1 r1 e => by
    unfold entG at e
    split at e
    · split at e <;> try (cases e; done)
      cases e; exact ⟨rfl, rfl⟩
    · split at e <;> try (cases e; done)
      cases e; exact ⟨rfl, rfl⟩
  have hv : ∀ x1 r1, entG (decide (x.me = (n : Int))) x a r = some (x1, r1) → addV ts x a r n = addTl ts (knX x1 n) a r1 n := fun x1 r1 e => by unfold addV; rw [e]
  have hv0 : entG (decide (x.me = (n : Int))) x a r = none → addV ts x a r n = (x, ts) := fun e => by unfold addV; rw [e]
  generalize addV ts x a r n = av at *
  have gvN : x.got.length ≠ 1 → SC Go.Proofs.Tryd.prog 68 [.ptr S.b S.l 0 []] G t S x ts (.lit (.bool false)) x ts := fun h => SC.of hh fun H V Vc hh => given_none hh h hgl
  have gvS : ∀ g, x.got = [g] → SC Go.Proofs.Tryd.prog 68 [.ptr S.b S.l 0 []] G t S x ts (.lit (.bool true)) (givX x a g) ts := fun g h => SC.of hh fun H V Vc hh => given_call hh ha h (hg32 g (by rw [h]; simp))
  have w1 : (x.o.who.map fun y => AV.lit (ji y))[0]? = some (.lit (jn n)) := by rw [hw]; rfl
  have w2 : ∀ h, (x.o.who.map fun y => AV.lit (ji y))[0]'h = .lit (jn n) := fun h => by rw [List.getElem?_eq_getElem h] at w1; exact Option.some.inj w1
  have w3 : (x.o.who.map fun y => AV.lit (ji y)).length = 1 := by rw [hw]; rfl
  have hmn : binVal .eql (ji x.me) (jn n) = some (.bool (decide (x.me = (n : Int)))) := bin_eqli _ _
  refine XCall.of h628 rfl ?_; show AC.wp _ fb628 ⟨G.length, [.ptr S.b S.l 0 []] ++ List.replicate (71 - 1) .any, G ++ List.replicate 71 none⟩ (fun x s => match x with | .exit _ => False | _ => ∃ s1, Le s s1 ∧ FinX [(.tmp 2)] s1 _); unfold fb628
  rw [← hself]
  unfold stOf
  rw [stB_len]
  generalize hN : G.length = N at *
  refine wp_sr (by simp [push_cast]; exact rfl) ?_
  refine wp_sr (by simp [push_cast, gb, sbk, stA, opA, w1, w2, w3]; exact rfl) ?_
  refine wp_seqM (X := StV × Rat × Value × Value) (fun y => ⟨N, [.ptr S.b S.l 0 [], .any, .lit (.bool false), .lit (jn n)] ++ List.replicate 67 .any, tbOf (stB G S (sbk t S y.1 y.2.2.1) (swk y.1 y.2.2.1)) t y.2.2.2 ts ++ List.replicate 71 none⟩) (fun y => entG (decide (x.me = (n : Int))) x a r = some (y.1, y.2.1)) ?_ ?_
  · rintro ⟨x1, r1, Vc1, V1⟩ he
    simp only at he ⊢
    rw [hv x1 r1 he, he]
    obtain ⟨k1, k2, k3, k4, _⟩ := hok x1 r1 he
    obtain ⟨i1, i2⟩ := hidk x1 r1 he
    clear hok hidk gvN gvS hv hv0 he
    obtain ⟨m1, m2, m3, m4⟩ := knX_ok k1 k2 hna
    refine wp_seqM (X := Unit) (fun _ => ⟨N, [.ptr S.b S.l 0 [], .any, .lit (.bool false), .lit (jn n)] ++ List.replicate 67 .any, tbOf (stB G S (sbk t S (knX x1 n) Vc1) (swk (knX x1 n) Vc1)) t V1 ts ++ List.replicate 71 none⟩) (fun _ => True) ?_ ?_
    · rintro _ _
      rw [i1] at m3
      rw [i2] at m4
      unfold addTl
      generalize knX x1 n = x2 at *
      have hk1 := fun Vc => hsh_k hh x2 Vc (ts := ts) (by omega) (s := txWelcome) (by decide)
      have hp1 := putT_len ts (hshT txWelcome)
      have st1 : SC Go.Proofs.Tryd.prog 70 [.ptr S.b S.l 0 [], keyA (nameK (putN ts (hshT txWelcome)))] G t S x2 (putT ts (hshT txWelcome)) (.tup []) (stepX x2 a r1 (hshV ts r1 txWelcome).1) (hshV ts r1 txWelcome).2 := step_sc hh (by omega) m1 m2 k3 k4 (nameK_len _)
      have hl1 := nameK_len (putN ts (hshT txWelcome))
      obtain ⟨v1, v2, v3⟩ := hshV_len ts r1 txWelcome
      generalize hshV ts r1 txWelcome = w at *
      generalize nameK (putN ts (hshT txWelcome)) = kk1 at *
      generalize putT ts (hshT txWelcome) = ts1 at *
      obtain ⟨wk, ts3⟩ := w
      simp only at v1 v2 v3 st1 ⊢
      obtain ⟨n1, n2⟩ := stepX_ok m1 r1 wk
      have hid3 : (stepX x2 a r1 wk).id.length = 32 := by show x2.id.length = 32; rw [m3]; exact hid
      have hwl3 : (stepX x2 a r1 wk).waits.length < 10000 := by show x2.waits.length < 10000; rw [m4]; omega
      generalize stepX x2 a r1 wk = x3 at *
      have ac := fun Vc V ts L => author_call (G := tbOf (stB G S (sbk t S x3 Vc) (swk x3 Vc)) t V ts ++ L) (gb _ _ _ _ _) n1
      have aw := await_sc hh (x := x3) (ts := ts3) (n : Int) v1 hid3 hwl3
      have n3 : AuOk (awaitX x3 (n : Int) wk.1) a := ⟨n1.au, n1.lt, n1.len⟩
      have n4 : (awaitX x3 (n : Int) wk.1).rats[a]? = some (nextR r1 wk) := n2
      have hk2 := fun Vc => hsh_k hh (awaitX x3 (n : Int) wk.1) Vc (ts := ts3) (by omega) (s := txAdd) (by decide)
      have hp2 := putT_len ts3 (hshT txAdd)
      have st2 : SC Go.Proofs.Tryd.prog 70 [.ptr S.b S.l 0 [], keyA (nameK (putN ts3 (hshT txAdd)))] G t S (awaitX x3 (n : Int) wk.1) (putT ts3 (hshT txAdd)) (.tup []) (stepX (awaitX x3 (n : Int) wk.1) a (nextR r1 wk) (hshV ts3 (nextR r1 wk) txAdd).1) (hshV ts3 (nextR r1 wk) txAdd).2 := step_sc hh (by omega) n3 n4 v2 v1 (nameK_len _)
      rw [stepH_eq]
      generalize hshV ts3 (nextR r1 wk) txAdd = w2 at *
      have hl2 := nameK_len (putN ts3 (hshT txAdd))
      generalize nameK (putN ts3 (hshT txAdd)) = kk2 at *
      generalize putT ts3 (hshT txAdd) = ts4 at *
      obtain ⟨wk2, ts5⟩ := w2
      simp only at st2 ⊢
      have hA : (x3.rats.map ratA).length = 8 := by rw [List.length_map]; exact n1.len
      have ha8 := ha.lt
      have hwA : a < (x3.rats.map ratA).length := by omega
      have hg : (x3.rats.map ratA)[a]? = some (.st [1, 1, 32, 32] [.lit (.bool r1.known), .lit (.bool r1.open_), keyA wk.2, keyA wk.1]) := by rw [List.getElem?_map, n2]; rfl
      have hg4 : ∀ h, (x3.rats.map ratA)[a]'h = .st [1, 1, 32, 32] [.lit (.bool r1.known), .lit (.bool r1.open_), keyA wk.2, keyA wk.1] := fun h => by rw [List.getElem?_eq_getElem h] at hg; exact Option.some.inj hg
      have e1 : ∀ m, 1 + (a * 66 + m) = 1 + a * 66 + m := fun m => by omega
      refine wp_sg ?_
      refine areg_run 5 (by simp [push_cast, gb, sbk, stA, freeI]; exact rfl) ?_
      refine areg_k (H := stOf G t S x2 Vc1) [freeI t.b t.l, .lit (tx txWelcome), .lit (.slice none 0 0)] (by rw [stOf_len]; exact hN) rfl (tgt_hashI _ _ _ _) (hk1 Vc1) (by simp) (by simp [AS.ev, AV.place]) fun V2 => ?_
      refine areg_xc (vs := [.ptr S.b S.l 0 [], keyA kk1]) rfl (st1 V2 Vc1 _) ⟨_, _, rfl, .slice none 0 0, .slice none 0 0, rfl⟩ ?_
      rintro r' H' ⟨rfl, V3, Vc3, rfl⟩
      refine areg_end (by simp [push_cast]; exact rfl) ?_
      refine wp_sg ?_
      unfold stOf
      refine areg_run 3 (by simp [push_cast]; exact rfl) ?_
      refine areg_xq (us := [.ptr S.b S.l 0 []]) rfl (tgt_author _) (ac _ _ _ _) ⟨_, _, rfl, rfl⟩ (fun r hp' hK t' ht' => by cases ht') ?_
      rintro r' H' ⟨rfl, rfl⟩
      refine areg_run 3 (by simp [push_cast, autP, gb, sbk, stA, hA, hwA, hg, hg4, ha8, e1, v1, v2]; exact rfl) ?_
      refine areg_xc (vs := [.ptr S.b S.l 0 [], .lit (jn n), keyA wk.1]) rfl (aw V3 Vc3 _) ⟨_, _, rfl, .slice none 0 0, .slice none 0 0, rfl⟩ ?_
      rintro r' H' ⟨rfl, V4, Vc4, rfl⟩
      refine areg_end (by simp [push_cast]; exact rfl) ?_
      refine wp_sg ?_
      unfold stOf
      refine areg_run 5 (by simp [push_cast, gb, sbk, stA, freeI]; exact rfl) ?_
      refine areg_k (H := stOf G t S (awaitX x3 (n : Int) wk.1) Vc4) [freeI t.b t.l, .lit (tx txAdd), .lit (.slice none 0 0)] (by rw [stOf_len]; exact hN) rfl (tgt_hashI _ _ _ _) (hk2 Vc4) (by simp) (by simp [AS.ev, AV.place]) fun V5 => ?_
      refine areg_xc (vs := [.ptr S.b S.l 0 [], keyA kk2]) rfl (st2 V5 Vc4 _) ⟨_, _, rfl, .slice none 0 0, .slice none 0 0, rfl⟩ ?_
      rintro r' H' ⟨rfl, V6, Vc6, rfl⟩
      refine areg_end (by simp [push_cast]; exact rfl) ?_
      refine wp_sr (by simp [push_cast]; exact rfl) (wp_ret' ?_)
      exact ⟨_, Le.refl _, finX1 (v := .lit (.bool true)) (by simp [AS.seals, RVals, RVal, AS.ev, AS.coe]) (by simp) ⟨_, _, RelLe.refl _, by simp, HpLe.trim _ _, rfl, V6, Vc6, (hh.of_of x _ Vc Vc6 V V6 ts _).symm⟩⟩
    · have hA : (x1.rats.map ratA).length = 8 := by rw [List.length_map]; exact k1.len
      have hwA : n < (x1.rats.map ratA).length := by omega
      obtain ⟨q, hq⟩ : ∃ q, x1.rats[n]? = some q := ⟨_, List.getElem?_eq_getElem (by rw [k1.len]; exact hn8)⟩
      have hg : (x1.rats.map ratA)[n]? = some (.st [1, 1, 32, 32] [.lit (.bool q.known), .lit (.bool q.open_), keyA q.key, keyA q.chain]) := by rw [List.getElem?_map, hq]; rfl
      have hg4 : ∀ h, (x1.rats.map ratA)[n]'h = .st [1, 1, 32, 32] [.lit (.bool q.known), .lit (.bool q.open_), keyA q.key, keyA q.chain] := fun h => by rw [List.getElem?_eq_getElem h] at hg; exact Option.some.inj hg
      have e1 : ∀ m, 1 + (n * 66 + m) = 1 + n * 66 + m := fun m => by omega
      unfold knX
      simp only [hq]
      refine wp_sr (by simp [push_cast, gb, sbk, stA, hA, hwA, hg, hg4, hn8, e1]; exact rfl) ?_
      cases hqk : q.known with
      | true =>
        rw [hqk] at hg hg4
        rw [if_neg (by simp)]
        refine wp_sr (by simp [push_cast, gb, sbk, stA, hA, hwA, hg, hg4, hn8, e1]; exact rfl) ?_
        refine wp_cond_f (by simp [AS.ev]) (wp_skip' ?_)
        exact ⟨(), trivial, Le.mk rfl (by simp [leT]) (leH_app (leH_refl _) (by simp [leH]))⟩
      | false =>
        rw [hqk] at hg hg4
        cases hqo : q.open_ with
        | true =>
          rw [hqo] at hg hg4
          rw [if_neg (by simp)]
          refine wp_sr (by simp [push_cast, gb, sbk, stA, hA, hwA, hg, hg4, hn8, e1]; exact rfl) ?_
          refine wp_cond_f (by simp [AS.ev]) (wp_skip' ?_)
          exact ⟨(), trivial, Le.mk rfl (by simp [leT]) (leH_app (leH_refl _) (by simp [leH]))⟩
        | false =>
          rw [hqo] at hg hg4
          rw [if_pos (by simp)]
          have hfin : (x1.rats.map ratA).set n (.st [1, 1, 32, 32] [.lit (.bool true), .lit (.bool false), keyA q.key, keyA q.chain]) = (rX x1 (x1.rats.set n ⟨true, false, q.key, q.chain⟩)).rats.map ratA := by simp [rX, List.map_set, ratA]
          refine wp_sr (by simp [push_cast, gb, sbk, stA, hA, hwA, hg, hg4, hn8, e1]; exact rfl) ?_
          refine wp_cond_t (by simp [AS.ev]) (wp_r (by simp [push_cast, gb, gbs, sbk, stA, hA, hwA, hg, hg4, hn8, e1]; exact rfl) ?_)
          refine ⟨(), trivial, Le.mk rfl (by simp [leT]) ?_⟩
          unfold sbk stA
          rw [← hfin]
          exact leH_app (leH_refl _) (by simp [leH])
  · refine wp_seq' (wp_rg ?_)
    refine areg_run 5 (by simp [push_cast, gb, sbk, stA]; exact rfl) ?_
    refine areg_run 1 (by simp [push_cast, hmn]; exact rfl) ?_
    generalize hb : decide (x.me = (n : Int)) = b at *
    cases b with
    | true =>
      by_cases hgl1 : x.got.length = 1
      · obtain ⟨g, hg⟩ := got_one hgl1
        have he : entG true x a r = some (givX x a g, ratG g) := by unfold entG; rw [if_pos rfl, hg]
        obtain ⟨k1, k2, _⟩ := hok _ _ he
        have kn1 := fun Vc V ts L => knownS_call (G := tbOf (stB G S (sbk t S (givX x a g) Vc) (swk (givX x a g) Vc)) t V ts ++ L) (gb _ _ _ _ _) k1 k2
        refine areg_run 2 (by simp [push_cast]; exact rfl) ?_
        refine areg_g (b := true) (by simp [AS.ev, AS.put]) (areg_xc (vs := [.ptr S.b S.l 0 []]) rfl (gvS g hg V Vc _) ⟨_, _, rfl, .slice none 0 0, .slice none 0 0, rfl⟩ ?_)
        rintro r' H' ⟨rfl, V2, Vc2, rfl⟩
        unfold stOf
        refine areg_run 4 (by simp [push_cast]; exact rfl) ?_
        refine areg_g (b := false) (by simp [AS.ev, AS.put]) (areg_xc (vs := [.ptr S.b S.l 0 []]) rfl (kn1 _ _ _ _) ⟨_, _, rfl, rfl⟩ ?_)
        rintro r' H' ⟨rfl, rfl⟩
        refine areg_end (by simp [push_cast]; exact rfl) ?_
        refine wp_cond_f (by simp [AS.ev, ratG]) (wp_skip' ?_)
        exact ⟨(givX x a g, ratG g, Vc2, V2), he, Le.mk rfl (by simp [leT]) (leH_app (leH_refl _) (by simp [leH]))⟩
      · have he : entG true x a r = none := entG_none hgl1 rfl
        refine areg_run 2 (by simp [push_cast]; exact rfl) ?_
        refine areg_g (b := true) (by simp [AS.ev, AS.put]) (areg_xc (vs := [.ptr S.b S.l 0 []]) rfl (gvN hgl1 V Vc _) ⟨_, _, rfl, .slice none 0 0, .slice none 0 0, rfl⟩ ?_)
        rintro r' H' ⟨rfl, V2, Vc2, rfl⟩
        unfold stOf
        refine areg_run 4 (by simp [push_cast]; exact rfl) ?_
        refine areg_end (by simp [push_cast]; exact rfl) ?_
        refine wp_cond_t (by simp [AS.ev]) (wp_sr (by simp [push_cast]; exact rfl) (wp_ret' ?_))
        rw [hv0 he, he]
        exact ⟨_, Le.refl _, finX1 (v := .lit (.bool false)) (by simp [AS.seals, RVals, RVal, AS.ev, AS.coe]) (by simp) ⟨_, _, RelLe.refl _, by simp, HpLe.trim _ _, rfl, V2, Vc2, (hh.of_of x x Vc Vc2 V V2 ts ts).symm⟩⟩
    | false =>
      refine areg_run 7 (by simp [push_cast]; exact rfl) ?_
      refine areg_g (b := false) (by simp [AS.ev, AS.put]) (areg_xc (vs := [.ptr S.b S.l 0 []]) rfl (kn _ _ _ _) ⟨_, _, rfl, rfl⟩ ?_)
      rintro r' H' ⟨rfl, rfl⟩
      cases hrk : r.known with
      | true =>
        have he : entG false x a r = some (x, r) := by unfold entG; rw [if_neg (by decide), if_pos hrk]
        refine areg_end (by simp [push_cast]; exact rfl) ?_
        refine wp_cond_f (by simp [AS.ev]) (wp_skip' ?_)
        exact ⟨(x, r, Vc, V), he, Le.mk rfl (by simp [leT]) (leH_app (leH_refl _) (by simp [leH]))⟩
      | false =>
        have he : entG false x a r = none := by unfold entG; rw [if_neg (by decide), if_neg (by rw [hrk]; decide)]
        refine areg_end (by simp [push_cast]; exact rfl) ?_
        refine wp_cond_t (by simp [AS.ev]) (wp_sr (by simp [push_cast]; exact rfl) (wp_ret' ?_))
        rw [hv0 he, he]
        exact ⟨_, Le.refl _, finX1 (v := .lit (.bool false)) (by simp [AS.seals, RVals, RVal, AS.ev, AS.coe]) (by simp) ⟨_, _, RelLe.refl _, by simp, HpLe.trim _ _, rfl, V, Vc, (hh.of_of x x Vc Vc V V ts ts).symm⟩⟩
end Go.Cab

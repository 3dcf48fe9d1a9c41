/- Part 12 of what the proof stands on: S14, H11, S15, S16, G28, S17, KT, KL, KU. -/
import Derived.Test.YtihiiojkllaknaaDoorCab11
import Derived.Test.YtihiiojkllaknaaDoorCab10
import Derived.Test.YtihiiojkllaknaaDoorCab05
import Derived.ProofKit
import Derived.Deep.Slices
import Derived.Test.YtihiiojkllaknaaDoorProg
import Derived.LaidSub
import Derived.Lib.LaidTab
import Derived.Lib.ItoaNum
import Derived.Test.YtihiiojkllaknaaDoorCab06
set_option linter.unusedSimpArgs false
set_option linter.unnecessarySimpa false
set_option linter.unusedVariables false
set_option linter.unusedSectionVars false
/- Secrets: a box's content at a beginning; digits; all keys that somebody knows. -/
-- TEXTS
-- KIT
namespace Go.Cab
open Go.RowKit
open Classical
def fb642 : AC := (.seq (.reg [⟨(.some 1), .none, (.box 529 (.tmp 0)), [], .none⟩, ⟨(.some 2), .none, (.mov (.const (.slice .none 0 0))), [], .none⟩]) (.seq (.reg [⟨(.some 3), .none, (.mov (.const (.slice .none 0 0))), [], .none⟩]) (.seq (.seq (.reg [⟨(.some 4), .none, (.mov (.const (jn 0))), [], .none⟩]) (.block 0 (.loop (.seq (.seq (.reg [⟨(.some 6), .none, (.mov (.tmp 4)), [], .none⟩, ⟨(.some 7), .none, (.bin .lss (.tmp 6) (.const (jn 8))), [], .none⟩]) (.cond (.tmp 7) .skip (.exit 0))) (.seq (.block 1 (.reg [⟨(.some 10), .none, (.mov (.tmp 3)), [], .none⟩, ⟨(.some 11), .none, (.mov (.tmp 4)), [], .none⟩, ⟨(.some 12), .none, (.faddr 0 0 (.tmp 1)), [], .none⟩, ⟨(.some 13), .none, (.iaddrA 8 66 (.tmp 12) (.tmp 11)), [], .none⟩, ⟨(.some 14), .none, (.faddr 2 2 (.tmp 13)), [], .none⟩, ⟨(.some 15), .none, (.load .true 32 (.tmp 14)), [], (.some 1)⟩, ⟨(.some 16), .none, (.mov (.tmp 4)), [], .none⟩, ⟨(.some 17), .none, (.faddr 0 0 (.tmp 1)), [], .none⟩, ⟨(.some 18), .none, (.iaddrA 8 66 (.tmp 17) (.tmp 16)), [], .none⟩, ⟨(.some 19), .none, (.faddr 34 3 (.tmp 18)), [], .none⟩, ⟨(.some 20), .none, (.load .true 32 (.tmp 19)), [], (.some 1)⟩, ⟨(.some 21), .none, (.bslice 32 (.arr 1 (List.replicate 32 (.lit (bn 0)))) 2 [(0, (.tmp 15)), (1, (.tmp 20))]), [], .none⟩, ⟨(.some 22), .none, (.append 23 32 32 (.tmp 10) (.tmp 21)), [], .none⟩, ⟨(.some 3), .none, (.mov (.tmp 22)), [], .none⟩])) (.reg [⟨(.some 8), .none, (.mov (.tmp 4)), [], .none⟩, ⟨(.some 9), .none, (.bin .add (.tmp 8) (.const (jn 1))), [], .none⟩, ⟨(.some 4), .none, (.mov (.tmp 9)), [], .none⟩])))))) (.seq (.seq (.reg [⟨(.some 5), .none, (.mov (.const (jn 0))), [], .none⟩]) (.block 2 (.loop (.seq (.seq (.reg [⟨(.some 23), .none, (.mov (.tmp 5)), [], .none⟩, ⟨(.some 24), .none, (.faddr 528 1 (.tmp 1)), [], .none⟩, ⟨(.some 25), .none, (.load .false 1 (.tmp 24)), [], .none⟩, ⟨(.some 26), .none, (.len .false (.tmp 25)), [], .none⟩, ⟨(.some 27), .none, (.bin .lss (.tmp 23) (.tmp 26)), [], .none⟩]) (.cond (.tmp 27) .skip (.exit 2))) (.seq (.block 3 (.reg [⟨(.some 30), .none, (.mov (.tmp 3)), [], .none⟩, ⟨(.some 31), .none, (.faddr 528 1 (.tmp 1)), [], .none⟩, ⟨(.some 32), .none, (.load .false 1 (.tmp 31)), [], .none⟩, ⟨(.some 33), .none, (.mov (.tmp 5)), [], .none⟩, ⟨(.some 34), .none, (.iaddrS 65 (.tmp 32) (.tmp 33)), [], .none⟩, ⟨(.some 35), .none, (.faddr 33 2 (.tmp 34)), [], .none⟩, ⟨(.some 36), .none, (.load .true 32 (.tmp 35)), [], .none⟩, ⟨(.some 37), .none, (.bslice 32 (.arr 1 (List.replicate 32 (.lit (bn 0)))) 1 [(0, (.tmp 36))]), [], .none⟩, ⟨(.some 38), .none, (.append 23 32 32 (.tmp 30) (.tmp 37)), [], .none⟩, ⟨(.some 3), .none, (.mov (.tmp 38)), [], .none⟩])) (.reg [⟨(.some 28), .none, (.mov (.tmp 5)), [], .none⟩, ⟨(.some 29), .none, (.bin .add (.tmp 28) (.const (jn 1))), [], .none⟩, ⟨(.some 5), .none, (.mov (.tmp 29)), [], .none⟩])))))) (.seq (.reg [⟨(.some 39), .none, (.mov (.tmp 3)), [], .none⟩, ⟨(.some 2), .none, (.mov (.tmp 39)), [], .none⟩]) .ret)))))
def fc642 : FC := ⟨1, 40, [(.tmp 2)], fb642⟩
theorem fc642_eq : compF Go.Proofs.Tryd.prog 15 = some fc642 := by kernel_rfl
def fb643 : AC := (.seq (.reg [⟨(.some 2), .none, (.mov (.const (tx []))), [], .none⟩]) (.seq (.seq (.reg [⟨(.some 3), .none, (.mov (.tmp 0)), [], .none⟩, ⟨(.some 4), .none, (.bin .lss (.tmp 3) (.const (un 10))), [], .none⟩]) (.cond (.tmp 4) (.seq (.reg [⟨(.some 5), .none, (.mov (.tmp 0)), [], .none⟩, ⟨(.some 6), .none, (.bin .add (.const (un 48)) (.tmp 5)), [], .none⟩, ⟨(.some 7), .none, (.cvt .u8 (.tmp 6)), [], .none⟩, ⟨(.some 8), .none, (.bslice 1 (.lit (bn 0)) 1 [(0, (.tmp 7))]), [], .none⟩, ⟨(.some 9), .none, (.b2s (.tmp 8)), [], .none⟩, ⟨(.some 2), .none, (.mov (.tmp 9)), [], .none⟩]) .ret) .skip)) (.seq (.reg [⟨(.some 10), .none, (.mov (.tmp 0)), [], .none⟩, ⟨(.some 11), .none, (.bin .quo (.tmp 10) (.const (un 10))), [], .none⟩, ⟨(.some 12), .none, (.callv 13 [(.tmp 11)]), [], .none⟩, ⟨(.some 13), .none, (.mov (.tmp 0)), [], .none⟩, ⟨(.some 14), .none, (.bin .rem (.tmp 13) (.const (un 10))), [], .none⟩, ⟨(.some 15), .none, (.bin .add (.const (un 48)) (.tmp 14)), [], .none⟩, ⟨(.some 16), .none, (.cvt .u8 (.tmp 15)), [], .none⟩, ⟨(.some 17), .none, (.bslice 1 (.lit (bn 0)) 1 [(0, (.tmp 16))]), [], .none⟩, ⟨(.some 18), .none, (.b2s (.tmp 17)), [], .none⟩, ⟨(.some 19), .none, (.bin .add (.tmp 12) (.tmp 18)), [], .none⟩, ⟨(.some 2), .none, (.mov (.tmp 19)), [], .none⟩]) .ret)))
def fc643 : FC := ⟨1, 20, [(.tmp 2)], fb643⟩
theorem fc643_eq : compF Go.Proofs.Tryd.prog 13 = some fc643 := by kernel_rfl

theorem bown1 (a : List UInt8) (ha : a.length = 32) : fillV (.arr 32 (List.replicate 1 (.arr 1 (List.replicate 32 (.lit (bn 0)))))) ([0].zip [keyA a]) = some (.arr 32 (klA [a])) := by
  rw [← zk_eq]
  simp [fillV, AV.sub, AV.upd, AV.isTup, AV.sz, keyA, bl_len, ha, zk_len, klA]
set_option maxHeartbeats 16000000 in
theorem content_call {c seed : List UInt8} (hc : c.length = 32) (hz : c ≠ zk) (hs : seed.length = 32) : PCall Go.Proofs.Tryd.prog 16 [ks0, o0A c, ozA, keyA seed, .lit (jn 1)] (.row 23 32 (klA [seed])) := by
  have h632 := fc632_eq
  have cr := right_call (op0_ok hc) box1_bl
  rw [op0_right hz] at cr
  have cr2 : PCall Go.Proofs.Tryd.prog 26 [o0A c] (.val (.lit (.bool true))) := PCall.args (m := [opA (op0 c)]) ⟨o0A_le c, trivial⟩ cr
  refine PCall.of h632 rfl ?_; show AC.wp _ fb632 (AS.init [ks0, o0A c, ozA, keyA seed, .lit (jn 1)] 5 73) (fun x s => match x with | .exit _ => False | _ => Fin [(.tmp 10)] s _); unfold fb632 AS.init
  refine wp_sg (areg_bx rfl rfl fun l5 => areg_bx rfl (by simp [AS.ev, AS.put, o0A, AV.sz]) fun l6 => areg_bx rfl (by simp [AS.ev, AS.put, ozA, AV.sz]) fun l7 => areg_bx rfl (by simp [AS.ev, AS.put, keyA, AV.sz, bl, hs]) fun l8 => areg_end (by simp [push_cast]; exact rfl) ?_)
  refine wp_seq' (wp_seq' (wp_rg ?_))
  refine areg_run 1 (by simp [push_cast, o0A, hc, zk_len]; exact rfl) ?_
  refine areg_ca (by simp [AS.ev, AS.coe, AS.put] <;> exact rfl) cr2 ?_
  refine areg_end (by simp [push_cast]; exact rfl) ?_
  refine wp_cond_f (by simp [AS.ev]) (wp_skip' ?_)
  refine wp_seq' (wp_block' (wp_seq' (wp_seq' (wp_r (by simp [push_cast, o0A, hc, zk_len]; exact rfl) ?_))))
  refine wp_cond_t (by simp [AS.ev]) (wp_skip' ?_)
  refine wp_cond_t (by simp [AS.ev]) (wp_sg ?_)
  refine areg_run 1 (by simp [push_cast, hs]; exact rfl) ?_
  refine areg_bown (vs := [keyA seed]) (els := klA [seed]) rfl (bown1 _ hs) (by intro t ht; cases ht) fun V7 => ?_
  refine areg_end (by simp [push_cast]; exact rfl) (wp_ret' ?_)
  exact fin_row rfl rfl

/-! ### Digits -/
set_option maxHeartbeats 2000000 in
theorem digsR_call (n : Nat) : n < 100000 → PCall Go.Proofs.Tryd.prog 13 [.lit (un n)] (.val (.lit (tx (digs n)))) := by
  induction n using Nat.strongRecOn with
  | ind n ih =>
    intro hn
    have h643 := fc643_eq
    have m1 : (48 + n) % 18446744073709551616 = 48 + n := Nat.mod_eq_of_lt (by omega)
    have m2 : (48 + n % 10) % 18446744073709551616 = 48 + n % 10 := Nat.mod_eq_of_lt (by omega)
    have m3 : (48 + n % 10) % 256 = 48 + n % 10 := Nat.mod_eq_of_lt (by omega)
    have m4 : n / 10 % 18446744073709551616 = n / 10 := Nat.mod_eq_of_lt (by omega)
    have t1 : ∀ x, x < 10 → textA (.sl 1 [.lit (bn (48 + x))]) = some (tx [dig8 x]) := fun x hx => by
      rw [bl_oneA (48 + x) (by omega)]; exact textA_sl [dig8 x]
    rw [digs]
    refine PCall.of h643 rfl ?_; show AC.wp _ fb643 (AS.init [.lit (un n)] 1 20) (fun x s => match x with | .exit _ => False | _ => Fin [(.tmp 2)] s _); unfold fb643 AS.init
    refine wp_sr (by simp [push_cast]; exact rfl) ?_
    by_cases h10 : n < 10
    · have m5 : (48 + n) % 256 = 48 + n := Nat.mod_eq_of_lt (by omega)
      have t2 := t1 n (by omega)
      rw [dif_pos h10]
      refine wp_seq' (wp_seq' (wp_r (by simp [push_cast, h10]; exact rfl) (wp_cond_t rfl ?_)))
      refine wp_sr (by simp [push_cast, m1, m5, t2]; exact rfl) (wp_ret' ?_)
      exact fin_tmp rfl (by simp)
    · rw [dif_neg h10]
      have t2 := t1 (n % 10) (by omega)
      have c := ih (n / 10) (by omega) (by omega)
      have hl := digs_len (n / 10)
      refine wp_seq' (wp_seq' (wp_r (by simp [push_cast, h10]; exact rfl) (wp_cond_f rfl (wp_skip' ?_))))
      refine wp_sg ?_
      refine areg_run 2 (by simp [push_cast, m4]; exact rfl) ?_
      refine areg_cv (by simp [AS.ev, AS.coe, AS.put] <;> exact rfl) c ?_
      have hb : binVal .add (tx (digs (n / 10))) (tx [dig8 (n % 10)]) = some (tx (digs (n / 10) ++ [dig8 (n % 10)])) := bin_adds _ _ (by simp only [List.length_cons, List.length_nil]; omega)
      refine areg_end (by simp [push_cast, m2, m3, t2, hb]; exact rfl) (wp_ret' ?_)
      exact fin_tmp rfl (by simp)

/-! ### All keys that somebody knows -/
def allV (rs : List Rat) (ws : List WaitV) : List (List UInt8) := (rs.map fun r => [r.key, r.chain]).flatten ++ ws.map (·.key)
def alS2 (B W : List AV) (l1 : Nat × Nat) (y : Nat × List (List UInt8) × Value) : AS :=
  ⟨0, [.any, .ptr 1 l1 0 [], nilL, .own 38 y.2.2, .any, .lit (jn y.1)] ++ List.replicate 34 .any, [none, some (.box l1 529 (.st [528, 1] [.arr 66 B, .sl 65 W]))] ++ (List.replicate 38 none).set 36 (some (.row 23 y.2.2 32 (klA y.2.1) 0))⟩
def alS (B W : List AV) (l1 : Nat × Nat) (y : Nat × List (List UInt8) × Value) : AS :=
  ⟨0, [.any, .ptr 1 l1 0 [], nilL, .own 22 y.2.2, .lit (jn y.1)] ++ List.replicate 35 .any, [none, some (.box l1 529 (.st [528, 1] [.arr 66 B, .sl 65 W]))] ++ List.replicate 20 none ++ [some (.row 23 y.2.2 32 (klA y.2.1) 0)] ++ List.replicate 17 none⟩
set_option maxHeartbeats 32000000 in
theorem allK_call {rs : List Rat} {ws : List WaitV} (hr : rs.length = 8) (hrk : ∀ r ∈ rs, r.key.length = 32 ∧ r.chain.length = 32) (hw : ws.length < 1000) (hwk : ∀ w ∈ ws, w.key.length = 32 ∧ w.of_.length = 32) : PCall Go.Proofs.Tryd.prog 15 [keysA rs (ws.map waitA)] (.row 23 32 (klA (allV rs ws))) := by
  have h642 := fc642_eq
  obtain ⟨B, hB⟩ : ∃ B, B = rs.map ratA := ⟨_, rfl⟩
  obtain ⟨W, hW⟩ : ∃ W, W = ws.map waitA := ⟨_, rfl⟩
  have hBl : B.length = 8 := by rw [hB, List.length_map]; exact hr
  have hWl : W.length = ws.length := by rw [hW, List.length_map]
  unfold keysA
  rw [← hB, ← hW]
  refine PCall.of h642 rfl ?_; show AC.wp _ fb642 (AS.init [.st [528, 1] [.arr 66 B, .sl 65 W]] 1 40) (fun x s => match x with | .exit _ => False | _ => Fin [(.tmp 2)] s _); unfold fb642 AS.init
  refine wp_sg (areg_bx rfl (by simp [AS.ev, AS.put, AV.sz, hBl]) fun l1 => areg_end (by simp [push_cast]; exact rfl) ?_)
  refine wp_sr (by simp [push_cast]; exact rfl) ?_
  refine wp_seq' (wp_seq' (wp_r (by simp [push_cast]; exact rfl) ?_))
  refine wp_block' (wp_loop_m (alS B W l1) (fun y => 8 - y.1) (fun y => y.2.1 = allV (rs.take y.1) [] ∧ y.1 ≤ 8 ∧ y.2.1.length = 2 * y.1) (0, [], .slice none 0 0) ?_ ⟨by simp [allV], by simp, by simp⟩ ?_)
  · refine Le.trans (Le.nilRow (t := 3) (b := 22) rfl rfl 23 32) (Le.mk rfl (by simp [alS, leT]) ?_)
    simp [alS, leH, klA]
  · rintro ⟨i, acc, Va⟩ ⟨hI, hi, hl⟩
    simp only at hI hi hl ⊢
    unfold alS
    simp only
    have hal : (klA acc).length = 2 * i := by rw [klA_len]; exact hl
    by_cases hlt : i < 8
    · obtain ⟨r, hri⟩ : ∃ r, rs[i]? = some r := ⟨_, List.getElem?_eq_getElem (by omega)⟩
      obtain ⟨k1, k2⟩ := hrk r (List.mem_of_getElem? hri)
      have j1 : B[i]? = some (.st [1, 1, 32, 32] [.lit (.bool r.known), .lit (.bool r.open_), keyA r.key, keyA r.chain]) := by rw [hB, List.getElem?_map, hri]; rfl
      have j2 : ∀ h, B[i]'h = .st [1, 1, 32, 32] [.lit (.bool r.known), .lit (.bool r.open_), keyA r.key, keyA r.chain] := fun h => by rw [List.getElem?_eq_getElem h] at j1; exact Option.some.inj j1
      have q1 : i + 1 < 9223372036854775808 := by omega
      have e1 : ∀ n', 1 + (i * 66 + n') = 1 + i * 66 + n' := fun n' => by omega
      have htk : rs.take (i + 1) = rs.take i ++ [r] := by rw [List.take_add_one, hri]; rfl
      refine wp_seq' (wp_sr (by simp [push_cast, hlt]; exact rfl) ?_)
      refine wp_cond_t (by simp [AS.ev]) (wp_skip' ?_)
      refine wp_seq' (wp_block' (wp_rg ?_))
      refine areg_run 11 (by simp [push_cast, hBl, j1, j2, hlt, k1, k2, e1]; exact rfl) ?_
      refine areg_bsl (k := 32) (els := klA [r.key, r.chain]) (fill_ar rfl rfl rfl (by simp [AV.sz, AS.ev, AS.put, k1, bl_len]) (fill_ar rfl rfl rfl (by simp [AV.sz, AS.ev, AS.put, k2, bl_len]) rfl)) ?_
      refine areg_ap (b := 22) (V := Va) (ys := klA [r.key, r.chain]) rfl rfl (by simp [AS.ev, AS.put, AS.coe, klA, keyA]) (by rw [hal, klA_len]; simp [maxLen]; omega) (by rw [hal, klA_len]; simp; omega) (fun V3 => ?_)
      refine areg_end (by simp [push_cast]; exact rfl) ?_
      refine wp_r (by simp [push_cast, q1]; exact rfl) ?_
      refine Exists.intro (i + 1, acc ++ [r.key, r.chain], V3) ⟨⟨by rw [hI, htk]; simp [allV], by omega, by simp [hl]; omega⟩, by simp only; omega, Le.mk rfl (by simp [alS, leT]) ?_⟩
      simp [alS, leH, klA]
    · have hi8 : i = 8 := by omega
      subst hi8
      rw [List.take_of_length_le (by omega)] at hI
      refine wp_seq' (wp_sr (by simp [push_cast]; exact rfl) ?_)
      refine wp_cond_f (by simp [AS.ev]) (wp_exit' (if_hit rfl ?_))
      refine wp_seq' (wp_seq' (wp_r (by simp [push_cast]; exact rfl) ?_))
      have hal0 : allV rs ws = acc ++ ws.map (·.key) := by rw [hI]; simp [allV]
      refine wp_block' (wp_loop_m (alS2 B W l1) (fun y => ws.length - y.1) (fun y => y.2.1 ++ (ws.drop y.1).map (·.key) = allV rs ws ∧ y.1 ≤ ws.length ∧ y.2.1.length = 16 + y.1) (0, acc, Va) ?_ ⟨by rw [hal0]; rfl, by simp, by simp; omega⟩ ?_)
      · exact Le.mvR (A := [none, some (.box l1 529 (.st [528, 1] [.arr 66 B, .sl 65 W]))]) (R := List.replicate 20 none ++ [some (.row 23 Va 32 (klA acc) 0)] ++ List.replicate 17 none) (d := 20) (d' := 36) (m := 38) (Y := .row 23 Va 32 (klA acc) 0) rfl rfl rfl (by simp [alS2, leO])
      rintro ⟨j, acc2, Vb⟩ ⟨hJ, hj, hl2⟩
      simp only at hJ hj hl2 ⊢
      unfold alS2
      simp only
      have hal2 : (klA acc2).length = 16 + j := by rw [klA_len]; exact hl2
      by_cases hlt : j < ws.length
      · obtain ⟨u, hu⟩ : ∃ u, ws[j]? = some u := ⟨_, List.getElem?_eq_getElem hlt⟩
        obtain ⟨k1, k2⟩ := hwk u (List.mem_of_getElem? hu)
        have j1 : W[j]? = some (.st [32, 1, 32] [keyA u.of_, .lit (ji u.who), keyA u.key]) := by rw [hW, List.getElem?_map, hu]; rfl
        have j2 : ∀ h, W[j]'h = .st [32, 1, 32] [keyA u.of_, .lit (ji u.who), keyA u.key] := fun h => by rw [List.getElem?_eq_getElem h] at j1; exact Option.some.inj j1
        have q1 : j + 1 < 9223372036854775808 := by omega
        have hdr : ws.drop j = u :: ws.drop (j + 1) := by
          rw [List.drop_eq_getElem_cons hlt]
          rw [List.getElem?_eq_getElem hlt] at hu
          rw [Option.some.inj hu]
        refine wp_seq' (wp_sr (by simp [push_cast, hWl, hBl, hlt]; exact rfl) ?_)
        refine wp_cond_t (by simp [AS.ev]) (wp_skip' ?_)
        refine wp_seq' (wp_block' (wp_rg ?_))
        refine areg_run 7 (by simp [push_cast, hWl, hBl, j1, j2, hlt, k1, k2]; exact rfl) ?_
        refine areg_bsl (k := 32) (els := klA [u.key]) (fill_ar rfl rfl rfl (by simp [AV.sz, AS.ev, AS.put, k1, bl_len]) rfl) ?_
        refine areg_ap (b := 38) (V := Vb) (ys := klA [u.key]) rfl rfl (by simp [AS.ev, AS.put, AS.coe, klA, keyA]) (by rw [hal2, klA_len]; simp [maxLen]; omega) (by rw [hal2, klA_len]; simp; omega) (fun V3 => ?_)
        refine areg_end (by simp [push_cast]; exact rfl) ?_
        refine wp_r (by simp [push_cast, q1]; exact rfl) ?_
        refine Exists.intro (j + 1, acc2 ++ [u.key], V3) ⟨⟨by rw [← hJ, hdr]; simp, by omega, by simp [hl2]; omega⟩, by simp only; omega, Le.mk rfl (by simp [alS2, leT]) ?_⟩
        simp [alS2, leH, klA]
      · have hjn : j = ws.length := by omega
        subst hjn
        rw [List.drop_length, List.map_nil, List.append_nil] at hJ
        subst hJ
        refine wp_seq' (wp_sr (by simp [push_cast, hWl, hBl]; exact rfl) ?_)
        refine wp_cond_f (by simp [AS.ev]) (wp_exit' (if_hit rfl ?_))
        refine wp_sr (by simp [push_cast]; exact rfl) (wp_ret' ?_)
        exact fin_row rfl rfl
end Go.Cab

/- Ratchets compared. -/
-- TEXTS
-- KIT
namespace Go.Cab
open Go.RowKit
open Classical

def isBoolT (o : Option TypeDesc) : Bool := match o with | some .bool => true | _ => false
/-- The literals that a value of a type is, as a key. -/
def KLit (P : Program) (d : Nat) (t : TypeId) (v : AV) (l : List Lit) : Prop := v.isTup = false ∧ v.sz = P.cellsOf t ∧ ∀ (Imm : Nat → Nat → Prop) (w : World) (cs : List Value), R Imm w v cs → P.keyLits d t cs = some l
theorem mid_cut {α : Type} {pre c post : List α} {a n : Nat} (ha : pre.length = a) (hn : c.length = n) : ((pre ++ c ++ post).drop a).take n = c := by subst ha hn; simp [List.append_assoc]
theorem R.elemD {Imm : Nat → Nat → Prop} {w : World} {esz : Nat} {els : List AV} {cs : List Value} (h : R Imm w (.arr esz els) cs) (i : Nat) (f : AV) (hf : els[i]? = some f) : R Imm w f ((cs.drop (i * esz)).take esz) := by
  obtain ⟨pre, c, post, rfl, h1, h2, h3, _⟩ := R.elem h i f hf
  rw [mid_cut h1 h2]; exact h3
theorem R.fieldD {Imm : Nat → Nat → Prop} {w : World} {ns : List Nat} {fs : List AV} {cs : List Value} (h : R Imm w (.st ns fs) cs) (i n o : Nat) (f : AV) (hn : ns[i]? = some n) (hf : fs[i]? = some f) (ho : (ns.take i).sum = o) : R Imm w f ((cs.drop o).take n) := by
  obtain ⟨pre, c, post, rfl, h1, h2, h3, _⟩ := R.field h i n f hn hf
  rw [mid_cut (h1.trans ho) h2]; exact h3
theorem KLit.arr {P : Program} {d : Nat} {t e : TypeId} {n esz : Nat} {els : List AV} {ls : Nat → List Lit} (hu : P.underlying t = some (.array n e)) (hn : els.length = n) (hc : P.cellsOf t = n * esz) (he : P.cellsOf e = esz)
    (h : ∀ i v, els[i]? = some v → KLit P d e v (ls i)) : KLit P (d + 1) t (.arr esz els) ((List.range n).map ls).flatten := by
  refine ⟨rfl, by simp [AV.sz, hc, hn], fun Imm w cs hr => ?_⟩
  have hl := hr.len rfl
  unfold Program.keyLits
  simp only [hu]
  rw [if_pos (by rw [hl, hc]; simp [AV.sz, hn]), mapM_some (g := ls)]
  · rfl
  · intro i hi
    have hi' : i < n := by simpa using hi
    have hg : els[i]? = some els[i] := List.getElem?_eq_getElem (by omega)
    have := (h i _ hg).2.2 Imm w _ (hr.elemD i _ hg)
    rw [he]
    exact this
theorem KLit.bool {P : Program} {d : Nat} {t : TypeId} {b : Bool} (hu : isBoolT (P.underlying t) = true) (hc : P.cellsOf t = 1) : KLit P (d + 1) t (.lit (.bool b)) [.bool b] := by
  refine ⟨rfl, by simp [AV.sz, hc], fun Imm w cs hr => ?_⟩
  cases hr
  unfold Program.keyLits
  unfold isBoolT at hu
  split at hu
  · rename_i h; simp only [h]
  · cases hu
theorem KLit.key {d : Nat} {k : List UInt8} (hk : k.length = 32) : KLit Go.Proofs.Tryd.prog (d + 2) 23 (keyA k) ((List.range 32).map fun i => Lit.int .u8 (((k.getD i 0).toNat : Nat) : Int)) := by
  have hc : Go.Proofs.Tryd.prog.cellsOf 23 = 32 := by kernel_rfl
  refine ⟨rfl, by simp [keyA, AV.sz, bl_len, hk, hc], fun Imm w cs hr => ?_⟩
  have ex := R_bl hr
  rw [map_range, hk] at ex
  subst ex
  have lt : ∀ i, (k.getD i 0).toNat < 256 := fun i => (k.getD i 0).toNat_lt
  have hu : Go.Proofs.Tryd.prog.underlying 23 = some (.array 32 5) := by kernel_rfl
  have he : Go.Proofs.Tryd.prog.underlying 5 = some (.int .u8) := by kernel_rfl
  have h1 : Go.Proofs.Tryd.prog.cellsOf 5 = 1 := by kernel_rfl
  exact keyLits_row hu he hc h1 (fun i => (((k.getD i 0).toNat : Nat) : Int)) (fun i _ => wf_bn (lt i)) d
theorem KLit.eq {P : Program} {t : TypeId} {D : Nat} {v : AV} {l : List Lit} (h : KLit P D t v l) (hf : ∀ cs : List Value, cs.length = v.sz → (asVal v cs).formed P t = true) : EqAV P t v v true := fun Imm w cs cs' h1 h2 => by
  have e1 := h.2.2 Imm w cs h1
  have e2 := h.2.2 Imm w cs' h2
  exact ⟨D, D, l, l, hf _ (h1.len h.1), hf _ (h2.len h.1), e1, e2, by simp⟩

theorem four_fields {P : Program} {o : Option TypeDesc} {tk : TypeId} (h : (match o with | some (.struct fs) => (match fs.toList with | [a, b, c, d] => isBoolT (P.underlying a.type) && P.cellsOf a.type == 1 && a.type == b.type && c.type == tk && d.type == tk && a.offset == 0 && b.offset == 1 && c.offset == 2 && d.offset == 34 && fs.all (·.name != "_") | _ => false) | _ => false) = true) :
    ∃ (fs : Array Field) (a b c d : Field), o = some (.struct fs) ∧ fs.toList = [a, b, c, d] ∧ fs.all (·.name != "_") = true ∧ isBoolT (P.underlying a.type) = true ∧ P.cellsOf a.type = 1 ∧ b.type = a.type ∧ c.type = tk ∧ d.type = tk ∧ a.offset = 0 ∧ b.offset = 1 ∧ c.offset = 2 ∧ d.offset = 34 := by
  split at h
  · rename_i fs
    split at h
    · rename_i a b c d e
      simp only [Bool.and_eq_true, beq_iff_eq] at h
      exact ⟨fs, a, b, c, d, rfl, e, h.2, h.1.1.1.1.1.1.1.1.1, h.1.1.1.1.1.1.1.1.2, h.1.1.1.1.1.1.1.2.symm, h.1.1.1.1.1.1.2, h.1.1.1.1.1.2, h.1.1.1.1.2, h.1.1.1.2, h.1.1.2, h.1.2⟩
    · cases h
  · cases h
def litK (k : List UInt8) : List Lit := (List.range 32).map fun i => Lit.int .u8 (((k.getD i 0).toNat : Nat) : Int)
theorem KLit.rat {d : Nat} {a b : Bool} {k c : List UInt8} (hk : k.length = 32) (hc : c.length = 32) : KLit Go.Proofs.Tryd.prog (d + 3) 25 (.st [1, 1, 32, 32] [.lit (.bool a), .lit (.bool b), keyA k, keyA c]) ([.bool a] ++ ([.bool b] ++ (litK k ++ litK c))) := by
  obtain ⟨fs, f1, f2, f3, f4, hu, hl, hall, hb, h1, t2, t3, t4, o1, o2, o3, o4⟩ := four_fields (P := Go.Proofs.Tryd.prog) (o := Go.Proofs.Tryd.prog.underlying 25) (tk := 23) (by kernel_rfl)
  have hcr : Go.Proofs.Tryd.prog.cellsOf 25 = 66 := by kernel_rfl
  have hck : Go.Proofs.Tryd.prog.cellsOf 23 = 32 := by kernel_rfl
  refine ⟨rfl, by rw [hcr]; simp [AV.sz], fun Imm w cs hr => ?_⟩
  have hlen := hr.len rfl
  have r1 := hr.fieldD 0 1 0 _ rfl rfl (by simp)
  have r2 := hr.fieldD 1 1 1 _ rfl rfl (by simp)
  have r3 := hr.fieldD 2 32 2 _ rfl rfl (by simp)
  have r4 := hr.fieldD 3 32 34 _ rfl rfl (by simp)
  have k1 := (KLit.bool (d := d + 1) (b := a) hb h1).2.2 Imm w _ r1
  have k2 := (KLit.bool (d := d + 1) (b := b) hb h1).2.2 Imm w _ r2
  have k3 := (KLit.key (d := d) hk).2.2 Imm w _ r3
  have k4 := (KLit.key (d := d) hc).2.2 Imm w _ r4
  unfold Program.keyLits
  simp only [hu]
  rw [if_pos ⟨by rw [hlen, hcr]; simp [AV.sz], hall⟩, hl]
  simp only [List.mapM_cons, List.mapM_nil, t2, t3, t4, o1, o2, o3, o4, h1, hck, k1, k2, k3, k4]
  simp [litK]

/-- Eight ratchets. -/
def RatOk (v : AV) : Prop := ∃ (a b : Bool) (k c : List UInt8), k.length = 32 ∧ c.length = 32 ∧ v = .st [1, 1, 32, 32] [.lit (.bool a), .lit (.bool b), keyA k, keyA c]
theorem eq_rats {A : List AV} (hA : A.length = 8) (h : ∀ v ∈ A, RatOk v) : EqAV Go.Proofs.Tryd.prog 26 (.arr 66 A) (.arr 66 A) true := by
  have hu : Go.Proofs.Tryd.prog.underlying 26 = some (.array 8 25) := by kernel_rfl
  have hc : Go.Proofs.Tryd.prog.cellsOf 26 = 8 * 66 := by kernel_rfl
  have he : Go.Proofs.Tryd.prog.cellsOf 25 = 66 := by kernel_rfl
  have hx : ∀ i : Nat, ∃ l : List Lit, ∀ v, A[i]? = some v → KLit Go.Proofs.Tryd.prog 3 25 v l := fun i => by
    cases hv : A[i]? with
    | none => exact ⟨[], fun v h => by cases h⟩
    | some v =>
      obtain ⟨a, b, k, c, h1, h2, rfl⟩ := h v (List.mem_of_getElem? hv)
      exact ⟨_, fun v h => by obtain rfl := Option.some.inj h; exact KLit.rat (d := 0) h1 h2⟩
  have hl : ∀ (i : Nat) (v : AV), A[i]? = some v → KLit Go.Proofs.Tryd.prog 3 25 v ((hx i).choose) := fun i => (hx i).choose_spec
  refine (KLit.arr hu hA hc he (ls := fun i => (hx i).choose) hl).eq fun cs hcs => ?_
  simp only [AV.sz, hA] at hcs
  simp only [asVal, Value.formed, hu]
  simp [hc, hcs]
theorem r0A_ok : RatOk r0A := ⟨false, false, zk, zk, zk_len, zk_len, rfl⟩
end Go.Cab

/- Secrets: alive. -/
-- TEXTS
-- KIT
namespace Go.Cab
open Go.RowKit
open Classical
def fb602 : AC := (.seq (.reg [⟨(.some 0), .none, (.mov (.const (.bool .false))), [], .none⟩]) (.seq (.reg [⟨(.some 11), .none, (.xc (.dir 7) [] [] []), [], .none⟩, ⟨(.some 1), .none, (.alloc 1 (.st [1] [(.lit (.pointer .none))])), [], .none⟩, ⟨.none, .none, (.store 1 (.tmp 1) (.tmp 11)), [], .none⟩]) (.seq (.reg [⟨(.some 12), .none, (.faddr 0 0 (.tmp 1)), [], .none⟩, ⟨(.some 13), .none, (.load .false 1 (.tmp 12)), [], .none⟩, ⟨(.some 14), .none, (.icall 11 (.tmp 13) [(.const (tx [115, 101, 101, 100]))]), [], .none⟩, ⟨(.some 2), .none, (.alloc 32 (.arr 1 (List.replicate 32 (.lit (bn 0))))), [], .none⟩, ⟨.none, .none, (.store 32 (.tmp 2) (.tmp 14)), [], .none⟩]) (.seq (.reg [⟨(.some 15), .none, (.load .true 1 (.tmp 1)), [], .none⟩, ⟨(.some 16), .none, (.rdp (.mkifc 40) [(.tmp 15)]), [], .none⟩, ⟨(.some 17), .none, (.load .true 32 (.tmp 2)), [], .none⟩, ⟨(.some 18), .none, (.xc (.dir 12) [(.tmp 16), (.tmp 17)] [] []), [], .none⟩, ⟨(.some 3), .none, (.alloc 71 (.st [1, 1, 1, 1, 1, 32, 32, 1, 1] [(.lit (jn 0)), (.lit (wn 0)), (.lit (.slice .none 0 0)), (.lit (jn 0)), (.lit (.slice .none 0 0)), (.arr 1 (List.replicate 32 (.lit (bn 0)))), (.arr 1 (List.replicate 32 (.lit (bn 0)))), (.lit (tx [])), (.lit (.slice .none 0 0))])), [], .none⟩, ⟨.none, .none, (.store 71 (.tmp 3) (.tmp 18)), [], .none⟩]) (.seq (.reg [⟨(.some 20), .none, (.load .true 1 (.tmp 1)), [], .none⟩, ⟨(.some 21), .none, (.rdp (.mkifc 40) [(.tmp 20)]), [], .none⟩, ⟨(.some 22), .none, (.build (.st [528, 1] [(.arr 66 (List.replicate 8 (.st [1, 1, 32, 32] [(.lit (.bool .false)), (.lit (.bool .false)), (.arr 1 (List.replicate 32 (.lit (bn 0)))), (.arr 1 (List.replicate 32 (.lit (bn 0))))]))), (.lit (.slice .none 0 0))]) []), [], .none⟩, ⟨(.some 23), .none, (.build (.arr 1 (List.replicate 32 (.lit (bn 0)))) [(0, (.const (bn 9)))]), [], .none⟩, ⟨(.some 24), .none, (.load .true 71 (.tmp 3)), [], .none⟩, ⟨(.some 25), .none, (.build (.st [1, 1, 1, 1, 1, 32, 32, 1, 1] [(.lit (jn 0)), (.lit (wn 0)), (.lit (.slice .none 0 0)), (.lit (jn 0)), (.lit (.slice .none 0 0)), (.arr 1 (List.replicate 32 (.lit (bn 0)))), (.arr 1 (List.replicate 32 (.lit (bn 0)))), (.lit (tx [])), (.lit (.slice .none 0 0))]) []), [], .none⟩, ⟨(.some 26), .none, (.load .true 32 (.tmp 2)), [], .none⟩, ⟨(.some 27), .none, (.bslice 32 (.arr 1 (List.replicate 32 (.lit (bn 0)))) 1 [(0, (.tmp 26))]), [], .none⟩, ⟨(.some 28), .none, (.xc (.dir 10) [(.tmp 21), (.tmp 22), (.const (jn 0)), (.tmp 23), (.tmp 24), (.tmp 25), (.tmp 27)] [] []), [], .none⟩, ⟨(.some 19), .none, (.mov (.tmp 28)), [], .none⟩, ⟨(.some 29), .none, (.ext (.tmp 19) 0), [], .none⟩, ⟨(.some 30), .none, (.ext (.tmp 19) 1), [], .none⟩, ⟨(.some 4), .none, (.alloc 529 (.st [528, 1] [(.arr 66 (List.replicate 8 (.st [1, 1, 32, 32] [(.lit (.bool .false)), (.lit (.bool .false)), (.arr 1 (List.replicate 32 (.lit (bn 0)))), (.arr 1 (List.replicate 32 (.lit (bn 0))))]))), (.lit (.slice .none 0 0))])), [], .none⟩, ⟨.none, .none, (.store 529 (.tmp 4) (.tmp 29)), [], .none⟩, ⟨(.some 5), .none, (.mov (.tmp 30)), [], .none⟩]) (.seq (.reg [⟨(.some 32), .none, (.load .true 1 (.tmp 1)), [], .none⟩, ⟨(.some 33), .none, (.rdp (.mkifc 40) [(.tmp 32)]), [], .none⟩, ⟨(.some 34), .none, (.build (.st [528, 1] [(.arr 66 (List.replicate 8 (.st [1, 1, 32, 32] [(.lit (.bool .false)), (.lit (.bool .false)), (.arr 1 (List.replicate 32 (.lit (bn 0)))), (.arr 1 (List.replicate 32 (.lit (bn 0))))]))), (.lit (.slice .none 0 0))]) []), [], .none⟩, ⟨(.some 35), .none, (.build (.arr 1 (List.replicate 32 (.lit (bn 0)))) [(0, (.const (bn 9)))]), [], .none⟩, ⟨(.some 36), .none, (.load .true 71 (.tmp 3)), [], .none⟩, ⟨(.some 37), .none, (.build (.st [1, 1, 1, 1, 1, 32, 32, 1, 1] [(.lit (jn 0)), (.lit (wn 0)), (.lit (.slice .none 0 0)), (.lit (jn 0)), (.lit (.slice .none 0 0)), (.arr 1 (List.replicate 32 (.lit (bn 0)))), (.arr 1 (List.replicate 32 (.lit (bn 0)))), (.lit (tx [])), (.lit (.slice .none 0 0))]) []), [], .none⟩, ⟨(.some 38), .none, (.load .true 32 (.tmp 2)), [], .none⟩, ⟨(.some 39), .none, (.bslice 32 (.arr 1 (List.replicate 32 (.lit (bn 0)))) 1 [(0, (.tmp 38))]), [], .none⟩, ⟨(.some 40), .none, (.xc (.dir 10) [(.tmp 33), (.tmp 34), (.const (jn 1)), (.tmp 35), (.tmp 36), (.tmp 37), (.tmp 39)] [] []), [], .none⟩, ⟨(.some 31), .none, (.mov (.tmp 40)), [], .none⟩, ⟨(.some 41), .none, (.ext (.tmp 31) 0), [], .none⟩, ⟨(.some 42), .none, (.ext (.tmp 31) 1), [], .none⟩, ⟨(.some 6), .none, (.alloc 529 (.st [528, 1] [(.arr 66 (List.replicate 8 (.st [1, 1, 32, 32] [(.lit (.bool .false)), (.lit (.bool .false)), (.arr 1 (List.replicate 32 (.lit (bn 0)))), (.arr 1 (List.replicate 32 (.lit (bn 0))))]))), (.lit (.slice .none 0 0))])), [], .none⟩, ⟨.none, .none, (.store 529 (.tmp 6) (.tmp 41)), [], .none⟩, ⟨(.some 7), .none, (.mov (.tmp 42)), [], .none⟩]) (.seq (.reg [⟨(.some 44), .none, (.load .true 1 (.tmp 1)), [8], (.some 1)⟩, ⟨(.some 45), .none, (.rdp (.mkifc 40) [(.tmp 44)]), [], .none⟩, ⟨(.some 46), .none, (.build (.st [528, 1] [(.arr 66 (List.replicate 8 (.st [1, 1, 32, 32] [(.lit (.bool .false)), (.lit (.bool .false)), (.arr 1 (List.replicate 32 (.lit (bn 0)))), (.arr 1 (List.replicate 32 (.lit (bn 0))))]))), (.lit (.slice .none 0 0))]) []), [], .none⟩, ⟨(.some 47), .none, (.build (.arr 1 (List.replicate 32 (.lit (bn 0)))) [(0, (.const (bn 9)))]), [], .none⟩, ⟨(.some 48), .none, (.load .true 71 (.tmp 3)), [8], (.some 3)⟩, ⟨(.some 49), .none, (.build (.st [1, 1, 1, 1, 1, 32, 32, 1, 1] [(.lit (jn 0)), (.lit (wn 0)), (.lit (.slice .none 0 0)), (.lit (jn 0)), (.lit (.slice .none 0 0)), (.arr 1 (List.replicate 32 (.lit (bn 0)))), (.arr 1 (List.replicate 32 (.lit (bn 0)))), (.lit (tx [])), (.lit (.slice .none 0 0))]) []), [], .none⟩, ⟨(.some 50), .none, (.faddr 0 0 (.tmp 1)), [], .none⟩, ⟨(.some 51), .none, (.load .false 1 (.tmp 50)), [8], (.some 1)⟩, ⟨(.some 52), .none, (.xc (.dir 11) [(.tmp 51), (.const (tx [111, 116, 104, 101, 114]))] [1, 3] [8]), [], .none⟩, ⟨(.some 53), .none, (.bslice 32 (.arr 1 (List.replicate 32 (.lit (bn 0)))) 1 [(0, (.tmp 52))]), [], .none⟩, ⟨(.some 54), .none, (.xc (.dir 10) [(.tmp 45), (.tmp 46), (.const (jn 1)), (.tmp 47), (.tmp 48), (.tmp 49), (.tmp 53)] [] [8]), [], .none⟩, ⟨(.some 43), .none, (.mov (.tmp 54)), [], .none⟩, ⟨(.some 55), .none, (.ext (.tmp 43) 0), [], .none⟩, ⟨(.some 56), .none, (.ext (.tmp 43) 1), [], .none⟩, ⟨(.some 8), .none, (.alloc 529 (.st [528, 1] [(.arr 66 (List.replicate 8 (.st [1, 1, 32, 32] [(.lit (.bool .false)), (.lit (.bool .false)), (.arr 1 (List.replicate 32 (.lit (bn 0)))), (.arr 1 (List.replicate 32 (.lit (bn 0))))]))), (.lit (.slice .none 0 0))])), [], .none⟩, ⟨.none, .none, (.store 529 (.tmp 8) (.tmp 55)), [], .none⟩, ⟨(.some 9), .none, (.mov (.tmp 56)), [], .none⟩]) (.seq (.reg [⟨(.some 57), .none, (.build (.st [528, 1] [(.arr 66 (List.replicate 8 (.st [1, 1, 32, 32] [(.lit (.bool .false)), (.lit (.bool .false)), (.arr 1 (List.replicate 32 (.lit (bn 0)))), (.arr 1 (List.replicate 32 (.lit (bn 0))))]))), (.lit (.slice .none 0 0))]) []), [], .none⟩, ⟨(.some 58), .none, (.load .true 71 (.tmp 3)), [], .none⟩, ⟨(.some 59), .none, (.build (.st [1, 1, 1, 1, 1, 32, 32, 1, 1] [(.lit (jn 0)), (.lit (wn 0)), (.lit (.slice .none 0 0)), (.lit (jn 0)), (.lit (.slice .none 0 0)), (.arr 1 (List.replicate 32 (.lit (bn 0)))), (.arr 1 (List.replicate 32 (.lit (bn 0)))), (.lit (tx [])), (.lit (.slice .none 0 0))]) []), [], .none⟩, ⟨(.some 60), .none, (.load .true 32 (.tmp 2)), [], .none⟩, ⟨(.some 61), .none, (.call 16 [(.tmp 57), (.tmp 58), (.tmp 59), (.tmp 60), (.const (jn 1))]), [], .none⟩, ⟨(.some 10), .none, (.mov (.tmp 61)), [], .none⟩]) (.seq (.reg [⟨(.some 62), .none, (.mov (.tmp 5)), [], .none⟩, ⟨(.some 63), .none, (.bin .eql (.tmp 62) (.const (jn 0))), [], .none⟩, ⟨(.some 64), .none, (.mov (.tmp 63)), [], .none⟩, ⟨(.some 65), (.some (64, .true)), (.mov (.tmp 7)), [], .none⟩, ⟨(.some 66), (.some (64, .true)), (.bin .eql (.tmp 65) (.const (jn 0))), [], .none⟩, ⟨(.some 67), .none, (.pick (.tmp 64) (.tmp 66) (.const (.bool .false))), [], .none⟩, ⟨(.some 68), .none, (.mov (.tmp 67)), [], .none⟩, ⟨(.some 69), (.some (68, .true)), (.mov (.tmp 9)), [], .none⟩, ⟨(.some 70), (.some (68, .true)), (.bin .eql (.tmp 69) (.const (jn 19))), [], .none⟩, ⟨(.some 71), .none, (.pick (.tmp 68) (.tmp 70) (.const (.bool .false))), [], .none⟩, ⟨(.some 72), .none, (.mov (.tmp 71)), [], .none⟩, ⟨(.some 73), (.some (72, .true)), (.faddr 0 0 (.tmp 4)), [], .none⟩, ⟨(.some 74), (.some (72, .true)), (.iaddrA 8 66 (.tmp 73) (.const (jn 0))), [], .none⟩, ⟨(.some 75), (.some (72, .true)), (.load .true 66 (.tmp 74)), [], .none⟩, ⟨(.some 76), (.some (72, .true)), (.faddr 0 0 (.tmp 6)), [], .none⟩, ⟨(.some 77), (.some (72, .true)), (.iaddrA 8 66 (.tmp 76) (.const (jn 0))), [], .none⟩, ⟨(.some 78), (.some (72, .true)), (.load .true 66 (.tmp 77)), [], .none⟩, ⟨(.some 79), (.some (72, .true)), (.eqv 25 .false (.tmp 75) (.tmp 78)), [], .none⟩, ⟨(.some 80), .none, (.pick (.tmp 72) (.tmp 79) (.const (.bool .false))), [], .none⟩, ⟨(.some 81), .none, (.mov (.tmp 80)), [], .none⟩, ⟨(.some 82), (.some (81, .true)), (.faddr 528 1 (.tmp 4)), [], .none⟩, ⟨(.some 83), (.some (81, .true)), (.load .false 1 (.tmp 82)), [], .none⟩, ⟨(.some 84), (.some (81, .true)), (.len .false (.tmp 83)), [], .none⟩, ⟨(.some 85), (.some (81, .true)), (.bin .eql (.tmp 84) (.const (jn 1))), [], .none⟩, ⟨(.some 86), .none, (.pick (.tmp 81) (.tmp 85) (.const (.bool .false))), [], .none⟩, ⟨(.some 87), .none, (.mov (.tmp 86)), [], .none⟩, ⟨(.some 88), (.some (87, .true)), (.faddr 0 0 (.tmp 4)), [], .none⟩, ⟨(.some 89), (.some (87, .true)), (.iaddrA 8 66 (.tmp 88) (.const (jn 0))), [], .none⟩, ⟨(.some 90), (.some (87, .true)), (.faddr 0 0 (.tmp 89)), [], .none⟩, ⟨(.some 91), (.some (87, .true)), (.load .false 1 (.tmp 90)), [], .none⟩, ⟨(.some 92), .none, (.pick (.tmp 87) (.tmp 91) (.const (.bool .false))), [], .none⟩, ⟨(.some 93), .none, (.mov (.tmp 92)), [], .none⟩, ⟨(.some 94), (.some (93, .true)), (.mov (.tmp 10)), [], .none⟩, ⟨(.some 95), (.some (93, .true)), (.len .false (.tmp 94)), [], .none⟩, ⟨(.some 96), (.some (93, .true)), (.bin .eql (.tmp 95) (.const (jn 1))), [], .none⟩, ⟨(.some 97), .none, (.pick (.tmp 93) (.tmp 96) (.const (.bool .false))), [], .none⟩, ⟨(.some 98), .none, (.mov (.tmp 97)), [], .none⟩, ⟨(.some 99), (.some (98, .true)), (.mov (.tmp 10)), [], .none⟩, ⟨(.some 100), (.some (98, .true)), (.iaddrS 32 (.tmp 99) (.const (jn 0))), [], .none⟩, ⟨(.some 101), (.some (98, .true)), (.load .true 32 (.tmp 100)), [], .none⟩, ⟨(.some 102), (.some (98, .true)), (.load .true 32 (.tmp 2)), [], .none⟩, ⟨(.some 103), (.some (98, .true)), (.eqv 23 .false (.tmp 101) (.tmp 102)), [], .none⟩, ⟨(.some 104), .none, (.pick (.tmp 98) (.tmp 103) (.const (.bool .false))), [], .none⟩, ⟨(.some 0), .none, (.mov (.tmp 104)), [], .none⟩]) .ret)))))))))
def fc602 : FC := ⟨0, 105, [(.tmp 0)], fb602⟩
theorem fc602_eq : compF Go.Proofs.Tryd.prog 5 = some fc602 := by kernel_rfl

theorem eq_rat {a b : Bool} {k c : List UInt8} (hk : k.length = 32) (hc : c.length = 32) : EqAV Go.Proofs.Tryd.prog 25 (.st [1, 1, 32, 32] [.lit (.bool a), .lit (.bool b), keyA k, keyA c]) (.st [1, 1, 32, 32] [.lit (.bool a), .lit (.bool b), keyA k, keyA c]) true := by
  obtain ⟨fs, _, _, _, _, hu, _⟩ := four_fields (P := Go.Proofs.Tryd.prog) (o := Go.Proofs.Tryd.prog.underlying 25) (tk := 23) (by kernel_rfl)
  have hcr : Go.Proofs.Tryd.prog.cellsOf 25 = 66 := by kernel_rfl
  refine (KLit.rat (d := 0) hk hc).eq fun cs hcs => ?_
  simp only [asVal, Value.formed, hu]
  simp [AV.sz] at hcs
  simp [hcr, hcs]
theorem mkifc_free (b : Nat) (l : Nat × Nat) : rdA Go.Proofs.Tryd.prog (fun _ => none) (.mkifc 40) [freeS b l] = some (freeI b l) := by kernel_rfl
theorem freeS_sz (b : Nat) (l : Nat × Nat) : (freeS b l).sz = 1 := rfl
theorem freeS_agg (b : Nat) (l : Nat × Nat) : (freeS b l).isAgg = true := rfl
theorem freeS_tup (b : Nat) (l : Nat × Nat) : (freeS b l).isTup = false := rfl
theorem tgt_drawS (b : Nat) (l : Nat × Nat) (x : AV) : tgtA Go.Proofs.Tryd.prog (.dir 11) [.ptr b l 0 [], x] = some (11, [.ptr b l 0 [], x]) := by kernel_rfl
theorem tgt_cre (a b : AV) : tgtA Go.Proofs.Tryd.prog (.dir 12) [a, b] = some (12, [a, b]) := by kernel_rfl
theorem TsOk.nil' : TsOk [] := ⟨by simp, by simp, by simp, by simp⟩
def key9 : List UInt8 := 9 :: List.replicate 31 0
def txSeed : List UInt8 := [115, 101, 101, 100]
def txOther : List UInt8 := [111, 116, 104, 101, 114]
theorem cre_k {H : List (Option Blk)} {t : Tb} {V0 : Value} {ts0 ts : List Term} (hh : TbOk H t V0 ts0) (hl : ts.length + 100 < 90000) {seed m c' k' : List UInt8} {t3 : List Term} (hs : seed.length = 32) (h3 : t3.length < 90000) (hc' : c'.length = 32) (hk' : k'.length = 32) (hu : updV ts (dec2 1) zk seed = (m, c', k', t3)) :
    KC Go.Proofs.Tryd.prog 12 [freeI t.b t.l, keyA seed] H t ts (o0A (nameK (putN t3 (chkT c')))) (putT t3 (chkT c')) := KC.of hh fun H V h => cre_call h hl hs h3 hc' hk' hu
/-- Another seed has another check. -/
theorem chk_ne {us : List Term} (hus : TsOk us) {it s1 s2 a b c1 c2 k1 k2 m1 m2 chk1 chk2 x y : List UInt8} (_hi : it.length < 1000) (hx : x.length < 1000) (hy : y.length < 1000) (ha : Nm us (drawT x) a) (hb : Nm us (drawT y) b) (hxy : x ≠ y)
    (u1 : Nm us (senT a) s1 ∧ Nm us (rT1 zk s1) c1 ∧ Nm us (chkT c1) chk1) (u2 : Nm us (senT b) s2 ∧ Nm us (rT1 zk s2) c2 ∧ Nm us (chkT c2) chk2) : chk2 ≠ chk1 := fun e => by
  subst e
  obtain ⟨a1, a2, a3⟩ := u1
  obtain ⟨b1, b2, b3⟩ := u2
  have e1 := b3.inj a3 hus (chkT_ok b2.len) (chkT_ok a2.len)
  simp [chkT] at e1
  subst e1
  have e2 := b2.inj a2 hus (rT1_ok zk_len b1.len) (rT1_ok zk_len a1.len)
  simp [rT1] at e2
  subst e2
  have e3 := b1.inj a1 hus (senT_ok hb.len) (senT_ok ha.len)
  simp [senT] at e3
  subst e3
  have e4 := hb.inj ha hus (drawT_ok (by omega)) (drawT_ok (by omega))
  simp [drawT] at e4
  exact hxy e4.symm

set_option maxHeartbeats 64000000 in
theorem salive_call : PCall Go.Proofs.Tryd.prog 5 [] (.val (.lit (.bool true))) := by
  have h602 := fc602_eq
  have hc6 : callable Go.Proofs.Tryd.prog 7 = true := by kernel_rfl
  refine PCall.of h602 rfl ?_; show AC.wp _ fb602 (AS.init [] 0 105) (fun x s => match x with | .exit _ => False | _ => Fin [(.tmp 0)] s _); unfold fb602 AS.init
  refine wp_sr (by simp [push_cast]; exact rfl) ?_
  refine wp_sgL ?_
  refine areg_run 0 (by simp [push_cast]; exact rfl) ?_
  refine areg_xq (us := []) rfl (by simp only [tgtA, tgtB, Option.bind_some, hc6, if_true]) (newfree_call _) ⟨_, _, (0, 0), 0, rfl, rfl⟩ (fun r hp' _ t' ht' => by cases ht') ?_
  rintro r H' ⟨l, rr, rfl, rfl⟩
  refine areg_run 0 (by simp [push_cast]; exact rfl) ?_
  refine areg_al' rfl fun l1 => areg_end (by simp [push_cast, freeS_sz, freeS_agg, freeS_tup]; exact rfl) ?_
  refine wp_kit (n := 105) (Lo := [none, some (.box l1 1 (freeS 105 l))] ++ List.replicate 103 none) (fun N t => [.lit (.bool false), .ptr (N + 1) l1 0 []] ++ List.replicate 103 .any) (fun N t => [none, some (.box l1 1 (freeS t.b t.l))] ++ List.replicate 103 none) rfl ?_ ?_ fun N H t V hh hN => ?_
  · simp [leA, RelLe.refl', RelLe.ptr']
  · simp [leB, tbNew, BlkLe.freeS']
  have G1 : ∀ V' ts', (tbOf H t V' ts').length = N := fun V' ts' => by rw [tbOf_len, hN]
  have g1 : ∀ V' ts' L k, (tbOf H t V' ts' ++ L)[N + k]? = L[k]? := fun V' ts' L k => cat1 _ _ _ _ (G1 _ _)
  have g2 : ∀ V' ts' L k x, (tbOf H t V' ts' ++ L).set (N + k) x = tbOf H t V' ts' ++ L.set k x := fun V' ts' L k x => cat2 _ _ _ _ _ (G1 _ _)
  -- the seed, the beginning
  have d1 := drawT_ok (s := txSeed) (by decide)
  have hdk := draw_k hh (ts := []) (s := txSeed) (by simp) (by decide)
  have p1 := putT_len [] (drawT txSeed)
  have q1 := TsOk.nil'.draw (s := txSeed) (by decide) (by simp)
  have nm1 := Nm.put [] (drawT txSeed)
  simp only [List.length_nil] at p1
  generalize nameK (putN [] (drawT txSeed)) = seed at *
  generalize putT [] (drawT txSeed) = ts1 at *
  have hs := nm1.len
  obtain ⟨m, c', k', t3, hu⟩ : ∃ m c' k' t3, updV ts1 (dec2 1) zk seed = (m, c', k', t3) := ⟨_, _, _, _, rfl⟩
  obtain ⟨s, hU, w1, w2, w3, w4⟩ := upd_law q1 (by omega) (by decide) zk_len hs hu
  have kcre := cre_k hh (by omega) hs (by omega) w2 w3 hu
  generalize hck : nameK (putN t3 (chkT c')) = chk at *
  generalize hus : putT t3 (chkT c') = us at *
  have hcl := hU.chk.len
  have hcz := hU.chk.nz
  have hUl := hU.len
  have ka0 := acr_k hh (ts := us) (by omega) hs (t3 := us) (by omega) w2 w3 hU.again (c := chk) hcl hcz (me := 0) (.inl rfl) (id := key9) rfl
  have ka1 := acr_k hh (ts := us) (by omega) hs (t3 := us) (by omega) w2 w3 hU.again (c := chk) hcl hcz (me := 1) (.inr rfl) (id := key9) rfl
  rw [hU.chk.putN, hU.chk.putT, if_pos rfl] at ka0 ka1
  -- another seed
  have hdk2 := draw_k hh (ts := us) (s := txOther) (by omega) (by decide)
  have p2 := putT_len us (drawT txOther)
  have q2 := hU.tok.draw (s := txOther) (by decide) (by omega)
  have nm2 := Nm.put us (drawT txOther)
  have pre2 := put_pre us (drawT txOther)
  generalize nameK (putN us (drawT txOther)) = oth at *
  generalize putT us (drawT txOther) = ts2 at *
  have ho := nm2.len
  obtain ⟨m2, c2, k2, t5, hu2⟩ : ∃ m2 c2 k2 t5, updV ts2 (dec2 1) zk oth = (m2, c2, k2, t5) := ⟨_, _, _, _, rfl⟩
  obtain ⟨s2, hU2, v1, v2, v3, v4⟩ := upd_law q2 (by omega) (by decide) zk_len ho hu2
  have kb := acr_k hh (ts := ts2) (by omega) ho (t3 := t5) (by omega) v2 v3 hu2 (c := chk) hcl hcz (me := 1) (.inr rfl) (id := key9) rfl
  have pre3 := pre2.trans hU2.pre
  have hne := chk_ne hU2.tok (it := []) (m1 := m) (m2 := m2) (k1 := k') (k2 := k2) (x := txSeed) (y := txOther) (by simp) (by decide) (by decide) ((nm1.mono hU.pre).mono pre3) (nm2.mono hU2.pre) (by decide) ⟨hU.sen.mono pre3, hU.chn.mono pre3, hU.chk.mono pre3⟩ ⟨hU2.sen, hU2.chn, hU2.chk⟩
  rw [if_neg hne] at kb
  generalize putT t5 (chkT c2) = us2 at *
  have cc := content_call hcl hcz hs
  have hq := eq_rat (a := true) (b := false) w3 w2
  have hqk := eq_key hs hs
  have h9 : key9.length = 32 := rfl
  clear hu hu2 hU hU2 nm1 nm2 d1 q1 q2 pre2 pre3 hck hus hne
  refine wp_sg ?_
  refine areg_run 2 (by simp [push_cast, g1, freeS]; exact rfl) ?_
  refine areg_xc (vs := [.ptr t.b t.l 0 [], .lit (tx txSeed)]) rfl (hdk _ _) ⟨_, _, rfl, .slice none 0 0, rfl⟩ ?_
  rintro r H' ⟨rfl, V1, rfl⟩
  refine areg_al' zk_eq.symm fun l2 => areg_end (by simp [push_cast, g1, g2, hs, zk_len]; exact rfl) ?_
  refine wp_sg ?_
  refine areg_run 1 (by simp [push_cast, g1, freeS_sz, freeS_agg, freeS_tup]; exact rfl) ?_
  refine areg_rdp (us := [freeS t.b t.l]) rfl (mkifc_free _ _) ?_
  refine areg_run 1 (by simp [push_cast, g1, hs]; exact rfl) ?_
  refine areg_k [freeI t.b t.l, keyA seed] hN rfl (tgt_cre _ _) kcre (by simp) (by simp) fun V2 => ?_
  refine areg_al' (z' := ozA) rfl fun l3 => areg_end (by simp [push_cast, g1, g2, ozA, o0A, hcl, zk_len]; exact rfl) ?_
  refine wp_sg ?_
  refine areg_run 1 (by simp [push_cast, g1, freeS_sz, freeS_agg, freeS_tup]; exact rfl) ?_
  refine areg_rdp (us := [freeS t.b t.l]) rfl (mkifc_free _ _) ?_
  refine areg_bd (z' := ks0) rfl ?_
  refine areg_bd (z' := keyA key9) (fill_ar rfl rfl rfl rfl rfl) ?_
  refine areg_run 1 (by simp [push_cast, g1, o0A, hcl, zk_len]; exact rfl) ?_
  refine areg_bd (z' := ozA) rfl ?_
  refine areg_run 1 (by simp [push_cast, g1, hs]; exact rfl) ?_
  refine areg_bsl (k := 32) (els := klA [seed]) (fill_ar rfl rfl rfl (by simp [AV.sz, AS.ev, AS.put, hs, bl_len]) rfl) ?_
  refine areg_k [freeI t.b t.l, ks0, .lit (jn 0), keyA key9, o0A chk, ozA, .sl 32 (klA [seed])] hN rfl (tgt_apply _ _ _ _ _ _ _) ka0 (by simp) (by simp) fun V3 => ?_
  refine areg_run 3 (by simp [push_cast]; exact rfl) ?_
  refine areg_al' (z' := ks0) rfl fun l4 => areg_end (by simp [push_cast, g1, g2, keysA]; exact rfl) ?_
  refine wp_sg ?_
  refine areg_run 1 (by simp [push_cast, g1, freeS_sz, freeS_agg, freeS_tup]; exact rfl) ?_
  refine areg_rdp (us := [freeS t.b t.l]) rfl (mkifc_free _ _) ?_
  refine areg_bd (z' := ks0) rfl ?_
  refine areg_bd (z' := keyA key9) (fill_ar rfl rfl rfl rfl rfl) ?_
  refine areg_run 1 (by simp [push_cast, g1, o0A, hcl, zk_len]; exact rfl) ?_
  refine areg_bd (z' := ozA) rfl ?_
  refine areg_run 1 (by simp [push_cast, g1, hs]; exact rfl) ?_
  refine areg_bsl (k := 32) (els := klA [seed]) (fill_ar rfl rfl rfl (by simp [AV.sz, AS.ev, AS.put, hs, bl_len]) rfl) ?_
  refine areg_k [freeI t.b t.l, ks0, .lit (jn 1), keyA key9, o0A chk, ozA, .sl 32 (klA [seed])] hN rfl (tgt_apply _ _ _ _ _ _ _) ka1 (by simp) (by simp) fun V4 => ?_
  refine areg_run 3 (by simp [push_cast]; exact rfl) ?_
  refine areg_al' (z' := ks0) rfl fun l6 => areg_end (by simp [push_cast, g1, g2, keysA]; exact rfl) ?_
  refine wp_sg ?_
  refine areg_run 1 (by simp [push_cast, g1, freeS_sz, freeS_agg, freeS_tup]; exact rfl) ?_
  refine areg_rdp (us := [freeS t.b t.l]) rfl (mkifc_free _ _) ?_
  refine areg_bd (z' := ks0) rfl ?_
  refine areg_bd (z' := keyA key9) (fill_ar rfl rfl rfl rfl rfl) ?_
  refine areg_run 1 (by simp [push_cast, g1, o0A, hcl, zk_len]; exact rfl) ?_
  refine areg_bd (z' := ozA) rfl ?_
  refine areg_run 2 (by simp [push_cast, g1, freeS]; exact rfl) ?_
  refine areg_k [.ptr t.b t.l 0 [], .lit (tx txOther)] hN rfl (tgt_drawS _ _ _) hdk2 (by simp) (by simp [AS.ev, AV.place]) fun V5 => ?_
  refine areg_bsl (k := 32) (els := klA [oth]) (fill_ar rfl rfl rfl (by simp [AV.sz, AS.ev, AS.put, ho, bl_len, keyA]) rfl) ?_
  refine areg_k [freeI t.b t.l, ks0, .lit (jn 1), keyA key9, o0A chk, ozA, .sl 32 (klA [oth])] hN rfl (tgt_apply _ _ _ _ _ _ _) kb (by simp) (by simp) fun V6 => ?_
  refine areg_run 3 (by simp [push_cast]; exact rfl) ?_
  refine areg_al' (z' := ks0) rfl fun l8 => areg_end (by simp [push_cast, g1, g2, keysA]; exact rfl) ?_
  refine wp_sg ?_
  refine areg_bd (z' := ks0) rfl ?_
  refine areg_run 1 (by simp [push_cast, g1, o0A, hcl, zk_len]; exact rfl) ?_
  refine areg_bd (z' := ozA) rfl ?_
  refine areg_run 1 (by simp [push_cast, g1, hs]; exact rfl) ?_
  refine areg_cr (d := 61) rfl cc fun V7 => ?_
  refine areg_end (by simp [push_cast, g1, g2]; exact rfl) ?_
  refine wp_sg ?_
  refine areg_run 17 (by simp [push_cast, g1, rats1, ratA]; exact rfl) ?_
  refine areg_g (by simp [AS.ev, AS.put]) (areg_eq rfl rfl hq rfl rfl ?_)
  refine areg_run 23 (by simp [push_cast, g1, hs, klA]; exact rfl) ?_
  refine areg_g (by simp [AS.ev, AS.put]) (areg_eq (by simp [AS.ev, AS.put] <;> exact rfl) (by simp [AS.ev, AS.put] <;> exact rfl) hqk rfl rfl ?_)
  refine areg_end (by simp [push_cast]; exact rfl) (wp_ret' ?_)
  exact fin_tmp (by simp [RVal, AS.ev, AS.coe]) (by simp)
end Go.Cab

/- Secrets, plain: a beginning, and each step: what is kept. -/
-- TEXTS
-- KIT
namespace Go.Cab
open Go.RowKit
open Classical

/-- What holds ahead of each step. -/
structure Fs (ts : List Term) (was : List (List UInt8)) (K C : List UInt8) (ws : List WaitV) : Prop where
  tok : TsOk ts
  sg : ∃ B, Sg ts B K C ∧ ∀ u ∈ was, u ∈ B
  wt : ∀ w ∈ ws, w.of_.length = 32 ∧ ∃ s, TermOk (memT (dec2 1) s) ∧ Nm ts (memT (dec2 1) s) w.key
theorem Fs.l32 {ts : List Term} {was : List (List UInt8)} {K C : List UInt8} {ws : List WaitV} (h : Fs ts was K C ws) : K.length = 32 ∧ C.length = 32 ∧ ∀ u ∈ was, u.length = 32 ∧ u ≠ zk := by
  obtain ⟨B, hB, hw⟩ := h.sg
  obtain ⟨l1, l2, l3⟩ := hB.l32
  refine ⟨l1, l2, fun u hu => ⟨l3 u (hw u hu), ?_⟩⟩
  obtain ⟨x, _, hn, _⟩ := hB.old u (hw u hu)
  exact hn.nz
theorem Fs.wk {ts : List Term} {was : List (List UInt8)} {K C : List UInt8} {ws : List WaitV} (h : Fs ts was K C ws) : ∀ w ∈ ws, w.key.length = 32 ∧ w.of_.length = 32 := fun w hw => by
  obtain ⟨h1, s, _, h2⟩ := h.wt w hw
  exact ⟨h2.len, h1⟩
/-- The first: one's own secret. -/
theorem Fs.first {ts us : List Term} (hn : ∀ y ∈ ts, y.kind ≠ 6) {first m s c' k' chk id : List UInt8} (hf : Nm ts (drawT txFirst) first) (hU : Upd ts us (dec2 1) zk first m s c' k' chk) (hi : id.length = 32) : Fs us [] k' c' [⟨id, 1, m⟩] := by
  have hfu := hf.mono hU.pre
  have o0 := drawT_ok (s := txFirst) (by decide)
  have o1 := senT_ok hf.len
  have o2 := rT1_ok zk_len hU.sen.len
  have o3 := rT2_ok zk_len hU.sen.len
  have fr : ∀ (x : Term) (u : List UInt8), (x = rT1 zk s ∨ x = rT2 zk s) → TermOk x → Nm us x u → u ∉ [first, s] := fun x u hx hok hu hm => by
    simp only [List.mem_cons, List.not_mem_nil, or_false] at hm
    rcases hm with rfl | rfl
    · have e := hu.inj hfu hU.tok hok o0
      rcases hx with rfl | rfl <;> simp [rT1, rT2, drawT] at e
    · have e := hu.inj hU.sen hU.tok hok o1
      rcases hx with rfl | rfl <;> simp [rT1, rT2, senT, txRatchet, txSender] at e
  refine ⟨hU.tok, ⟨[first, s], ⟨fun u hu => ?_, ⟨zk, s, o3, hU.key, .inl ⟨rfl, by simp⟩⟩, ⟨zk, s, o2, hU.chn, .inl ⟨rfl, by simp⟩⟩, fr _ _ (.inr rfl) o3 hU.key, fr _ _ (.inl rfl) o2 hU.chn, hU.kinds hn⟩, by simp⟩, fun w hw => ?_⟩
  · simp only [List.mem_cons, List.not_mem_nil, or_false] at hu
    rcases hu with rfl | rfl
    · exact ⟨_, o0, hfu, .inl rfl⟩
    · exact ⟨_, o1, hU.sen, .inr (.inl ⟨first, by simp, rfl⟩)⟩
  · simp only [List.mem_singleton] at hw
    subst hw
    exact ⟨hi, first, memT_ok (by have := dec2_len 1; omega) hf.len, hU.mem⟩
/-- A step: what came ahead does not follow of all that is known behind it. -/
theorem Fs.step {ts tA us : List Term} {was : List (List UInt8)} {K C : List UInt8} {ws : List WaitV} (h : Fs ts was K C ws) {x seed m s c' k' chk id : List UInt8} (hx : x.length < 1000) (htA : putT ts (drawT x) = tA) (hseed : nameK (putN ts (drawT x)) = seed) (hU : Upd tA us (dec2 1) K seed m s c' k' chk) (hi : id.length = 32) :
    Fs us (was ++ [K, C]) k' c' (ws ++ [⟨id, 1, m⟩]) ∧ ∀ Kn, FolOk us (allV (rats1 k' c') (ws ++ [⟨id, 1, m⟩])) Kn → ∀ u ∈ was ++ [K, C], hasV Kn u = false := by
  obtain ⟨B, hB, hw⟩ := h.sg
  have hnm : Nm tA (drawT x) seed := by rw [← htA, ← hseed]; exact Nm.put ts _
  have hpre : ts <+: tA := by rw [← htA]; exact put_pre ts _
  have hkA : ∀ y ∈ tA, y.kind ≠ 6 := fun y hy => by
    rw [← htA] at hy
    rcases mem_put hy with hy | rfl
    · exact hB.box y hy
    · simp [drawT]
  have hpu := hpre.trans hU.pre
  have hS := (hB.mono hpu (hU.kinds hkA)).next hU.tok hU.sen.len hU.key hU.chn
  have hwt : ∀ w ∈ ws ++ [⟨id, 1, m⟩], w.of_.length = 32 ∧ ∃ s, TermOk (memT (dec2 1) s) ∧ Nm us (memT (dec2 1) s) w.key := fun w hw' => by
    rcases List.mem_append.1 hw' with hw' | hw'
    · obtain ⟨h1, s, h2, h3⟩ := h.wt w hw'
      exact ⟨h1, s, h2, h3.mono hpu⟩
    · simp only [List.mem_singleton] at hw'
      subst hw'
      exact ⟨hi, seed, memT_ok (by have := dec2_len 1; omega) hnm.len, hU.mem⟩
  have hwas : ∀ u ∈ was ++ [K, C], u ∈ B ++ [K, C] := fun u hu => by
    rcases List.mem_append.1 hu with hu | hu
    · exact List.mem_append_left _ (hw u hu)
    · exact List.mem_append_right _ hu
  refine ⟨⟨hU.tok, ⟨B ++ [K, C], hS, hwas⟩, hwt⟩, fun Kn hK u hu => hS.hides hU.tok (fun v hv => ?_) hK u (hwas u hu)⟩
  unfold allV at hv
  rcases List.mem_append.1 hv with hv | hv
  · simp only [rats1, ratN, rat0, List.map_cons, List.map_nil, List.flatten_cons, List.flatten_nil, List.append_nil, List.cons_append, List.nil_append, List.mem_cons, List.not_mem_nil, or_false] at hv
    obtain ⟨q1, s1, o1, n1, _⟩ := hS.key
    obtain ⟨q2, s2, o2, n2, _⟩ := hS.chn
    rcases hv with rfl | rfl | hv
    · exact .inr ⟨⟨_, o1, n1⟩, hS.nk⟩
    · exact .inr ⟨⟨_, o2, n2⟩, hS.nc⟩
    · exact .inl (by rcases hv with h | h | h | h | h | h | h | h | h | h | h | h | h | h <;> exact h)
  · obtain ⟨w, hw', rfl⟩ := List.mem_map.1 hv
    obtain ⟨_, s', o3, n3⟩ := hwt w hw'
    exact .inr ⟨⟨_, o3, n3⟩, hS.mem hU.tok o3 n3⟩
end Go.Cab

/- What follows: there is always an end to it; upon blocks that change. -/
-- TEXTS
-- KIT
namespace Go.Cab
open Classical

/-- Follow, by a caller with blocks of its own behind the table's. -/
theorem follow_at {H : List (Option Blk)} {t : Tb} {V0 : Value} {ts0 ts : List Term} (hh : TbOk H t V0 ts0) (hts : TsOk ts) (V : Value) {L : List (Option Blk)} {seen : List (List UInt8)} (hsl : seen.length < 100000) (h32 : ∀ k ∈ seen, k.length = 32) {c sl : Nat} {Vc : Value} (hc : (tbOf H t V ts ++ L)[c]? = some (some (.row 23 Vc 32 (klA seen) sl))) :
    XCall Go.Proofs.Tryd.prog 14 [.ptr t.b t.l 0 [], .own c Vc] (tbOf H t V ts ++ L) (FolK (tbOf H t V ts ++ L) ts seen) :=
  follow_own (hh.at V ts L) hts hsl h32 hc
theorem follow_sl_at {H : List (Option Blk)} {t : Tb} {V0 : Value} {ts0 ts : List Term} (hh : TbOk H t V0 ts0) (hts : TsOk ts) (V : Value) (L : List (Option Blk)) {seen : List (List UInt8)} (hsl : seen.length < 100000) (h32 : ∀ k ∈ seen, k.length = 32) :
    XCall Go.Proofs.Tryd.prog 14 [.ptr t.b t.l 0 [], .sl 32 (klA seen)] (tbOf H t V ts ++ L) (FolK (tbOf H t V ts ++ L) ts seen) :=
  follow_sl (hh.at V ts L) hts hsl h32
theorem FolK.ex {H : List (Option Blk)} {ts : List Term} {seen : List (List UInt8)} (h : ∃ K, FolOk ts seen K) (hn : ts.length < 100000) : ∃ r H', FolK H ts seen r H' := by
  obtain ⟨K, hK⟩ := h
  refine ⟨_, _, K, ⟨H.length, (0, 0), H.length + 1, H.length + 2, (0, 0)⟩, .slice none 0 0, [some (fbk ⟨H.length, (0, 0), H.length + 1, H.length + 2, (0, 0)⟩ (.slice none 0 0)), some (frk (.slice none 0 0) K), some (.box (0, 0) 2 (.st [1, 1] [.view 0 (0, 0) 0 [] 3 0 ts.length ts.length, .any]))], hK, rfl, rfl, fun G hG => ?_⟩
  have e := fun k => cat1 H.length G [some (fbk ⟨H.length, (0, 0), H.length + 1, H.length + 2, (0, 0)⟩ (.slice none 0 0)), some (frk (.slice none 0 0) K), some (.box (0, 0) 2 (.st [1, 1] [.view 0 (0, 0) 0 [] 3 0 ts.length ts.length, .any]))] k hG
  refine ⟨?_, ?_, ⟨.view 0 (0, 0) 0 [] 3 0 ts.length ts.length, .any, ?_, .inr (.inl ⟨_, _, _, _, _, _, by rw [hK.len]⟩)⟩, by rw [hK.len]; exact hn⟩
  · have := e 0
    rw [Nat.add_zero] at this
    exact this.trans rfl
  · rw [e]; rfl
  · rw [e]; rfl
/-- There is always an end to it. -/
theorem Fol_ex (ts : List Term) (seen : List (List UInt8)) : ∃ K, FolOk ts seen K := by
  have key : ∀ (n : Nat) (k : List Bool), k.count false ≤ n → Rounds ts (learnS (List.replicate ts.length false) seen) k → ∃ K, FolOk ts seen K := by
    intro n
    induction n with
    | zero =>
      intro k hk hR
      have hm := MoreOk.roundG ts ts 0 k false
      obtain ⟨_, m2, m3⟩ := hm
      cases hb : (roundG ts ts 0 k false).2 with
      | true => rcases m2 hb with h | h
                · cases h
                · omega
      | false => exact ⟨k, hR, Prod.ext (m3 hb).2 hb⟩
    | succ n ih =>
      intro k hk hR
      have hm := MoreOk.roundG ts ts 0 k false
      obtain ⟨_, m2, m3⟩ := hm
      cases hb : (roundG ts ts 0 k false).2 with
      | true => rcases m2 hb with h | h
                · cases h
                · exact ih (roundG ts ts 0 k false).1 (by omega) (.step _ _ hR)
      | false => exact ⟨k, hR, Prod.ext (m3 hb).2 hb⟩
  exact key _ _ (Nat.le_refl _) (.refl _)

theorem FolK.at {T M L' : List (Option Blk)} {N n m : Nat} {f : Fc} {Vk : Value} {K : List Bool} (h : ∀ G : List (Option Blk), G.length = m → FcOk (G ++ L') f Vk K) (hm : m = N + n) (hT : T.length = N) (hn : n ≤ M.length) (hd : M.drop n = L') : FcOk (T ++ M) f Vk K := by
  have := h (T ++ M.take n) (by rw [List.length_append, List.length_take, Nat.min_eq_left hn]; omega)
  rwa [List.append_assoc, ← hd, List.take_append_drop] at this
end Go.Cab

/- Secrets' laws: SecretsForget walked. -/
-- TEXTS
-- KIT
namespace Go.Cab
open Go.RowKit
open Classical
def fb601 : AC := (.seq (.reg [⟨(.some 2), .none, (.mov (.const (.bool .false))), [], .none⟩]) (.seq (.seq (.reg [⟨(.some 18), .none, (.call 5 []), [], .none⟩, ⟨(.some 19), .none, (.un .not (.tmp 18)), [], .none⟩]) (.cond (.tmp 19) (.seq (.reg [⟨(.some 2), .none, (.mov (.const (.bool .false))), [], .none⟩]) .ret) .skip)) (.seq (.reg [⟨(.some 20), .none, (.xc (.dir 7) [] [] []), [], .none⟩, ⟨(.some 3), .none, (.alloc 1 (.st [1] [(.lit (.pointer .none))])), [], .none⟩, ⟨.none, .none, (.store 1 (.tmp 3) (.tmp 20)), [], .none⟩]) (.seq (.reg [⟨(.some 21), .none, (.faddr 0 0 (.tmp 3)), [], .none⟩, ⟨(.some 22), .none, (.load .false 1 (.tmp 21)), [], .none⟩, ⟨(.some 23), .none, (.icall 11 (.tmp 22) [(.const (tx [102, 105, 114, 115, 116]))]), [], .none⟩, ⟨(.some 4), .none, (.alloc 32 (.arr 1 (List.replicate 32 (.lit (bn 0))))), [], .none⟩, ⟨.none, .none, (.store 32 (.tmp 4) (.tmp 23)), [], .none⟩]) (.seq (.reg [⟨(.some 24), .none, (.load .true 1 (.tmp 3)), [], .none⟩, ⟨(.some 25), .none, (.rdp (.mkifc 40) [(.tmp 24)]), [], .none⟩, ⟨(.some 26), .none, (.load .true 32 (.tmp 4)), [], .none⟩, ⟨(.some 27), .none, (.xc (.dir 12) [(.tmp 25), (.tmp 26)] [] []), [], .none⟩, ⟨(.some 5), .none, (.alloc 71 (.st [1, 1, 1, 1, 1, 32, 32, 1, 1] [(.lit (jn 0)), (.lit (wn 0)), (.lit (.slice .none 0 0)), (.lit (jn 0)), (.lit (.slice .none 0 0)), (.arr 1 (List.replicate 32 (.lit (bn 0)))), (.arr 1 (List.replicate 32 (.lit (bn 0)))), (.lit (tx [])), (.lit (.slice .none 0 0))])), [], .none⟩, ⟨.none, .none, (.store 71 (.tmp 5) (.tmp 27)), [], .none⟩]) (.seq (.reg [⟨(.some 29), .none, (.load .true 1 (.tmp 3)), [], .none⟩, ⟨(.some 30), .none, (.rdp (.mkifc 40) [(.tmp 29)]), [], .none⟩, ⟨(.some 31), .none, (.build (.st [528, 1] [(.arr 66 (List.replicate 8 (.st [1, 1, 32, 32] [(.lit (.bool .false)), (.lit (.bool .false)), (.arr 1 (List.replicate 32 (.lit (bn 0)))), (.arr 1 (List.replicate 32 (.lit (bn 0))))]))), (.lit (.slice .none 0 0))]) []), [], .none⟩, ⟨(.some 32), .none, (.build (.arr 1 (List.replicate 32 (.lit (bn 0)))) [(0, (.const (bn 9)))]), [], .none⟩, ⟨(.some 33), .none, (.load .true 71 (.tmp 5)), [], .none⟩, ⟨(.some 34), .none, (.build (.st [1, 1, 1, 1, 1, 32, 32, 1, 1] [(.lit (jn 0)), (.lit (wn 0)), (.lit (.slice .none 0 0)), (.lit (jn 0)), (.lit (.slice .none 0 0)), (.arr 1 (List.replicate 32 (.lit (bn 0)))), (.arr 1 (List.replicate 32 (.lit (bn 0)))), (.lit (tx [])), (.lit (.slice .none 0 0))]) []), [], .none⟩, ⟨(.some 35), .none, (.load .true 32 (.tmp 4)), [], .none⟩, ⟨(.some 36), .none, (.bslice 32 (.arr 1 (List.replicate 32 (.lit (bn 0)))) 1 [(0, (.tmp 35))]), [], .none⟩, ⟨(.some 37), .none, (.xc (.dir 10) [(.tmp 30), (.tmp 31), (.const (jn 1)), (.tmp 32), (.tmp 33), (.tmp 34), (.tmp 36)] [] []), [], .none⟩, ⟨(.some 28), .none, (.mov (.tmp 37)), [], .none⟩, ⟨(.some 38), .none, (.ext (.tmp 28) 0), [], .none⟩, ⟨(.some 39), .none, (.ext (.tmp 28) 1), [], .none⟩, ⟨(.some 6), .none, (.alloc 529 (.st [528, 1] [(.arr 66 (List.replicate 8 (.st [1, 1, 32, 32] [(.lit (.bool .false)), (.lit (.bool .false)), (.arr 1 (List.replicate 32 (.lit (bn 0)))), (.arr 1 (List.replicate 32 (.lit (bn 0))))]))), (.lit (.slice .none 0 0))])), [], .none⟩, ⟨.none, .none, (.store 529 (.tmp 6) (.tmp 38)), [], .none⟩, ⟨(.some 7), .none, (.mov (.tmp 39)), [], .none⟩]) (.seq (.seq (.reg [⟨(.some 40), .none, (.mov (.tmp 7)), [], .none⟩, ⟨(.some 41), .none, (.bin .neq (.tmp 40) (.const (jn 0))), [], .none⟩]) (.cond (.tmp 41) (.seq (.reg [⟨(.some 2), .none, (.mov (.const (.bool .false))), [], .none⟩]) .ret) .skip)) (.seq (.reg [⟨(.some 8), .none, (.mov (.const (.slice .none 0 0))), [], .none⟩]) (.seq (.seq (.reg [⟨(.some 9), .none, (.mov (.const (jn 0))), [], .none⟩]) (.block 0 (.loop (.seq (.seq (.reg [⟨(.some 42), .none, (.mov (.tmp 9)), [], .none⟩, ⟨(.some 43), .none, (.mov (.tmp 0)), [], .none⟩, ⟨(.some 44), .none, (.len .false (.tmp 43)), [], .none⟩, ⟨(.some 45), .none, (.bin .lss (.tmp 42) (.tmp 44)), [], .none⟩, ⟨(.some 46), .none, (.mov (.tmp 45)), [], .none⟩, ⟨(.some 47), (.some (46, .true)), (.mov (.tmp 9)), [], .none⟩, ⟨(.some 48), (.some (46, .true)), (.bin .lss (.tmp 47) (.const (jn 8))), [], .none⟩, ⟨(.some 49), .none, (.pick (.tmp 46) (.tmp 48) (.const (.bool .false))), [], .none⟩]) (.cond (.tmp 49) .skip (.exit 0))) (.seq (.block 1 (.seq (.reg [⟨(.some 52), .none, (.mov (.tmp 8)), [], .none⟩, ⟨(.some 53), .none, (.faddr 0 0 (.tmp 6)), [], .none⟩, ⟨(.some 54), .none, (.iaddrA 8 66 (.tmp 53) (.const (jn 0))), [], .none⟩, ⟨(.some 55), .none, (.faddr 2 2 (.tmp 54)), [], .none⟩, ⟨(.some 56), .none, (.load .true 32 (.tmp 55)), [], .none⟩, ⟨(.some 57), .none, (.faddr 0 0 (.tmp 6)), [], .none⟩, ⟨(.some 58), .none, (.iaddrA 8 66 (.tmp 57) (.const (jn 0))), [], .none⟩, ⟨(.some 59), .none, (.faddr 34 3 (.tmp 58)), [], .none⟩, ⟨(.some 60), .none, (.load .true 32 (.tmp 59)), [], .none⟩, ⟨(.some 61), .none, (.bslice 32 (.arr 1 (List.replicate 32 (.lit (bn 0)))) 2 [(0, (.tmp 56)), (1, (.tmp 60))]), [], .none⟩, ⟨(.some 62), .none, (.append 23 32 32 (.tmp 52) (.tmp 61)), [], .none⟩, ⟨(.some 8), .none, (.mov (.tmp 62)), [], .none⟩]) (.seq (.reg [⟨(.some 63), .none, (.faddr 0 0 (.tmp 3)), [], .none⟩, ⟨(.some 64), .none, (.load .false 1 (.tmp 63)), [10], .none⟩, ⟨(.some 65), .none, (.mov (.tmp 0)), [], .none⟩, ⟨(.some 66), .none, (.mov (.tmp 9)), [], .none⟩, ⟨(.some 67), .none, (.iaddrS 1 (.tmp 65) (.tmp 66)), [10], (.some 0)⟩, ⟨(.some 68), .none, (.load .false 1 (.tmp 67)), [10], (.some 0)⟩, ⟨(.some 69), .none, (.cvt .u64 (.tmp 68)), [], .none⟩, ⟨(.some 70), .none, (.callv 13 [(.tmp 69)]), [10], .none⟩, ⟨(.some 71), .none, (.bin .add (.const (tx [115, 101, 101, 100])) (.tmp 70)), [], .none⟩, ⟨(.some 72), .none, (.xc (.dir 11) [(.tmp 64), (.tmp 71)] [] [10]), [], .none⟩, ⟨(.some 10), .none, (.alloc 32 (.arr 1 (List.replicate 32 (.lit (bn 0))))), [], .none⟩, ⟨.none, .none, (.store 32 (.tmp 10) (.tmp 72)), [], .none⟩]) (.seq (.reg [⟨(.some 73), .none, (.mov (.tmp 9)), [], .none⟩, ⟨(.some 74), .none, (.bin .add (.tmp 73) (.const (jn 2))), [], .none⟩, ⟨(.some 75), .none, (.cvt .u32 (.tmp 74)), [], .none⟩, ⟨(.some 76), .none, (.build (.arr 1 (List.replicate 32 (.lit (bn 0)))) [(0, (.const (bn 1)))]), [], .none⟩, ⟨(.some 77), .none, (.bslice 32 (.arr 1 (List.replicate 32 (.lit (bn 0)))) 1 [(0, (.tmp 76))]), [], .none⟩, ⟨(.some 78), .none, (.build (.arr 1 (List.replicate 32 (.lit (bn 0)))) [(0, (.const (bn 1)))]), [], .none⟩, ⟨(.some 79), .none, (.build (.st [1, 34, 1] [(.lit (jn 0)), (.st [32, 1, 1] [(.arr 1 (List.replicate 32 (.lit (bn 0)))), (.lit (wn 0)), (.lit (wn 0))]), (.lit (tx []))]) [(0, (.const (jn 1)))]), [], .none⟩, ⟨(.some 80), .none, (.bslice 36 (.st [1, 34, 1] [(.lit (jn 0)), (.st [32, 1, 1] [(.arr 1 (List.replicate 32 (.lit (bn 0)))), (.lit (wn 0)), (.lit (wn 0))]), (.lit (tx []))]) 1 [(0, (.tmp 79))]), [], .none⟩, ⟨(.some 81), .none, (.build (.st [1, 1, 1, 1, 1, 32, 32, 1, 1] [(.lit (jn 0)), (.lit (wn 0)), (.lit (.slice .none 0 0)), (.lit (jn 0)), (.lit (.slice .none 0 0)), (.arr 1 (List.replicate 32 (.lit (bn 0)))), (.arr 1 (List.replicate 32 (.lit (bn 0)))), (.lit (tx [])), (.lit (.slice .none 0 0))]) [(1, (.tmp 75)), (3, (.const (jn 4))), (2, (.tmp 77)), (6, (.tmp 78)), (8, (.tmp 80))]), [], .none⟩, ⟨(.some 11), .none, (.alloc 71 (.st [1, 1, 1, 1, 1, 32, 32, 1, 1] [(.lit (jn 0)), (.lit (wn 0)), (.lit (.slice .none 0 0)), (.lit (jn 0)), (.lit (.slice .none 0 0)), (.arr 1 (List.replicate 32 (.lit (bn 0)))), (.arr 1 (List.replicate 32 (.lit (bn 0)))), (.lit (tx [])), (.lit (.slice .none 0 0))])), [], .none⟩, ⟨.none, .none, (.store 71 (.tmp 11) (.tmp 81)), [], .none⟩]) (.seq (.reg [⟨(.some 83), .none, (.load .true 1 (.tmp 3)), [], .none⟩, ⟨(.some 84), .none, (.rdp (.mkifc 40) [(.tmp 83)]), [], .none⟩, ⟨(.some 85), .none, (.load .true 529 (.tmp 6)), [], .none⟩, ⟨(.some 86), .none, (.load .true 71 (.tmp 11)), [], .none⟩, ⟨(.some 87), .none, (.build (.st [1, 1, 1, 1, 1, 32, 32, 1, 1] [(.lit (jn 0)), (.lit (wn 0)), (.lit (.slice .none 0 0)), (.lit (jn 0)), (.lit (.slice .none 0 0)), (.arr 1 (List.replicate 32 (.lit (bn 0)))), (.arr 1 (List.replicate 32 (.lit (bn 0)))), (.lit (tx [])), (.lit (.slice .none 0 0))]) []), [], .none⟩, ⟨(.some 88), .none, (.load .true 32 (.tmp 10)), [], .none⟩, ⟨(.some 89), .none, (.bslice 32 (.arr 1 (List.replicate 32 (.lit (bn 0)))) 1 [(0, (.tmp 88))]), [], .none⟩, ⟨(.some 90), .none, (.xc (.dir 8) [(.tmp 84), (.tmp 85), (.const (jn 1)), (.tmp 86), (.tmp 87), (.tmp 89)] [] []), [], .none⟩, ⟨(.some 82), .none, (.mov (.tmp 90)), [], .none⟩, ⟨(.some 91), .none, (.ext (.tmp 82) 0), [], .none⟩, ⟨(.some 92), .none, (.ext (.tmp 82) 1), [], .none⟩, ⟨(.some 12), .none, (.alloc 32 (.arr 1 (List.replicate 32 (.lit (bn 0))))), [], .none⟩, ⟨.none, .none, (.store 32 (.tmp 12) (.tmp 91)), [], .none⟩, ⟨(.some 13), .none, (.mov (.tmp 92)), [], .none⟩]) (.seq (.reg [⟨(.some 93), .none, (.load .true 32 (.tmp 12)), [], .none⟩, ⟨(.some 94), .none, (.faddr 37 6 (.tmp 11)), [], .none⟩, ⟨.none, .none, (.store 32 (.tmp 94) (.tmp 93)), [], .none⟩]) (.seq (.reg [⟨(.some 96), .none, (.load .true 1 (.tmp 3)), [], .none⟩, ⟨(.some 97), .none, (.rdp (.mkifc 40) [(.tmp 96)]), [], .none⟩, ⟨(.some 98), .none, (.load .true 529 (.tmp 6)), [], .none⟩, ⟨(.some 99), .none, (.mov (.tmp 9)), [], .none⟩, ⟨(.some 100), .none, (.bin .add (.tmp 99) (.const (jn 10))), [], .none⟩, ⟨(.some 101), .none, (.cvt .u8 (.tmp 100)), [], .none⟩, ⟨(.some 102), .none, (.build (.arr 1 (List.replicate 32 (.lit (bn 0)))) [(0, (.tmp 101))]), [], .none⟩, ⟨(.some 103), .none, (.load .true 71 (.tmp 11)), [], .none⟩, ⟨(.some 104), .none, (.build (.st [1, 1, 1, 1, 1, 32, 32, 1, 1] [(.lit (jn 0)), (.lit (wn 0)), (.lit (.slice .none 0 0)), (.lit (jn 0)), (.lit (.slice .none 0 0)), (.arr 1 (List.replicate 32 (.lit (bn 0)))), (.arr 1 (List.replicate 32 (.lit (bn 0)))), (.lit (tx [])), (.lit (.slice .none 0 0))]) []), [], .none⟩, ⟨(.some 105), .none, (.load .true 32 (.tmp 10)), [], .none⟩, ⟨(.some 106), .none, (.bslice 32 (.arr 1 (List.replicate 32 (.lit (bn 0)))) 1 [(0, (.tmp 105))]), [], .none⟩, ⟨(.some 107), .none, (.xc (.dir 10) [(.tmp 97), (.tmp 98), (.const (jn 1)), (.tmp 102), (.tmp 103), (.tmp 104), (.tmp 106)] [] []), [], .none⟩, ⟨(.some 95), .none, (.mov (.tmp 107)), [], .none⟩, ⟨(.some 108), .none, (.ext (.tmp 95) 0), [], .none⟩, ⟨(.some 109), .none, (.ext (.tmp 95) 1), [], .none⟩, ⟨(.some 14), .none, (.alloc 529 (.st [528, 1] [(.arr 66 (List.replicate 8 (.st [1, 1, 32, 32] [(.lit (.bool .false)), (.lit (.bool .false)), (.arr 1 (List.replicate 32 (.lit (bn 0)))), (.arr 1 (List.replicate 32 (.lit (bn 0))))]))), (.lit (.slice .none 0 0))])), [], .none⟩, ⟨.none, .none, (.store 529 (.tmp 14) (.tmp 108)), [], .none⟩, ⟨(.some 15), .none, (.mov (.tmp 109)), [], .none⟩]) (.seq (.seq (.reg [⟨(.some 110), .none, (.mov (.tmp 13)), [], .none⟩, ⟨(.some 111), .none, (.bin .neq (.tmp 110) (.const (jn 0))), [], .none⟩, ⟨(.some 112), .none, (.mov (.tmp 111)), [], .none⟩, ⟨(.some 113), (.some (112, .false)), (.mov (.tmp 15)), [], .none⟩, ⟨(.some 114), (.some (112, .false)), (.bin .neq (.tmp 113) (.const (jn 0))), [], .none⟩, ⟨(.some 115), .none, (.pick (.tmp 112) (.const (.bool .true)) (.tmp 114)), [], .none⟩]) (.cond (.tmp 115) (.seq (.reg [⟨(.some 2), .none, (.mov (.const (.bool .false))), [], .none⟩]) .ret) .skip)) (.seq (.reg [⟨(.some 116), .none, (.load .true 529 (.tmp 14)), [], .none⟩, ⟨.none, .none, (.store 529 (.tmp 6) (.tmp 116)), [], .none⟩]) (.seq (.reg [⟨(.some 117), .none, (.faddr 0 0 (.tmp 3)), [], .none⟩, ⟨(.some 118), .none, (.load .false 1 (.tmp 117)), [], .none⟩, ⟨(.some 119), .none, (.load .true 529 (.tmp 6)), [], (.some 6)⟩, ⟨(.some 120), .none, (.callv 15 [(.tmp 119)]), [], .none⟩, ⟨(.some 121), .none, (.xc (.dir 14) [(.tmp 118), (.tmp 120)] [] []), [], .none⟩, ⟨(.some 16), .none, (.mov (.tmp 121)), [], .none⟩]) (.seq (.reg [⟨(.some 17), .none, (.mov (.const (jn 0))), [], .none⟩]) (.block 2 (.loop (.seq (.seq (.reg [⟨(.some 122), .none, (.mov (.tmp 17)), [], .none⟩, ⟨(.some 123), .none, (.mov (.tmp 8)), [], .none⟩, ⟨(.some 124), .none, (.len .false (.tmp 123)), [], .none⟩, ⟨(.some 125), .none, (.bin .lss (.tmp 122) (.tmp 124)), [], .none⟩]) (.cond (.tmp 125) .skip (.exit 2))) (.seq (.block 3 (.seq (.reg [⟨(.some 128), .none, (.mov (.tmp 8)), [], .none⟩, ⟨(.some 129), .none, (.mov (.tmp 17)), [], .none⟩, ⟨(.some 130), .none, (.iaddrS 32 (.tmp 128) (.tmp 129)), [], .none⟩, ⟨(.some 131), .none, (.load .true 32 (.tmp 130)), [], .none⟩, ⟨(.some 132), .none, (.build (.arr 1 (List.replicate 32 (.lit (bn 0)))) []), [], .none⟩, ⟨(.some 133), .none, (.eqv 23 .true (.tmp 131) (.tmp 132)), [], .none⟩, ⟨(.some 134), .none, (.mov (.tmp 133)), [], .none⟩, ⟨(.some 135), (.some (134, .true)), (.mov (.tmp 16)), [], .none⟩, ⟨(.some 136), (.some (134, .true)), (.mov (.tmp 8)), [], .none⟩, ⟨(.some 137), (.some (134, .true)), (.mov (.tmp 17)), [], .none⟩, ⟨(.some 138), (.some (134, .true)), (.iaddrS 32 (.tmp 136) (.tmp 137)), [], .none⟩, ⟨(.some 139), (.some (134, .true)), (.load .true 32 (.tmp 138)), [], .none⟩, ⟨(.some 140), (.some (134, .true)), (.xc .val [(.tmp 135), (.tmp 139)] [] []), [], .none⟩, ⟨(.some 141), .none, (.pick (.tmp 134) (.tmp 140) (.const (.bool .false))), [], .none⟩]) (.cond (.tmp 141) (.seq (.reg [⟨(.some 2), .none, (.mov (.const (.bool .false))), [], .none⟩]) .ret) .skip))) (.reg [⟨(.some 126), .none, (.mov (.tmp 17)), [], .none⟩, ⟨(.some 127), .none, (.bin .add (.tmp 126) (.const (jn 1))), [], .none⟩, ⟨(.some 17), .none, (.mov (.tmp 127)), [], .none⟩])))))))))))))))) (.reg [⟨(.some 50), .none, (.mov (.tmp 9)), [], .none⟩, ⟨(.some 51), .none, (.bin .add (.tmp 50) (.const (jn 1))), [], .none⟩, ⟨(.some 9), .none, (.mov (.tmp 51)), [], .none⟩])))))) (.seq (.reg [⟨(.some 142), .none, (.call 5 []), [], .none⟩, ⟨(.some 2), .none, (.mov (.tmp 142)), [], .none⟩]) .ret))))))))))
def fc601 : FC := ⟨1, 143, [(.tmp 2)], fb601⟩
theorem fc601_eq : compF Go.Proofs.Tryd.prog 4 = some fc601 := by kernel_rfl

theorem tgt_followS (b : Nat) (l : Nat × Nat) (x : AV) : tgtA Go.Proofs.Tryd.prog (.dir 14) [.ptr b l 0 [], x] = some (14, [.ptr b l 0 [], x]) := by kernel_rfl
def idK (n : Nat) : List UInt8 := UInt8.ofNat n :: List.replicate 31 0
theorem idK_len (n : Nat) : (idK n).length = 32 := rfl
theorem idK_set {n : Nat} (h : n < 256) : AV.arr 1 ((List.replicate 32 (AV.lit (bn 0))).set 0 (.lit (bn n))) = keyA (idK n) := by
  have e : (UInt8.ofNat n).toNat = n := by simp; omega
  simp [keyA, bl, idK, e, List.replicate]
def sfH (H : List (Option Blk)) (t : Tb) (l3 l6 : Nat × Nat) (was : List (List UInt8)) (K C : List UInt8) (ws : List WaitV) (ts : List Term) (V Vw : Value) : List (Option Blk) :=
  tbOf H t V ts ++ ([none, none, none, some (.box l3 1 (freeS t.b t.l)), none, none, some (.box l6 529 (keysA (rats1 K C) (ws.map waitA)))] ++ List.replicate 55 none ++ [some (.row 23 Vw 32 (klA was) 0)] ++ List.replicate 80 none)
abbrev SfT := Nat × List (List UInt8) × List UInt8 × List UInt8 × List WaitV × List Term × Value × Value
def sfS (N : Nat) (H : List (Option Blk)) (t : Tb) (T : List AV) (l3 l6 : Nat × Nat) (x : SfT) : AS :=
  ⟨N, [.sl 1 T, .any, .lit (.bool false), .ptr (N + 3) l3 0 [], .any, .any, .ptr (N + 6) l6 0 [], .any, .own (N + 62) x.2.2.2.2.2.2.2, .lit (jn x.1)] ++ List.replicate 133 .any, sfH H t l3 l6 x.2.1 x.2.2.1 x.2.2.2.1 x.2.2.2.2.1 x.2.2.2.2.2.1 x.2.2.2.2.2.2.1 x.2.2.2.2.2.2.2⟩
def sfI (N : Nat) (H : List (Option Blk)) (t : Tb) (T : List AV) (l3 l6 : Nat × Nat) (x : SfT) (f : Fc) (L' : List (Option Blk)) (j : Nat) : AS :=
  ⟨N, [.sl 1 T, .any, .lit (.bool false), .ptr (N + 3) l3 0 [], .any, .any, .ptr (N + 6) l6 0 [], .any, .own (N + 62) x.2.2.2.2.2.2.2, .lit (jn x.1), .any, .any, .any, .any, .any, .any, cloH f.b f.l, .lit (jn j)] ++ List.replicate 125 .any, sfH H t l3 l6 x.2.1 x.2.2.1 x.2.2.2.1 x.2.2.2.2.1 x.2.2.2.2.2.1 x.2.2.2.2.2.2.1 x.2.2.2.2.2.2.2 ++ L'⟩

set_option maxHeartbeats 64000000 in
theorem secretsForget_call (bs : List Nat) (hb : ∀ n ∈ bs, n < 256) : PCall Go.Proofs.Tryd.prog 4 [.sl 1 (bs.map fun n => .lit (bn n))] (.val (.lit (.bool true))) := by
  have h601 := fc601_eq
  have hc6 : callable Go.Proofs.Tryd.prog 7 = true := by kernel_rfl
  have al := salive_call
  have hTl : (bs.map fun n => AV.lit (bn n)).length = bs.length := List.length_map _
  have hTg : ∀ i n, bs[i]? = some n → (bs.map fun n => AV.lit (bn n))[i]? = some (AV.lit (bn n)) := fun i s h => by rw [List.getElem?_map, h]; rfl
  generalize (bs.map fun n => AV.lit (bn n)) = T at *
  refine PCall.of h601 rfl ?_; show AC.wp _ fb601 (AS.init [.sl 1 T] 1 143) (fun x s => match x with | .exit _ => False | _ => Fin [(.tmp 2)] s _); unfold fb601 AS.init
  refine wp_sr (by simp [push_cast]; exact rfl) ?_
  refine wp_seq' (wp_seq' (wp_rg ?_))
  refine areg_ca (by simp [AS.ev, AS.coe, AS.put] <;> exact rfl) al ?_
  refine areg_end (by simp [push_cast]; exact rfl) ?_
  refine wp_cond_f rfl (wp_skip' ?_)
  refine wp_sgL ?_
  refine areg_run 0 (by simp [push_cast]; exact rfl) ?_
  refine areg_xq (us := []) rfl (by simp only [tgtA, tgtB, Option.bind_some, hc6, if_true]) (newfree_call _) ⟨_, _, (0, 0), 0, rfl, rfl⟩ (fun r hp' _ t' ht' => by cases ht') ?_
  rintro r H' ⟨l, rr, rfl, rfl⟩
  refine areg_run 0 (by simp [push_cast]; exact rfl) ?_
  refine areg_al' rfl fun l3 => areg_end (by simp [push_cast, freeS_sz, freeS_agg, freeS_tup]; exact rfl) ?_
  refine wp_kit (n := 143) (Lo := [none, none, none, some (.box l3 1 (freeS 143 l))] ++ List.replicate 139 none) (fun N t => [.sl 1 T, .any, .lit (.bool false), .ptr (N + 3) l3 0 []] ++ List.replicate 139 .any) (fun N t => [none, none, none, some (.box l3 1 (freeS t.b t.l))] ++ List.replicate 139 none) rfl ?_ ?_ fun N H t V hh hN => ?_
  · simp [leA, RelLe.refl', RelLe.ptr']
  · simp [leB, tbNew, BlkLe.freeS']
  have G1 : ∀ V' ts', (tbOf H t V' ts').length = N := fun V' ts' => by rw [tbOf_len, hN]
  have g1 : ∀ V' ts' L k, (tbOf H t V' ts' ++ L)[N + k]? = L[k]? := fun V' ts' L k => cat1 _ _ _ _ (G1 _ _)
  have g2 : ∀ V' ts' L k x, (tbOf H t V' ts' ++ L).set (N + k) x = tbOf H t V' ts' ++ L.set k x := fun V' ts' L k x => cat2 _ _ _ _ _ (G1 _ _)
  have h9 : key9.length = 32 := rfl
  -- the beginning
  have d1 := drawT_ok (s := txFirst) (by decide)
  have hdk := draw_k hh (ts := []) (s := txFirst) (by simp) (by decide)
  have p1 := putT_len [] (drawT txFirst)
  have q1 := TsOk.nil'.draw (s := txFirst) (by decide) (by simp)
  have nm1 := Nm.put [] (drawT txFirst)
  have kd1 : ∀ y ∈ putT [] (drawT txFirst), y.kind ≠ 6 := fun y hy => by
    rcases mem_put hy with hy | rfl
    · cases hy
    · simp [drawT]
  simp only [List.length_nil] at p1
  generalize nameK (putN [] (drawT txFirst)) = seed at *
  generalize putT [] (drawT txFirst) = ts1 at *
  have hs := nm1.len
  obtain ⟨m, c', k', t3, hu⟩ : ∃ m c' k' t3, updV ts1 (dec2 1) zk seed = (m, c', k', t3) := ⟨_, _, _, _, rfl⟩
  obtain ⟨s, hU, w1, w2, w3, w4⟩ := upd_law q1 (by omega) (by decide) zk_len hs hu
  have kcre := cre_k hh (by omega) hs (by omega) w2 w3 hu
  generalize nameK (putN t3 (chkT c')) = chk at *
  generalize putT t3 (chkT c') = us at *
  have hcl := hU.chk.len
  have hcz := hU.chk.nz
  have hUl := hU.len
  have ka1 := acr_k hh (ts := us) (by omega) hs (t3 := us) (by omega) w2 w3 hU.again (c := chk) hcl hcz (me := 1) (.inr rfl) (id := key9) rfl
  rw [hU.chk.putN, hU.chk.putT, if_pos rfl] at ka1
  have hFs := Fs.first kd1 nm1 hU (id := key9) rfl
  clear hu hU nm1 d1 q1 kd1
  refine wp_sg ?_
  refine areg_run 2 (by simp [push_cast, g1, freeS]; exact rfl) ?_
  refine areg_xc (vs := [.ptr t.b t.l 0 [], .lit (tx txFirst)]) rfl (hdk _ _) ⟨_, _, rfl, .slice none 0 0, rfl⟩ ?_
  rintro r H' ⟨rfl, V1, rfl⟩
  refine areg_al' zk_eq.symm fun l4 => areg_end (by simp [push_cast, g1, g2, hs, zk_len]; exact rfl) ?_
  refine wp_sg ?_
  refine areg_run 1 (by simp [push_cast, g1, freeS_sz, freeS_agg, freeS_tup]; exact rfl) ?_
  refine areg_rdp (us := [freeS t.b t.l]) rfl (mkifc_free _ _) ?_
  refine areg_run 1 (by simp [push_cast, g1, hs]; exact rfl) ?_
  refine areg_k [freeI t.b t.l, keyA seed] hN rfl (tgt_cre _ _) kcre (by simp) (by simp) fun V2 => ?_
  refine areg_al' (z' := ozA) rfl fun l5 => areg_end (by simp [push_cast, g1, g2, ozA, o0A, hcl, zk_len]; exact rfl) ?_
  refine wp_sg ?_
  refine areg_run 1 (by simp [push_cast, g1, freeS_sz, freeS_agg, freeS_tup]; exact rfl) ?_
  refine areg_rdp (us := [freeS t.b t.l]) rfl (mkifc_free _ _) ?_
  refine areg_bd (z' := ks0) rfl ?_
  refine areg_bd (z' := keyA key9) (fill_ar rfl rfl rfl rfl rfl) ?_
  refine areg_run 1 (by simp [push_cast, g1, o0A, hcl, zk_len]; exact rfl) ?_
  refine areg_bd (z' := ozA) rfl ?_
  refine areg_run 1 (by simp [push_cast, g1, hs]; exact rfl) ?_
  refine areg_bsl (k := 32) (els := klA [seed]) (fill_ar rfl rfl rfl (by simp [AV.sz, AS.ev, AS.put, hs, bl_len]) rfl) ?_
  refine areg_k [freeI t.b t.l, ks0, .lit (jn 1), keyA key9, o0A chk, ozA, .sl 32 (klA [seed])] hN rfl (tgt_apply _ _ _ _ _ _ _) ka1 (by simp) (by simp) fun V3 => ?_
  refine areg_run 3 (by simp [push_cast]; exact rfl) ?_
  refine areg_al' (z' := ks0) rfl fun l6 => areg_end (by simp [push_cast, g1, g2, keysA]; exact rfl) ?_
  refine wp_seq' (wp_sr (by simp [push_cast]; exact rfl) ?_)
  refine wp_cond_f (by simp [AS.ev]) (wp_skip' ?_)
  refine wp_sr (by simp [push_cast]; exact rfl) ?_
  refine wp_seq' (wp_seq' (wp_r (by simp [push_cast]; exact rfl) ?_))
  refine wp_block' (wp_loop_m (sfS N H t T l3 l6) (fun x => bs.length - x.1) (fun x => Fs x.2.2.2.2.2.1 x.2.1 x.2.2.1 x.2.2.2.1 x.2.2.2.2.1 ∧ x.1 ≤ bs.length ∧ x.1 ≤ 8 ∧ x.2.1.length = 2 * x.1 ∧ x.2.2.2.2.1.length = x.1 + 1 ∧ x.2.2.2.2.2.1.length ≤ 10 + 10 * x.1) (0, [], k', c', [⟨key9, 1, m⟩], us, V3, .slice none 0 0) ?_ ⟨hFs, by simp, by simp, by simp, by simp, by simp; omega⟩ ?_)
  · refine Le.trans (Le.nilRow (t := 8) (b := N + 62) rfl (by simp only [AS.blk, g1]; rfl) 23 32) (Le.mk rfl (by simp [sfS, leT]) ?_)
    simp only [g2, sfS, sfH]
    exact leH_app (leH_refl _) (by simp [leH, freeS, klA, keysA])
  clear hFs hdk kcre ka1 hs hcl hcz hUl w1 w2 w3 w4 p1
  clear m c' k' t3 s chk us ts1 seed
  rintro ⟨i, was, K, C, ws, ts, V4, Vw⟩ ⟨hFs, hi, hi8, hwl, hwsl, htl⟩
  simp only at hFs hi hi8 hwl hwsl htl ⊢
  unfold sfS sfH
  simp only
  by_cases hlt : i < bs.length ∧ i < 8
  · obtain ⟨h1, h2⟩ := hlt
    obtain ⟨n, hn⟩ : ∃ n, bs[i]? = some n := ⟨_, List.getElem?_eq_getElem h1⟩
    have hn8 := hb n (List.mem_of_getElem? hn)
    have e1 := hTg i n hn
    have e2 : ∀ h, T[i]'h = AV.lit (bn n) := fun h => by rw [List.getElem?_eq_getElem h] at e1; exact Option.some.inj e1
    obtain ⟨l1, l2, lw⟩ := hFs.l32
    have hwk0 := hFs.wk
    have hdl := digs_len n
    have hxl : (txSeed ++ digs n).length < 1000 := by simp [txSeed]; omega
    have hdk := draw_k hh (ts := ts) (s := txSeed ++ digs n) (by omega) (by omega)
    have pA := putT_len ts (drawT (txSeed ++ digs n))
    have qA := hFs.tok.draw (s := txSeed ++ digs n) (by omega) (by omega)
    have hs := nameK_len (putN ts (drawT (txSeed ++ digs n)))
    generalize hsd : nameK (putN ts (drawT (txSeed ++ digs n))) = seed at *
    generalize htA : putT ts (drawT (txSeed ++ digs n)) = tA at *
    obtain ⟨m, c', k', t3, hu⟩ : ∃ m c' k' t3, updV tA (dec2 1) K seed = (m, c', k', t3) := ⟨_, _, _, _, rfl⟩
    obtain ⟨s, hU, w1, w2, w3, w4⟩ := upd_law qA (by omega) (by decide) l1 hs hu
    have hk1 : key1.length = 32 := rfl
    have kc := cup_k hh (ts := tA) (by omega) hs (by omega) w2 w3 (k := K) (c := C) l1 l2 (ws := ws) (by omega) (n := i + 2) (by omega) (by omega) hu (ch := key1) hk1 (by decide)
    generalize nameK (putN t3 (chkT c')) = chk at *
    generalize putT t3 (chkT c') = us at *
    have hcl := hU.chk.len
    have hcz := hU.chk.nz
    have hUl := hU.len
    have ka := aup_k hh (ts := us) (by omega) hs (t3 := us) (by omega) w2 w3 (k := K) (c := C) l1 l2 (ws := ws) (by omega) (n := i + 2) (by omega) (by omega) hU.again (ch := chk) hcl hcz hU.chk.putN (id := idK (i + 10)) rfl
    rw [hU.chk.putT] at ka
    obtain ⟨hFs2, hno⟩ := hFs.step hxl htA hsd hU (id := idK (i + 10)) rfl
    have hust := hU.tok
    obtain ⟨_, _, hw2⟩ := hFs2.l32
    have hwk2 := hFs2.wk
    have hws2 : (ws ++ [(⟨idK (i + 10), 1, m⟩ : WaitV)]).length = i + 2 := by simp [hwsl]
    have hwas2 : (was ++ [K, C]).length = 2 * (i + 1) := by simp [hwl]; omega
    have hal : (klA was).length = 2 * i := by rw [klA_len]; exact hwl
    have hrk : ∀ r ∈ rats1 k' c', r.key.length = 32 ∧ r.chain.length = 32 := fun r hr => by
      simp only [rats1, List.mem_cons, List.not_mem_nil, or_false] at hr
      rcases hr with rfl | rfl | rfl | rfl | rfl | rfl | rfl | rfl
      · exact ⟨w3, w2⟩
      all_goals exact ⟨zk_len, zk_len⟩
    have q1 : i + 1 < 9223372036854775808 := by omega
    have q2 : i + 2 < 9223372036854775808 := by omega
    have q10 : i + 10 < 9223372036854775808 := by omega
    have hcvw : cvtA .u32 (.lit (jn (i + 2))) = some (.lit (wn (i + 2))) := by simp only [cvtA, jn, wrap_u32]; rw [Nat.mod_eq_of_lt (by omega)]; rfl
    have hcv8 : cvtA .u8 (.lit (jn (i + 10))) = some (.lit (bn (i + 10))) := by simp only [cvtA, jn, wrap_u8]; rw [Nat.mod_eq_of_lt (by omega)]; rfl
    have hcv64 : cvtA .u64 (.lit (bn n)) = some (.lit (un n)) := by simp only [cvtA, bn, wrap_u64]; rw [Nat.mod_eq_of_lt (by omega)]; rfl
    have dg := digsR_call n (by omega)
    have hb1 : binVal .add (tx [115, 101, 101, 100]) (tx (digs n)) = some (tx (txSeed ++ digs n)) := bin_adds _ _ (by simp only [List.length_cons, List.length_nil]; omega)
    have hids := idK_set (n := i + 10) (by omega)
    have hil := idK_len (i + 10)
    have allk := (allK_call (rs := rats1 k' c') (ws := ws ++ [(⟨idK (i + 10), 1, m⟩ : WaitV)]) rfl hrk (by omega) hwk2).sealed
    have hseen : ∀ u ∈ allV (rats1 k' c') (ws ++ [(⟨idK (i + 10), 1, m⟩ : WaitV)]), u.length = 32 := fun u hu => by
      unfold allV at hu
      rcases List.mem_append.1 hu with hu | hu
      · obtain ⟨p, hp, hup⟩ := List.mem_flatten.1 hu
        obtain ⟨r, hr, rfl⟩ := List.mem_map.1 hp
        obtain ⟨a1, a2⟩ := hrk r hr
        simp only [List.mem_cons, List.not_mem_nil, or_false] at hup
        rcases hup with rfl | rfl
        · exact a1
        · exact a2
      · obtain ⟨w, hw', rfl⟩ := List.mem_map.1 hu
        exact (hwk2 w hw').1
    have hseenl : (allV (rats1 k' c') (ws ++ [(⟨idK (i + 10), 1, m⟩ : WaitV)])).length < 100000 := by
      unfold allV
      simp [rats1, hwsl]
      omega
    generalize idK (i + 10) = idd at *
    have hmw : ws.map waitA ++ [waitA ⟨idd, 1, m⟩] = (ws ++ [(⟨idd, 1, m⟩ : WaitV)]).map waitA := by simp
    clear hu hU qA hdl hxl hwk0
    refine wp_seq' (wp_sr (by simp [push_cast, hTl, h1, h2]; exact rfl) ?_)
    refine wp_cond_t (by simp [AS.ev]) (wp_skip' ?_)
    refine wp_seq' (wp_block' (wp_sg ?_))
    refine areg_run 9 (by simp [push_cast, g1, keysA, rats1, ratA, l1, l2]; exact rfl) ?_
    refine areg_bsl (k := 32) (els := klA [K, C]) (fill_ar rfl rfl rfl (by simp [AV.sz, AS.ev, AS.put, l1, bl_len]) (fill_ar rfl rfl rfl (by simp [AV.sz, AS.ev, AS.put, l2, bl_len]) rfl)) ?_
    refine areg_ap (b := N + 62) (V := Vw) (ys := klA [K, C]) rfl (by simp only [AS.blk, AS.put, g1]; rfl) (by simp [AS.ev, AS.put, AS.coe, klA, keyA]) (by rw [hal, klA_len]; simp [maxLen]; omega) (by rw [hal, klA_len]; simp; omega) (fun V5 => ?_)
    refine areg_end (by simp [push_cast, g2]; exact rfl) ?_
    have hkk : klA was ++ klA [K, C] = klA (was ++ [K, C]) := by simp [klA]
    rw [hkk]
    generalize was ++ [K, C] = was2 at *
    refine wp_sg ?_
    refine areg_run 7 (by simp [push_cast, g1, freeS, h1, e1, e2, hTl, hcv64]; exact rfl) ?_
    refine areg_cv (by simp [AS.ev, AS.coe, AS.put] <;> exact rfl) dg ?_
    refine areg_run 1 (by simp [push_cast, hb1]; exact rfl) ?_
    refine areg_k [.ptr t.b t.l 0 [], .lit (tx (txSeed ++ digs n))] hN rfl (tgt_drawS _ _ _) hdk (by simp) (by simp) fun V6 => ?_
    refine areg_al' zk_eq.symm fun l10 => areg_end (by simp [push_cast, g1, g2, hs, zk_len]; exact rfl) ?_
    refine wp_sg ?_
    refine areg_run 3 (by simp [push_cast, q2, hcvw]; exact rfl) ?_
    refine areg_bd (z' := keyA key1) (fill_ar rfl rfl rfl rfl rfl) ?_
    refine areg_bsl (k := 32) (els := klA [key1]) (fill_ar rfl rfl rfl rfl rfl) ?_
    refine areg_bd (z' := keyA key1) (fill_ar rfl rfl rfl rfl rfl) ?_
    refine areg_bd (z' := bx1A) (fill_st rfl rfl rfl rfl rfl rfl) ?_
    refine areg_bsl (k := 36) (els := [bx1A]) (fill_ar rfl rfl rfl rfl rfl) ?_
    refine areg_bd (z' := uA (i + 2) key1) (fill_st rfl rfl rfl rfl rfl (fill_st rfl rfl rfl rfl rfl (fill_st rfl rfl rfl rfl rfl (fill_st rfl rfl rfl rfl rfl (fill_st rfl rfl rfl rfl rfl rfl))))) ?_
    refine areg_al' (z' := ozA) rfl fun l11 => areg_end (by simp [push_cast, g1, g2, ozA, uA, zk_len]; exact rfl) ?_
    refine wp_sg ?_
    refine areg_run 1 (by simp [push_cast, g1, freeS_sz, freeS_agg, freeS_tup]; exact rfl) ?_
    refine areg_rdp (us := [freeS t.b t.l]) rfl (mkifc_free _ _) ?_
    refine areg_run 2 (by simp [push_cast, g1, uA, hk1, zk_len]; exact rfl) ?_
    refine areg_bd (z' := ozA) rfl ?_
    refine areg_run 1 (by simp [push_cast, g1, hs]; exact rfl) ?_
    refine areg_bsl (k := 32) (els := klA [seed]) (fill_ar rfl rfl rfl (by simp [AV.sz, AS.ev, AS.put, hs, bl_len]) rfl) ?_
    refine areg_k [freeI t.b t.l, keysA (rats1 K C) (ws.map waitA), .lit (jn 1), uA (i + 2) key1, ozA, .sl 32 (klA [seed])] hN rfl (tgt_scheck _ _ _ _ _ _) kc (by simp) (by simp) fun V7 => ?_
    refine areg_run 3 (by simp [push_cast]; exact rfl) ?_
    refine areg_al' zk_eq.symm fun l12 => areg_end (by simp [push_cast, g1, g2, hcl, zk_len]; exact rfl) ?_
    refine wp_sg (areg_end (by simp [push_cast, g1, g2, hcl, hk1, zk_len]; exact rfl) ?_)
    refine wp_sg ?_
    refine areg_run 1 (by simp [push_cast, g1, freeS_sz, freeS_agg, freeS_tup]; exact rfl) ?_
    refine areg_rdp (us := [freeS t.b t.l]) rfl (mkifc_free _ _) ?_
    refine areg_run 4 (by simp [push_cast, g1, q10, hcv8]; exact rfl) ?_
    refine areg_bd (z' := keyA idd) (fill_ar rfl rfl rfl rfl (by rw [← hids]; rfl)) ?_
    refine areg_run 1 (by simp [push_cast, g1, hcl, zk_len]; exact rfl) ?_
    refine areg_bd (z' := ozA) rfl ?_
    refine areg_run 1 (by simp [push_cast, g1, hs]; exact rfl) ?_
    refine areg_bsl (k := 32) (els := klA [seed]) (fill_ar rfl rfl rfl (by simp [AV.sz, AS.ev, AS.put, hs, bl_len]) rfl) ?_
    refine areg_k [freeI t.b t.l, keysA (rats1 K C) (ws.map waitA), .lit (jn 1), keyA idd, uA (i + 2) chk, ozA, .sl 32 (klA [seed])] hN rfl (tgt_apply _ _ _ _ _ _ _) ka (by simp) (by simp) fun V8 => ?_
    refine areg_run 3 (by simp [push_cast]; exact rfl) ?_
    refine areg_al' (z' := ks0) rfl fun l14 => areg_end (by simp [push_cast, g1, g2, keysA]; exact rfl) ?_
    simp only [hmw]
    generalize ws ++ [(⟨idd, 1, m⟩ : WaitV)] = ws2 at *
    refine wp_seq' (wp_sr (by simp [push_cast]; exact rfl) ?_)
    refine wp_cond_f (by simp [AS.ev]) (wp_skip' ?_)
    refine wp_sg (areg_end (by simp [push_cast, g1, g2]; exact rfl) ?_)
    refine wp_sg ?_
    refine areg_run 3 (by simp [push_cast, g1, freeS]; exact rfl) ?_
    refine areg_cv (by simp [AS.ev, AS.coe, AS.put] <;> exact rfl) allk ?_
    refine areg_xq (us := [.ptr t.b t.l 0 [], .sl 32 (klA (allV (rats1 k' c') ws2))]) rfl (tgt_followS _ _ _) (follow_sl_at hh hust V8 _ (seen := allV (rats1 k' c') ws2) hseenl hseen) (FolK.ex (Fol_ex _ _) (by have := hust.len; omega)) (fun r hp' hK t' ht' => by cases ht') ?_
    rintro r H' ⟨Kn, f, Vk, L', hK, rfl, rfl, hFc⟩
    have hnoK := hno Kn hK
    refine areg_end (by simp [push_cast]; exact rfl) ?_
    refine wp_sr (by simp [push_cast]; exact rfl) ?_
    have hclen : (sfH H t l3 l6 was2 k' c' ws2 us V8 V5).length = N + 143 := by simp [sfH, G1]
    have gw : (sfH H t l3 l6 was2 k' c' ws2 us V8 V5 ++ L')[N + 62]? = some (some (.row 23 V5 32 (klA was2) 0)) := by
      rw [List.getElem?_append_left (by omega)]
      unfold sfH
      rw [g1]
      rfl
    have hfc := hFc (sfH H t l3 l6 was2 k' c' ws2 us V8 V5) (by rw [hclen]; simp [G1])
    refine wp_block' (wp_loop_m (sfI N H t T l3 l6 (i, was2, k', c', ws2, us, V8, V5) f L') (fun j => was2.length - j) (fun j => j ≤ was2.length) 0 (Le.mk rfl (by simp [sfI, leT]) ?_) (by simp) ?_)
    · unfold sfI sfH
      simp only
      rw [List.append_assoc (tbOf H t V8 us)]
      refine leH_app (leH_refl _) ?_
      simp [leH, freeS, keysA, leH_refl]
    intro j hj
    unfold sfI
    simp only
    have hkl : (klA was2).length = was2.length := klA_len _
    by_cases hjl : j < was2.length
    · obtain ⟨u, hu⟩ : ∃ u, was2[j]? = some u := ⟨_, List.getElem?_eq_getElem hjl⟩
      have hum := List.mem_of_getElem? hu
      obtain ⟨hu32, huz⟩ := hw2 u hum
      have hnu := hnoK u hum
      have j1 : (klA was2)[j]? = some (keyA u) := by rw [klA_get, hu]; rfl
      have j2 : ∀ h, (klA was2)[j]'h = keyA u := fun h => by rw [List.getElem?_eq_getElem h] at j1; exact Option.some.inj j1
      have j3 : j + 1 < 9223372036854775808 := by omega
      have heq := eq_key hu32 zk_len
      rw [show decide (u = zk) = false by simp [huz]] at heq
      generalize klA was2 = TT at *
      refine wp_seq' (wp_sr (by simp [push_cast, gw, hkl, hjl]; exact rfl) ?_)
      refine wp_cond_t (by simp [AS.ev]) (wp_skip' ?_)
      refine wp_seq' (wp_block' (wp_sg ?_))
      refine areg_run 4 (by simp [push_cast, gw, hkl, hjl, j1, j2]; exact rfl) ?_
      refine areg_bd (z' := keyA zk) (by rw [zk_eq]; rfl) ?_
      refine areg_eq rfl rfl heq rfl rfl ?_
      refine areg_run 6 (by simp [push_cast, gw, hkl, hjl, j1, j2]; exact rfl) ?_
      refine areg_g (b := true) (by simp [AS.ev, AS.put]) (areg_xq (us := [cloH f.b f.l, keyA u]) rfl (tgt_cloH _ _ _) (has_call hfc hu32) ⟨_, _, rfl, rfl⟩ (fun r hp' _ t' ht' => by cases ht') ?_)
      rintro r H' ⟨rfl, rfl⟩
      rw [hnu]
      refine areg_end (by simp [push_cast]; exact rfl) ?_
      refine wp_cond_f rfl (wp_skip' ?_)
      refine wp_r (by simp [push_cast, j3]; exact rfl) ?_
      refine Exists.intro (j + 1) ⟨by omega, by omega, Le.mk rfl (by simp [sfI, leT]) (leH_refl _)⟩
    · refine wp_seq' (wp_sr (by simp [push_cast, gw, hkl, hjl]; exact rfl) ?_)
      refine wp_cond_f (by simp [AS.ev]) (wp_exit' (if_hit rfl ?_))
      refine wp_r (by simp [push_cast, q1]; exact rfl) ?_
      refine Exists.intro (i + 1, was2, k', c', ws2, us, V8, V5) ⟨⟨hFs2, by omega, by omega, hwas2, by simp only; omega, by simp only; omega⟩, by simp only; omega, Le.trans (Le.trim (A := sfH H t l3 l6 was2 k' c' ws2 us V8 V5) (R := L') rfl) (Le.mk rfl (by simp [sfS, leT]) (leH_refl _))⟩
  · by_cases hA : i < bs.length
    · have hB : ¬ i < 8 := fun h => hlt ⟨hA, h⟩
      refine wp_seq' (wp_sr (by simp [push_cast, hTl, hA, hB]; exact rfl) ?_)
      refine wp_cond_f (by simp [AS.ev]) (wp_exit' (if_hit rfl ?_))
      refine wp_sg ?_
      refine areg_ca (by simp [AS.ev, AS.coe, AS.put] <;> exact rfl) al ?_
      refine areg_end (by simp [push_cast]; exact rfl) (wp_ret' ?_)
      exact fin_tmp (by simp [RVal, AS.ev, AS.coe]) (by simp)
    · refine wp_seq' (wp_sr (by simp [push_cast, hTl, hA]; exact rfl) ?_)
      refine wp_cond_f (by simp [AS.ev]) (wp_exit' (if_hit rfl ?_))
      refine wp_sg ?_
      refine areg_ca (by simp [AS.ev, AS.coe, AS.put] <;> exact rfl) al ?_
      refine areg_end (by simp [push_cast]; exact rfl) (wp_ret' ?_)
      exact fin_tmp (by simp [RVal, AS.ev, AS.coe]) (by simp)
end Go.Cab

/- The row's arguments: lists of bytes, and its close. -/
namespace Go.Cab
open Go.ChangeShapes Go.WideShapes Go.RowKit Go.ChangeAt

section
variable {H : Type} {enc : TypeId × Value → H} {P : Program}

theorem post_below {f : Func} {s : ChangeSpec} {apart fresh handsOn again : Bool} {W W' : World} {args : Array Value} {v : Value} {ds : List (DataW H)} {before : List MemPlace}
    (hvs : s.vars = []) (hW : DataW.Whole enc P f.params.toList s.vars apart W args.toList ds [] before)
    (hb : Below W.heap.size W W')
    (hres : ∀ (b : Nat) (sp : Nat → Bool) (hd : Bool), DataW.TrodAll enc P W' b sp hd f.resultTypes.toList (v.resultList f.resultTypes.size) (s.fn H (ds ++ [])).results [])
    (hargs : ∀ sp : Nat → Bool, (∀ p ∈ before, sp p.block = true) → DataW.TrodAll enc P W' 0 sp true f.params.toList args.toList (s.fn H (ds ++ [])).args before)
    (hvars : ∀ sp : Nat → Bool, DataW.TrodVars enc P W' sp s.vars (s.fn H (ds ++ [])).vars [])
    (hok : ∀ (j : Nat) (t : TypeId) (r : Value), f.resultTypes[j]? = some t → (v.resultList f.resultTypes.size)[j]? = some r → Value.okWide P W' .any 0 t r) :
    s.post enc P f apart fresh handsOn again W args v W' := by
  have hlt : ∀ p ∈ before, p.block < W.heap.size := fun p hp => hW.lt p hp
  refine ⟨ds, [], before, [], before, [], hW, hres _ _ _, hargs _ (fun p hp => by simpa using hlt p hp), hvars _, hb.frame _, fun _ => ?_⟩
  obtain ⟨_, _, _, _, _, hz, hn⟩ := hW
  refine ⟨hok, _, _, ([] ++ before) ++ [], ⟨[] ++ before, [], trodAll_append (hargs _ (fun _ _ => rfl)) (hres _ _ _), hvars _, rfl, fun b o hp => ?_, fun ha => ?_⟩, fun p hp _ => ?_⟩
  · have hp' : MemPlace.cell b o ∈ before := by simpa using hp
    have h1 := hz b o hp'
    rw [hb.frozen (p := ⟨b, o, none⟩) (hlt _ hp')]
    exact h1
  · simpa using hn ha
  · simpa using hp
end
end Go.Cab

namespace Go.Cab
open Go.ChangeShapes Go.WideShapes Go.RowKit

section
variable {H : Type} {enc : TypeId × Value → H} {P : Program} {W : World} {base : Nat} {sp : Nat → Bool} {held : Bool}

theorem At.app {Imm : Nat → Nat → Prop} {w : World} {b o : Nat} {c d : List Value} (h : At Imm w b o c) (k : At Imm w b (o + c.length) d) : At Imm w b o (c ++ d) := by
  intro i v hv
  by_cases hi : i < c.length
  · rw [List.getElem?_append_left hi] at hv; exact h i v hv
  · rw [List.getElem?_append_right (by omega)] at hv
    have := k (i - c.length) v hv
    rwa [show o + c.length + (i - c.length) = o + i by omega] at this

/-- The cells that the row's reading met, and that are there. -/
def StOf (W : World) (ps : List MemPlace) (b o : Nat) : Prop := MemPlace.cell b o ∈ ps ∧ (W.cell? ⟨b, o, none⟩).isSome = true

/-- A list that the row lets in. 'G': what is told of each element. -/
theorem open_sl {t k : TypeId} {c : Nat} (ht : P.underlying t = some (.slice k)) (hc : P.cellsOf k = c) (G : AV → Prop)
    (hel : ∀ (n : Nat) (cs : List Value) (x : DataW H × List MemPlace), DataW.trod enc P W base sp held n k cs = some x → cs.length = c → ∃ v, G v ∧ R (StOf W x.2) W v cs ∧ ∀ y ∈ cs, sc y = true)
    {r : Reach} {b0 : Nat} {v : Value} (hval : Value.okWide P W r b0 t v) {d : DataW H} {ps : List MemPlace} (hd : DataW.Trod enc P W base sp held t v d ps) :
    ∃ vs : List AV, (∀ u ∈ vs, G u) ∧ Rel (StOf W ps) W (.sl c vs) v := by
  obtain ⟨fuel, hf⟩ := hd
  have hv : (∃ a len cap, v = .slice a len cap) := by
    cases v <;> simp [Value.okWide, Cell.okWide, Cell.ok, ht] at hval ⊢
  obtain ⟨a0, len0, cap0, rfl⟩ := hv
  have hcs : (Value.slice a0 len0 cap0).cells.toList = [.slice a0 len0 cap0] := rfl
  rw [hcs] at hf
  rcases Go.Deep.open_slice ht hf with ⟨h1, h2⟩ | ⟨a, len, cap, m, n, D, Pl, h1, _, hle, _, hm, h2, hall⟩
  · cases h1
    exact ⟨[], by simp, .inr ⟨_, .slnil c, rfl⟩⟩
  · cases h1
    have hspot : a.spot = none := by
      simp only [Value.okWide, Cell.okWide, Cell.ok, ht] at hval
      exact hval.2.2.2.1
    have hps : ps = MemPlace.row a (m * P.cellsOf k) ++ (List.range m).flatMap Pl := congrArg Prod.snd h2
    rw [hc] at hps hall
    have hlm : len0 ≤ m := by rw [hm]; split <;> omega
    -- from the tail on
    have key : ∀ q, q ≤ len0 → ∃ (vs : List AV) (cs : List Value), (∀ u ∈ vs, G u) ∧ vs.length = q ∧ cs.length = q * c ∧ R (StOf W ps) W (.arr c vs) cs ∧ At (StOf W ps) W a.block (a.off + (len0 - q) * c) cs := by
      intro q
      induction q with
      | zero => exact fun _ => ⟨[], [], by simp, rfl, by simp, .arr0 c, fun i v hv => by simp at hv⟩
      | succ q ih =>
        intro hq
        obtain ⟨vs, cs, g1, g2, g3, g4, g5⟩ := ih (by omega)
        have hi : len0 - (q + 1) < m := by omega
        obtain ⟨cs', k1, k2⟩ := hall (len0 - (q + 1)) hi
        obtain ⟨_, hl', hget⟩ := World.cells?_some k1
        obtain ⟨u, u1, u2, u3⟩ := hel n cs' _ k2 hl'
        refine ⟨u :: vs, cs' ++ cs, ?_, by simp [g2], by rw [List.length_append, hl', g3, Nat.succ_mul]; omega, .arr1 c u vs cs' cs (u2.mono (fun b o hb => ?_) (fun _ _ _ => rfl)) hl' u3 g4, At.app ?_ ?_⟩
        · intro x hx
          rcases List.mem_cons.1 hx with rfl | hx
          · exact u1
          · exact g1 x hx
        · rw [hps]
          exact ⟨List.mem_append_right _ (List.mem_flatMap.2 ⟨_, List.mem_range.2 hi, hb.1⟩), hb.2⟩
        · intro j y hy
          have hj : j < c := by rw [← hl']; exact (List.getElem?_eq_some_iff.1 hy).1
          have h3 := hget j hj
          rw [Go.Deep.add_add] at h3
          have e1 : a.add ((len0 - (q + 1)) * c + j) = ⟨a.block, a.off + (len0 - (q + 1)) * c + j, none⟩ := by
            unfold Addr.add
            split
            · rename_i h0
              obtain ⟨b, o, s⟩ := a
              simp only at hspot ⊢
              rw [hspot]; congr 1; omega
            · rw [Nat.add_assoc]
          rw [e1] at h3
          refine ⟨by rw [h3]; exact hy, ?_, by rw [h3, hy]; rfl⟩
          rw [hps]
          refine List.mem_append_left _ (MemPlace.mem_row.2 ⟨(len0 - (q + 1)) * c + j, ?_, by rw [Nat.add_assoc]⟩)
          have := Nat.mul_le_mul_right c (show len0 - (q + 1) + 1 ≤ m by omega)
          rw [Nat.succ_mul] at this
          omega
        · rw [hl']
          have e2 : a.off + (len0 - (q + 1)) * c + c = a.off + (len0 - q) * c := by
            have e3 : len0 - q = (len0 - (q + 1)) + 1 := by omega
            rw [e3, Nat.succ_mul]; omega
          rw [e2]
          exact g5
    obtain ⟨vs, cs, g1, g2, g3, g4, g5⟩ := key len0 (Nat.le_refl _)
    rw [Nat.sub_self, Nat.zero_mul, Nat.add_zero] at g5
    have ea : a = ⟨a.block, a.off, none⟩ := by obtain ⟨b, o, s⟩ := a; simp only at hspot; rw [hspot]
    refine ⟨vs, g1, .inr ⟨_, .sl c vs cs a.block a.off cap0 g4 g5 (by omega), ?_⟩⟩
    show Value.slice (some a) len0 cap0 = Value.slice (some ⟨a.block, a.off, none⟩) vs.length cap0
    rw [g2, ← ea]

theorem map_of_each {α β : Type} {f : α → β} : ∀ {l : List β}, (∀ u ∈ l, ∃ n, u = f n) → ∃ ks : List α, l = ks.map f
  | [], _ => ⟨[], rfl⟩
  | u :: l, h => by
    obtain ⟨n, rfl⟩ := h u (by simp)
    obtain ⟨ks, e⟩ := map_of_each (l := l) (fun x hx => h x (List.mem_cons_of_mem _ hx))
    exact ⟨n :: ks, by rw [e]; rfl⟩

/-- A list of bytes. -/
theorem open_bytes {t e : TypeId} (ht : P.underlying t = some (.slice e)) (he : P.underlying e = some (.int .u8)) (h1 : P.cellsOf e = 1)
    {r : Reach} {b0 : Nat} {v : Value} (hval : Value.okWide P W r b0 t v) {d : DataW H} {ps : List MemPlace} (hd : DataW.Trod enc P W base sp held t v d ps) :
    ∃ bs : List Nat, (∀ n ∈ bs, n < 256) ∧ Rel (StOf W ps) W (.sl 1 (bs.map fun n => .lit (bn n))) v := by
  obtain ⟨vs, g1, g2⟩ := open_sl ht h1 (fun u => ∃ n : {n : Nat // n < 256}, u = .lit (bn n.1)) (fun n cs x hx hl => by
    obtain ⟨a, rfl, _, wa⟩ := DataW.trod_int he hx
    simp [Lit.wf, IntKind.min, IntKind.max, IntKind.signed, IntKind.bits] at wa
    refine ⟨_, ⟨⟨a.toNat, by omega⟩, rfl⟩, ?_, fun y hy => by simp at hy; rw [hy]; rfl⟩
    have : Value.int .u8 a = bn a.toNat := by unfold bn; rw [Int.toNat_of_nonneg (by omega)]
    rw [this]
    exact .lit _ rfl) hval hd
  obtain ⟨ks, rfl⟩ := map_of_each (f := fun n : {n : Nat // n < 256} => AV.lit (bn n.1)) g1
  refine ⟨ks.map (·.1), fun n hn => ?_, by rw [List.map_map]; exact g2⟩
  obtain ⟨a, _, rfl⟩ := List.mem_map.1 hn
  exact a.2
end
theorem t5 : Go.Proofs.Tryd.prog.underlying 5 = some (.int .u8) := by kernel_rfl
theorem c5 : Go.Proofs.Tryd.prog.cellsOf 5 = 1 := by kernel_rfl
end Go.Cab

/- The row's condition: the library's table of powers of ten is laid. -/
namespace Go.Cab

def tabName : String := "internal/strconv.uint64pow10"
theorem tab_laid {P : Program} {l : List (String × DataW Unit)} {W : World} (hL : laidMetH P l W) (hl : (l.filter fun x => x.1 == tabName) = [(tabName, Lib.tabData .u64 Lib.pow10Tab)])
    {t e : TypeId} (hg : P.globalNamed tabName = some 1) (hty : (P.globals[1]?).map (·.type) = some t) (ht : P.underlying t = some (.array 20 e)) (he : P.underlying e = some (.int .u64)) (hce : P.cellsOf e = 1) (hct : P.cellsOf t = 20) : Lib.TabIs P W tabName .u64 Lib.pow10Tab := by
  have h := hL.filter (fun x => x.1 == tabName)
  rw [hl] at h
  exact Lib.tabIs_of_head hg hty ht he hce hct h
theorem tabOk_of {P : Program} {W : World} (hg : P.globalNamed tabName = some 1) (h : Lib.TabIs P W tabName .u64 Lib.pow10Tab) : TabOk [] W := by
  intro x hx
  simp only [laidTabs, List.mem_singleton] at hx
  subst hx
  refine ⟨?_, fun r hr => by cases hr⟩
  unfold Lib.TabIs World.var? at h
  rw [hg] at h
  simp only [Option.bind_some] at h
  split at h
  · rename_i cs t fr hc
    cases h
    exact ⟨t, fr, hc⟩
  · cases h
theorem tabOk_laid {l : List (String × DataW Unit)} {W : World} (hL : laidMetH Go.Proofs.Tryd.prog l W) (hl : (l.filter fun x => x.1 == tabName) = [(tabName, Lib.tabData .u64 Lib.pow10Tab)]) : TabOk [] W :=
  tabOk_of (by kernel_rfl) (tab_laid (t := 138) (e := 53) hL hl (by kernel_rfl) (by kernel_rfl) (by kernel_rfl) (by kernel_rfl) (by kernel_rfl) (by kernel_rfl))
end Go.Cab

/- The row's arguments: lists of texts. -/
namespace Go.Cab
open Go.ChangeShapes Go.WideShapes Go.RowKit Go.ChangeAt

section
variable {H : Type} {enc : TypeId × Value → H} {P : Program} {W : World} {base : Nat} {sp : Nat → Bool} {held : Bool}

/-- A list of texts. -/
theorem open_texts {t e : TypeId} (ht : P.underlying t = some (.slice e)) (he : P.underlying e = some .string) (h1 : P.cellsOf e = 1)
    {r : Reach} {b0 : Nat} {v : Value} (hval : Value.okWide P W r b0 t v) {d : DataW H} {ps : List MemPlace} (hd : DataW.Trod enc P W base sp held t v d ps) :
    ∃ bs : List (List UInt8), bs.length < 9223372036854775808 ∧ (∀ s ∈ bs, s.length < 9223372036854775808) ∧ Rel (StOf W ps) W (.sl 1 (bs.map fun s => .lit (tx s))) v := by
  obtain ⟨vs, g1, g2⟩ := open_sl ht h1 (fun u => ∃ n : {n : List UInt8 // n.length < 9223372036854775808}, u = .lit (tx n.1)) (fun n cs x hx hl => by
    obtain ⟨s, hc, hy, hs⟩ := DataW.trod_string he hx
    subst hc
    refine ⟨_, ⟨⟨s.data.toList, ?_⟩, rfl⟩, .lit _ rfl, fun y hy => by simp at hy; rw [hy]; rfl⟩
    have e : s.data.toList.length = s.size := by rw [Array.length_toList]; rfl
    rw [e]
    unfold maxLen at hs
    omega) hval hd
  obtain ⟨ks, rfl⟩ := map_of_each (f := fun n : {n : List UInt8 // n.length < 9223372036854775808} => AV.lit (tx n.1)) g1
  refine ⟨ks.map (·.1), ?_, fun n hn => ?_, by rw [List.map_map]; exact g2⟩
  · rcases R.slLen g2 with ⟨_, _, h⟩ | ⟨b, off, cap, cs, hv, hl, _⟩
    · rw [List.length_map, List.map_eq_nil_iff.1 h]; simp
    · subst hv
      simp only [Value.okWide, Cell.okWide, Cell.ok, ht] at hval
      obtain ⟨h2, h3, _⟩ := hval
      rw [List.length_map] at h2 ⊢
      simp [IntKind.max, IntKind.signed, IntKind.bits] at h3
      omega
  · obtain ⟨a, _, rfl⟩ := List.mem_map.1 hn
    exact a.2
end
end Go.Cab

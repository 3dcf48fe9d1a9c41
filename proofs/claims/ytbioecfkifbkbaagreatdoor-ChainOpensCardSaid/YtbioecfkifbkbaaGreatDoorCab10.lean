/- Part 10 of what the proof stands on: V1, V2, H6, H7. -/
import Derived.Test.YtbioecfkifbkbaaGreatDoorCab07
import Derived.Test.YtbioecfkifbkbaaGreatDoorCab09
set_option linter.unusedSimpArgs false
set_option linter.unnecessarySimpa false
set_option linter.unusedVariables false
set_option linter.unusedSectionVars false
namespace Go.Cab
open Go.RowKit
open Classical
def fb701 : AC := (.seq (.reg [⟨some 1, none, .box 3 (.tmp 0), [], none⟩, ⟨some 2, none, .mov (.const (wn 0)), [], none⟩]) (.seq (.reg [⟨some 6, none, .faddr 0 0 (.tmp 1), [], none⟩, ⟨some 7, none, .load false 1 (.tmp 6), [], none⟩, ⟨some 8, none, .cvt .u32 (.tmp 7), [], none⟩, ⟨some 9, none, .faddr 1 1 (.tmp 1), [], none⟩, ⟨some 10, none, .load false 1 (.tmp 9), [], none⟩, ⟨some 11, none, .len true (.tmp 10), [], none⟩, ⟨some 12, none, .cvt .u32 (.tmp 11), [], none⟩, ⟨some 13, none, .bin .mul (.const (wn 7)) (.tmp 12), [], none⟩, ⟨some 14, none, .bin .add (.tmp 8) (.tmp 13), [], none⟩, ⟨some 3, none, .mov (.tmp 14), [], none⟩]) (.seq (.seq (.reg [⟨some 4, none, .mov (.const (jn 0)), [], none⟩]) (.block 0 (.loop (.seq (.seq (.reg [⟨some 15, none, .mov (.tmp 4), [], none⟩, ⟨some 16, none, .faddr 1 1 (.tmp 1), [], none⟩, ⟨some 17, none, .load false 1 (.tmp 16), [], none⟩, ⟨some 18, none, .len true (.tmp 17), [], none⟩, ⟨some 19, none, .bin .lss (.tmp 15) (.tmp 18), [], none⟩, ⟨some 20, none, .mov (.tmp 19), [], none⟩, ⟨some 21, some (20, true), .mov (.tmp 4), [], none⟩, ⟨some 22, some (20, true), .bin .lss (.tmp 21) (.const (jn 20)), [], none⟩, ⟨some 23, none, .pick (.tmp 20) (.tmp 22) (.const (.bool false)), [], none⟩]) (.cond (.tmp 23) .skip (.exit 0))) (.seq (.block 1 (.reg [⟨some 26, none, .mov (.tmp 3), [], none⟩, ⟨some 27, none, .bin .mul (.tmp 26) (.const (wn 31)), [], none⟩, ⟨some 28, none, .faddr 1 1 (.tmp 1), [], none⟩, ⟨some 29, none, .load false 1 (.tmp 28), [], none⟩, ⟨some 30, none, .mov (.tmp 4), [], none⟩, ⟨some 31, none, .prim .sidx [.tmp 29, .tmp 30], [], none⟩, ⟨some 32, none, .cvt .u32 (.tmp 31), [], none⟩, ⟨some 33, none, .bin .add (.tmp 27) (.tmp 32), [], none⟩, ⟨some 3, none, .mov (.tmp 33), [], none⟩])) (.reg [⟨some 24, none, .mov (.tmp 4), [], none⟩, ⟨some 25, none, .bin .add (.tmp 24) (.const (jn 1)), [], none⟩, ⟨some 4, none, .mov (.tmp 25), [], none⟩])))))) (.seq (.seq (.reg [⟨some 5, none, .mov (.const (jn 0)), [], none⟩]) (.block 2 (.loop (.seq (.seq (.reg [⟨some 34, none, .mov (.tmp 5), [], none⟩, ⟨some 35, none, .faddr 2 2 (.tmp 1), [], none⟩, ⟨some 36, none, .load false 1 (.tmp 35), [], none⟩, ⟨some 37, none, .len false (.tmp 36), [], none⟩, ⟨some 38, none, .bin .lss (.tmp 34) (.tmp 37), [], none⟩]) (.cond (.tmp 38) .skip (.exit 2))) (.seq (.block 3 (.reg [⟨some 41, none, .mov (.tmp 3), [], none⟩, ⟨some 42, none, .bin .mul (.tmp 41) (.const (wn 31)), [], none⟩, ⟨some 43, none, .faddr 2 2 (.tmp 1), [], none⟩, ⟨some 44, none, .load false 1 (.tmp 43), [], none⟩, ⟨some 45, none, .mov (.tmp 5), [], none⟩, ⟨some 46, none, .iaddrS 32 (.tmp 44) (.tmp 45), [], none⟩, ⟨some 47, none, .iaddrA 32 1 (.tmp 46) (.const (jn 7)), [], none⟩, ⟨some 48, none, .load false 1 (.tmp 47), [], none⟩, ⟨some 49, none, .cvt .u32 (.tmp 48), [], none⟩, ⟨some 50, none, .bin .add (.tmp 42) (.tmp 49), [], none⟩, ⟨some 51, none, .faddr 2 2 (.tmp 1), [], none⟩, ⟨some 52, none, .load false 1 (.tmp 51), [], none⟩, ⟨some 53, none, .mov (.tmp 5), [], none⟩, ⟨some 54, none, .iaddrS 32 (.tmp 52) (.tmp 53), [], none⟩, ⟨some 55, none, .iaddrA 32 1 (.tmp 54) (.const (jn 6)), [], none⟩, ⟨some 56, none, .load false 1 (.tmp 55), [], none⟩, ⟨some 57, none, .cvt .u32 (.tmp 56), [], none⟩, ⟨some 58, none, .bin .mul (.const (wn 256)) (.tmp 57), [], none⟩, ⟨some 59, none, .bin .add (.tmp 50) (.tmp 58), [], none⟩, ⟨some 60, none, .faddr 2 2 (.tmp 1), [], none⟩, ⟨some 61, none, .load false 1 (.tmp 60), [], none⟩, ⟨some 62, none, .mov (.tmp 5), [], none⟩, ⟨some 63, none, .iaddrS 32 (.tmp 61) (.tmp 62), [], none⟩, ⟨some 64, none, .iaddrA 32 1 (.tmp 63) (.const (jn 0)), [], none⟩, ⟨some 65, none, .load false 1 (.tmp 64), [], none⟩, ⟨some 66, none, .cvt .u32 (.tmp 65), [], none⟩, ⟨some 67, none, .bin .add (.tmp 59) (.tmp 66), [], none⟩, ⟨some 3, none, .mov (.tmp 67), [], none⟩])) (.reg [⟨some 39, none, .mov (.tmp 5), [], none⟩, ⟨some 40, none, .bin .add (.tmp 39) (.const (jn 1)), [], none⟩, ⟨some 5, none, .mov (.tmp 40), [], none⟩])))))) (.seq (.reg [⟨some 68, none, .mov (.tmp 3), [], none⟩, ⟨some 2, none, .mov (.tmp 68), [], none⟩]) .ret)))))
def fc701 : FC := ⟨1, 69, [(.tmp 2)], fb701⟩
theorem fc701_eq : compF Go.Proofs.Tryz.prog 47 = some fc701 := by kernel_rfl
def fb702 : AC := (.seq (.reg [⟨some 2, none, .alloc 32 (.arr 1 (List.replicate 32 (.lit (bn 0)))), [], none⟩]) (.seq (.reg [⟨some 3, none, .mov (.tmp 0), [], none⟩, ⟨some 4, none, .bin .quo (.tmp 3) (.const (jn 16777216)), [], none⟩, ⟨some 5, none, .cvt .u8 (.tmp 4), [], none⟩, ⟨some 6, none, .mov (.tmp 0), [], none⟩, ⟨some 7, none, .bin .quo (.tmp 6) (.const (jn 65536)), [], none⟩, ⟨some 8, none, .bin .rem (.tmp 7) (.const (jn 256)), [], none⟩, ⟨some 9, none, .cvt .u8 (.tmp 8), [], none⟩, ⟨some 10, none, .mov (.tmp 0), [], none⟩, ⟨some 11, none, .bin .quo (.tmp 10) (.const (jn 256)), [], none⟩, ⟨some 12, none, .bin .rem (.tmp 11) (.const (jn 256)), [], none⟩, ⟨some 13, none, .cvt .u8 (.tmp 12), [], none⟩, ⟨some 14, none, .mov (.tmp 0), [], none⟩, ⟨some 15, none, .bin .rem (.tmp 14) (.const (jn 256)), [], none⟩, ⟨some 16, none, .cvt .u8 (.tmp 15), [], none⟩, ⟨some 17, none, .build (.arr 1 (List.replicate 32 (.lit (bn 0)))) [(0, (.const (bn 116))), (1, (.const (bn 101))), (2, (.const (bn 114))), (3, (.const (bn 109))), (4, (.tmp 5)), (5, (.tmp 9)), (6, (.tmp 13)), (7, (.tmp 16))], [], none⟩, ⟨none, none, .store 32 (.tmp 2) (.tmp 17), [], none⟩]) .ret))
def fc702 : FC := ⟨1, 18, [(.cell 2 .true 32)], fb702⟩
theorem fc702_eq : compF Go.Proofs.Tryz.prog 31 = some fc702 := by kernel_rfl
def fb704 : AC := (.seq (.reg [⟨some 4, none, .mov (.const (.bool false)), [], none⟩]) (.seq (.seq (.reg [⟨some 6, none, .mov (.tmp 0), [], none⟩, ⟨some 7, none, .len false (.tmp 6), [], none⟩, ⟨some 8, none, .mov (.tmp 1), [], none⟩, ⟨some 9, none, .len false (.tmp 8), [], none⟩, ⟨some 10, none, .bin .neq (.tmp 7) (.tmp 9), [], none⟩]) (.cond (.tmp 10) (.seq (.reg [⟨some 4, none, .mov (.const (.bool false)), [], none⟩]) .ret) .skip)) (.seq (.seq (.reg [⟨some 5, none, .mov (.const (jn 0)), [], none⟩]) (.block 0 (.loop (.seq (.seq (.reg [⟨some 11, none, .mov (.tmp 5), [], none⟩, ⟨some 12, none, .mov (.tmp 0), [], none⟩, ⟨some 13, none, .len false (.tmp 12), [], none⟩, ⟨some 14, none, .bin .lss (.tmp 11) (.tmp 13), [], none⟩]) (.cond (.tmp 14) .skip (.exit 0))) (.seq (.block 1 (.seq (.reg [⟨some 17, none, .mov (.tmp 0), [], none⟩, ⟨some 18, none, .mov (.tmp 5), [], none⟩, ⟨some 19, none, .iaddrS 32 (.tmp 17) (.tmp 18), [], none⟩, ⟨some 20, none, .load true 32 (.tmp 19), [], none⟩, ⟨some 21, none, .mov (.tmp 1), [], none⟩, ⟨some 22, none, .mov (.tmp 5), [], none⟩, ⟨some 23, none, .iaddrS 32 (.tmp 21) (.tmp 22), [], none⟩, ⟨some 24, none, .load true 32 (.tmp 23), [], none⟩, ⟨some 25, none, .eqv 23 true (.tmp 20) (.tmp 24), [], none⟩]) (.cond (.tmp 25) (.seq (.reg [⟨some 4, none, .mov (.const (.bool false)), [], none⟩]) .ret) .skip))) (.reg [⟨some 15, none, .mov (.tmp 5), [], none⟩, ⟨some 16, none, .bin .add (.tmp 15) (.const (jn 1)), [], none⟩, ⟨some 5, none, .mov (.tmp 16), [], none⟩])))))) (.seq (.reg [⟨some 4, none, .mov (.const (.bool true)), [], none⟩]) .ret))))
def fc704 : FC := ⟨2, 26, [(.tmp 4)], fb704⟩
theorem fc704_eq : compF Go.Proofs.Tryz.prog 93 = some fc704 := by kernel_rfl
theorem bin_mulw (a b : Nat) : binVal .mul (wn a) (wn b) = some (wn ((a * b) % 4294967296)) := by
  simp only [binVal, wn, ne_eq, not_true_eq_false, if_false]
  rw [← Int.natCast_mul]; rfl
theorem bin_addw (a b : Nat) : binVal .add (wn a) (wn b) = some (wn ((a + b) % 4294967296)) := by
  simp only [binVal, wn, ne_eq, not_true_eq_false, if_false]
  rw [← Int.natCast_add]; rfl
theorem cvt_wj' (n : Nat) : cvtA .u32 (.lit (jn n)) = some (.lit (wn (n % 4294967296))) := by simp only [cvtA, jn]; rfl
theorem cvt_wb (n : Nat) : cvtA .u32 (.lit (bn n)) = some (.lit (wn (n % 4294967296))) := by simp only [cvtA, bn]; rfl
attribute [push_cast] bin_mulw bin_addw cvt_wj' cvt_wb
def sumK (n : Nat) (k : List UInt8) : Nat := (n * 31 + (k.getD 7 0).toNat + 256 * (k.getD 6 0).toNat + (k.getD 0 0).toNat) % 4294967296
def sumB (n : Nat) (b : UInt8) : Nat := (n * 31 + b.toNat) % 4294967296
def sum0 (x : Term) : Nat := (x.kind + 7 * x.text.length) % 4294967296
def sumV (x : Term) : Nat := x.keys.foldl sumK ((x.text.take 20).foldl sumB (sum0 x))
theorem foldl_take {α β : Type} (f : α → β → α) (a : α) (l : List β) (i : Nat) (x : β) (h : l[i]? = some x) : (l.take (i + 1)).foldl f a = f ((l.take i).foldl f a) x := by
  rw [List.take_add_one, h]; simp
def sumS (kd : Nat) (text : List UInt8) (keys : List (List UInt8)) (l : Nat × Nat) (a b : AV) : AS :=
  ⟨0, [.st [1, 1, 1] [.lit (jn kd), .lit (tx text), .sl 32 (klA keys)], .ptr 1 l 0 [], .any, a, b] ++ List.replicate 64 .any, [none, some (.box l 3 (.st [1, 1, 1] [.lit (jn kd), .lit (tx text), .sl 32 (klA keys)]))] ++ List.replicate 67 none⟩
def sumS2 (kd : Nat) (text : List UInt8) (keys : List (List UInt8)) (l : Nat × Nat) (a b : AV) : AS :=
  ⟨0, [.st [1, 1, 1] [.lit (jn kd), .lit (tx text), .sl 32 (klA keys)], .ptr 1 l 0 [], .any, a, .any, b] ++ List.replicate 63 .any, [none, some (.box l 3 (.st [1, 1, 1] [.lit (jn kd), .lit (tx text), .sl 32 (klA keys)]))] ++ List.replicate 67 none⟩
theorem bl_getD {k : List UInt8} {i : Nat} (h : i < k.length) : (bl k)[i]? = some (.lit (bn (k.getD i 0).toNat)) := by
  simp [bl, List.getD, List.getElem?_eq_getElem h]
theorem bl_getE {k : List UInt8} {i : Nat} (h : i < k.length) : ∀ h', (bl k)[i]'h' = .lit (bn (k.getD i 0).toNat) := fun h' => by
  have := bl_getD h
  rw [List.getElem?_eq_getElem h'] at this
  exact Option.some.inj this
set_option maxHeartbeats 4000000 in
theorem sum_call (x : Term) (hk : x.kind < 256) (ht : x.text.length < 100000) (hn : x.keys.length < 100000) (h32 : ∀ k ∈ x.keys, k.length = 32) :
    PCall Go.Proofs.Tryz.prog 47 [termA x] (.val (.lit (wn (sumV x)))) := by
  have h701 := fc701_eq
  obtain ⟨kd, text, keys⟩ := x
  simp only at hk ht hn h32
  unfold termA
  simp only
  refine PCall.of h701 rfl ?_; show AC.wp _ fb701 (AS.init [.st [1, 1, 1] [.lit (jn kd), .lit (tx text), .sl 32 (klA keys)]] 1 69) (fun x s => match x with | .exit _ => False | _ => Fin [(.tmp 2)] s _); unfold fb701 AS.init
  refine wp_sg (areg_bx rfl rfl fun l => areg_end (by simp [push_cast]; exact rfl) ?_)
  refine wp_sr (by simp [push_cast]; exact rfl) ?_
  have hs0 : (kd + 7 * text.length) % 4294967296 = sum0 ⟨kd, text, keys⟩ := rfl
  rw [hs0]
  have hfin : sumV ⟨kd, text, keys⟩ = keys.foldl sumK ((text.take 20).foldl sumB (sum0 ⟨kd, text, keys⟩)) := rfl
  rw [hfin]
  generalize sum0 ⟨kd, text, keys⟩ = n0
  refine wp_seqM (fun _ : Unit => sumS kd text keys l (.lit (wn ((text.take 20).foldl sumB n0))) .any) (fun _ => True) (fun _ _ => ?_) ?_
  · generalize (text.take 20).foldl sumB n0 = n1
    unfold sumS
    refine wp_seq' (wp_seq' (wp_r (by simp [push_cast]; exact rfl) (wp_block' (wp_loop_to keys.length (fun i => sumS2 kd text keys l (.lit (wn ((keys.take i).foldl sumK n1))) (.lit (jn i))) ?_ ?_ ?_))))
    · exact Le.mk rfl (by simp [leT, sumS2]) (by simp [leH, sumS2])
    · intro i hi
      have q1 : i + 1 < 9223372036854775808 := by omega
      obtain ⟨k, hk1⟩ : ∃ k, keys[i]? = some k := ⟨_, List.getElem?_eq_getElem hi⟩
      have hk3 : k.length = 32 := h32 k (List.mem_of_getElem? hk1)
      have g1 : (klA keys)[i]? = some (keyA k) := by rw [klA_get, hk1]; rfl
      have g2 : ∀ h, (klA keys)[i]'h = keyA k := fun h => by rw [List.getElem?_eq_getElem h] at g1; exact Option.some.inj g1
      have k0 := bl_getD (k := k) (i := 0) (by omega); have k6 := bl_getD (k := k) (i := 6) (by omega); have k7 := bl_getD (k := k) (i := 7) (by omega)
      have e0 := bl_getE (k := k) (i := 0) (by omega); have e6 := bl_getE (k := k) (i := 6) (by omega); have e7 := bl_getE (k := k) (i := 7) (by omega)
      have hstep : (keys.take (i + 1)).foldl sumK n1 = sumK ((keys.take i).foldl sumK n1) k := foldl_take _ _ _ _ _ hk1
      have hsk : ∀ n, (n * 31 + (k.getD 7 0).toNat + 256 * (k.getD 6 0).toNat + (k.getD 0 0).toNat) % 4294967296 = sumK n k := fun _ => rfl
      have b0 := (k.getD 0 0).toNat_lt; have b6 := (k.getD 6 0).toNat_lt; have b7 := (k.getD 7 0).toNat_lt
      generalize (k.getD 0 0).toNat = a0 at *
      generalize (k.getD 6 0).toNat = a6 at *
      generalize (k.getD 7 0).toNat = a7 at *
      unfold sumS2
      refine wp_seq' (wp_sr (by simp [push_cast, hi, klA_len]; exact rfl) (wp_cond_t (by simp [AS.ev]) (wp_skip' ?_)))
      refine wp_seq' (wp_block' (wp_r (by simp [push_cast, g1, g2, k0, k6, k7, e0, e6, e7, hk3, klA_len, hi]; exact rfl) ?_))
      refine wp_r (by simp [push_cast, q1]; exact rfl) ?_
      refine Le.mk rfl ?_ (by simp [leH])
      rw [hstep, ← hsk]
      simp [leT]
    · unfold sumS2
      refine wp_seq' (wp_sr (by simp [push_cast, klA_len]; exact rfl) (wp_cond_f (by simp [AS.ev]) (wp_exit' (if_hit rfl ?_))))
      refine wp_sr (by simp [push_cast]; exact rfl) (wp_ret' ?_)
      exact fin_tmp (by simp [RVal, AS.ev, AS.coe]) (by simp)
  · refine wp_seq' (wp_r (by simp [push_cast]; exact rfl) (wp_block' (wp_loop_to (min text.length 20) (fun i => sumS kd text keys l (.lit (wn ((text.take i).foldl sumB n0))) (.lit (jn i))) ?_ ?_ ?_)))
    · exact Le.mk rfl (by simp [leT, sumS]) (by simp [leH, sumS])
    · intro i hi
      have hi1 : i < text.length := by omega
      have hi2 : i < 20 := by omega
      have q1 : i + 1 < 9223372036854775808 := by omega
      obtain ⟨b, hb⟩ : ∃ b, text[i]? = some b := ⟨_, List.getElem?_eq_getElem hi1⟩
      unfold sumS
      refine wp_seq' (wp_sr (by simp [push_cast, hi1, hi2]; exact rfl) (wp_cond_t (by simp [AS.ev]) (wp_skip' ?_)))
      refine wp_seq' (wp_block' (wp_r (by simp [push_cast, hb]; exact rfl) ?_))
      refine wp_r (by simp [push_cast, q1]; exact rfl) ?_
      refine Le.mk rfl ?_ (by simp [leH])
      rw [foldl_take sumB n0 text i b hb]
      simp [leT, sumB]
    · have hstop : min text.length 20 = text.length ∨ (min text.length 20 = 20 ∧ 20 < text.length) := by omega
      have hall : (text.take (min text.length 20)).foldl sumB n0 = (text.take 20).foldl sumB n0 := by
        rw [Nat.min_comm, ← List.take_eq_take_min]
      rw [hall]
      generalize (text.take 20).foldl sumB n0 = n1
      generalize min text.length 20 = m at *
      unfold sumS
      rcases hstop with hs | ⟨hs, hs2⟩
      · subst hs
        refine wp_seq' (wp_sr (by simp [push_cast]; exact rfl) (wp_cond_f (by simp [AS.ev]) (wp_exit' (if_hit rfl ?_))))
        exact ⟨(), trivial, Le.mk rfl (by simp [leT]) (by simp [leH])⟩
      · subst hs
        refine wp_seq' (wp_sr (by simp [push_cast, hs2]; exact rfl) (wp_cond_f (by simp [AS.ev]) (wp_exit' (if_hit rfl ?_))))
        exact ⟨(), trivial, Le.mk rfl (by simp [leT]) (by simp [leH])⟩
theorem name_fill {s : AS} {n : Nat} (h4 : s.ev (.tmp 5) = .lit (bn (n / 16777216 % 256))) (h5 : s.ev (.tmp 9) = .lit (bn (n / 65536 % 256))) (h6 : s.ev (.tmp 13) = .lit (bn (n / 256 % 256))) (h7 : s.ev (.tmp 16) = .lit (bn (n % 256))) :
    fillAV s (.arr 1 (List.replicate 32 (.lit (bn 0)))) [(0, .const (bn 116)), (1, .const (bn 101)), (2, .const (bn 114)), (3, .const (bn 109)), (4, .tmp 5), (5, .tmp 9), (6, .tmp 13), (7, .tmp 16)] = some (keyA (nameK n)) := by
  have hc : ∀ v, s.ev (.const v) = .lit v := fun v => rfl
  simp [fillAV, h4, h5, h6, h7, hc, AV.sub, AV.isTup, AV.sz, AV.upd, List.replicate, keyA, nameK, four, bl]
theorem nameR_call (n : Nat) (h : n < 4294967296) : PCall Go.Proofs.Tryz.prog 31 [.lit (jn n)] (.val (keyA (nameK n))) := by
  have h702 := fc702_eq
  have hl := nameK_len n
  have hf := fun s => name_fill (s := s) (n := n)
  generalize nameK n = nm at *
  refine PCall.of h702 rfl ?_; show AC.wp _ fb702 (AS.init [.lit (jn n)] 1 18) (fun x s => match x with | .exit _ => False | _ => Fin [(.cell 2 .true 32)] s _); unfold fb702 AS.init
  refine wp_sg (areg_al' zk_eq.symm fun l => areg_end (by simp [push_cast]; exact rfl) ?_)
  have q : n < 9223372036854775808 := by omega
  refine wp_sg ?_
  refine areg_run 14 (by simp [push_cast, q]; exact rfl) ?_
  refine areg_bd (z' := keyA nm) (hf _ (by simp [AS.ev]) (by simp [AS.ev]) (by simp [AS.ev]) (by simp [AS.ev])) ?_
  refine areg_end (by simp [push_cast, hl, zk_len]; exact rfl) (wp_ret' ?_)
  exact fin_cell (by simp [RVal, AS.coe, tt, push_cast] <;> exact rfl) (by simp [keyA])
theorem klA_at {ks : List (List UInt8)} {i : Nat} {k : List UInt8} (h : ks[i]? = some k) : (klA ks)[i]? = some (keyA k) ∧ ∀ h', (klA ks)[i]'h' = keyA k := by
  have g1 : (klA ks)[i]? = some (keyA k) := by rw [klA_get, h]; rfl
  exact ⟨g1, fun h' => by rw [List.getElem?_eq_getElem h'] at g1; exact Option.some.inj g1⟩
set_option maxHeartbeats 4000000 in
theorem same_call (xs ys : List (List UInt8)) (hx : ∀ k ∈ xs, k.length = 32) (hy : ∀ k ∈ ys, k.length = 32) (hn : xs.length < 9223372036854775807) :
    PCall Go.Proofs.Tryz.prog 93 [.sl 32 (klA xs), .sl 32 (klA ys)] (.val (.lit (.bool (decide (xs = ys))))) := by
  have h704 := fc704_eq
  refine PCall.of h704 rfl ?_; show AC.wp _ fb704 (AS.init [.sl 32 (klA xs), .sl 32 (klA ys)] 2 26) (fun x s => match x with | .exit _ => False | _ => Fin [(.tmp 4)] s _); unfold fb704 AS.init
  refine wp_sr (by simp [push_cast]; exact rfl) ?_
  by_cases hl : xs.length = ys.length
  · refine wp_seq' (wp_seq' (wp_r (by simp [push_cast, klA_len, hl]; exact rfl) (wp_cond_f (by simp [AS.ev]) (wp_skip' ?_))))
    refine wp_seq' (wp_seq' (wp_r (by simp [push_cast]; exact rfl) (wp_block' (wp_loop_ret xs.length (fun i => ⟨0, [.sl 32 (klA xs), .sl 32 (klA ys), .any, .any, .any, .lit (jn i)] ++ List.replicate 20 .any, List.replicate 26 none⟩) (fun i => xs.take i = ys.take i) ?_ rfl ?_))))
    · exact Le.mk rfl (by simp [leT]) (by simp [leH])
    · intro i hi heq
      by_cases hlt : i < xs.length
      · obtain ⟨a, ha⟩ : ∃ a, xs[i]? = some a := ⟨_, List.getElem?_eq_getElem hlt⟩
        obtain ⟨b, hb⟩ : ∃ b, ys[i]? = some b := ⟨_, List.getElem?_eq_getElem (by omega)⟩
        have a32 := hx a (List.mem_of_getElem? ha)
        have b32 := hy b (List.mem_of_getElem? hb)
        obtain ⟨a1, a2⟩ := klA_at ha
        obtain ⟨b1, b2⟩ := klA_at hb
        have q1 : i + 1 < 9223372036854775808 := by omega
        have hly : i < ys.length := by omega
        refine wp_seq' (wp_sr (by simp [push_cast, hlt, klA_len]; exact rfl) (wp_cond_t (by simp [AS.ev]) (wp_skip' ?_)))
        refine wp_seq' (wp_block' (wp_sg ?_))
        refine areg_run 8 (by simp [push_cast, a1, a2, b1, b2, klA_len, hlt, hly, a32, b32]; exact rfl) ?_
        refine areg_eq rfl rfl (eq_key a32 b32) rfl rfl ?_
        by_cases hab : a = b
        · refine areg_end (by simp [push_cast, hab]; exact rfl) ?_
          refine wp_cond_f (by simp [AS.ev, AS.put, hab]) (wp_skip' ?_)
          refine wp_r (by simp [push_cast, q1]; exact rfl) ?_
          refine ⟨hlt, ?_, Le.mk rfl (by simp [leT]) (by simp [leH])⟩
          rw [List.take_add_one, List.take_add_one, heq, ha, hb, hab]
        · refine areg_end (by simp [push_cast]; exact rfl) ?_
          refine wp_cond_t (by simp [AS.ev, AS.put, hab]) ?_
          refine wp_sr (by simp [push_cast]; exact rfl) (wp_ret' ?_)
          have hne : ¬ xs = ys := fun h => by subst h; rw [ha] at hb; exact hab (Option.some.inj hb)
          exact fin_tmp (by simp [RVal, AS.ev, AS.coe, hne]) (by simp)
      · have : i = xs.length := by omega
        subst this
        rw [List.take_length, hl, List.take_length] at heq
        refine wp_seq' (wp_sr (by simp [push_cast, klA_len]; exact rfl) (wp_cond_f (by simp [AS.ev]) (wp_exit' (if_hit rfl ?_))))
        refine wp_sr (by simp [push_cast]; exact rfl) (wp_ret' ?_)
        exact fin_tmp (by simp [RVal, AS.ev, AS.coe, heq]) (by simp)
  · refine wp_seq' (wp_seq' (wp_r (by simp [push_cast, klA_len, hl]; exact rfl) (wp_cond_t (by simp [AS.ev]) ?_)))
    refine wp_sr (by simp [push_cast]; exact rfl) (wp_ret' ?_)
    have hne : ¬ xs = ys := fun h => hl (by rw [h])
    exact fin_tmp (by simp [RVal, AS.ev, AS.coe, hne]) (by simp)
end Go.Cab
namespace Go.Cab
open Go.RowKit
open Classical
def fb705 : AC := (.seq (.reg [⟨some 3, none, .box 3 (.tmp 1), [], none⟩, ⟨some 4, none, .mov (.const (jn 0)), [], none⟩]) (.seq (.reg [⟨some 8, none, .load true 3 (.tmp 3), [], none⟩, ⟨some 9, none, .call 47 [.tmp 8], [], none⟩, ⟨some 5, none, .mov (.tmp 9), [], none⟩]) (.seq (.seq (.reg [⟨some 6, none, .mov (.const (jn 0)), [], none⟩]) (.block 0 (.loop (.seq (.seq (.reg [⟨some 10, none, .mov (.tmp 6), [], none⟩, ⟨some 11, none, .mov (.tmp 0), [], none⟩, ⟨some 12, none, .nilc (.tmp 11), [], none⟩, ⟨some 13, none, .faddr 1 1 (.tmp 12), [], none⟩, ⟨some 14, none, .load false 1 (.tmp 13), [], none⟩, ⟨some 15, none, .len false (.tmp 14), [], none⟩, ⟨some 16, none, .bin .lss (.tmp 10) (.tmp 15), [], none⟩]) (.cond (.tmp 16) .skip (.exit 0))) (.seq (.block 1 (.seq (.seq (.reg [⟨some 19, none, .mov (.tmp 0), [], none⟩, ⟨some 20, none, .nilc (.tmp 19), [], none⟩, ⟨some 21, none, .faddr 1 1 (.tmp 20), [], none⟩, ⟨some 22, none, .load false 1 (.tmp 21), [], none⟩, ⟨some 23, none, .mov (.tmp 6), [], none⟩, ⟨some 24, none, .iaddrS 1 (.tmp 22) (.tmp 23), [], none⟩, ⟨some 25, none, .load false 1 (.tmp 24), [], none⟩, ⟨some 26, none, .mov (.tmp 5), [], none⟩, ⟨some 27, none, .bin .neq (.tmp 25) (.tmp 26), [], none⟩]) (.cond (.tmp 27) (.exit 1) .skip)) (.seq (.reg [⟨some 28, none, .mov (.tmp 0), [], none⟩, ⟨some 29, none, .nilc (.tmp 28), [], none⟩, ⟨some 30, none, .faddr 0 0 (.tmp 29), [], none⟩, ⟨some 31, none, .load false 1 (.tmp 30), [], none⟩, ⟨some 32, none, .mov (.tmp 6), [], none⟩, ⟨some 33, none, .iaddrS 3 (.tmp 31) (.tmp 32), [], none⟩, ⟨some 34, none, .load true 3 (.tmp 33), [], none⟩, ⟨some 7, none, .alloc 3 (.st [1, 1, 1] [(.lit (jn 0)), (.lit (tx [])), (.lit (.slice .none 0 0))]), [], none⟩, ⟨none, none, .store 3 (.tmp 7) (.tmp 34), [], none⟩]) (.seq (.reg [⟨some 35, none, .faddr 0 0 (.tmp 7), [], none⟩, ⟨some 36, none, .load false 1 (.tmp 35), [], none⟩, ⟨some 37, none, .faddr 0 0 (.tmp 3), [], none⟩, ⟨some 38, none, .load false 1 (.tmp 37), [], none⟩, ⟨some 39, none, .bin .eql (.tmp 36) (.tmp 38), [], none⟩, ⟨some 40, none, .mov (.tmp 39), [], none⟩, ⟨some 41, some (40, true), .faddr 1 1 (.tmp 7), [], none⟩, ⟨some 42, some (40, true), .load false 1 (.tmp 41), [], none⟩, ⟨some 43, some (40, true), .faddr 1 1 (.tmp 3), [], none⟩, ⟨some 44, some (40, true), .load false 1 (.tmp 43), [], none⟩, ⟨some 45, some (40, true), .bin .eql (.tmp 42) (.tmp 44), [], none⟩, ⟨some 46, none, .pick (.tmp 40) (.tmp 45) (.const (.bool false)), [], none⟩, ⟨some 47, none, .mov (.tmp 46), [], none⟩, ⟨some 48, some (47, true), .faddr 2 2 (.tmp 3), [], none⟩, ⟨some 49, some (47, true), .load false 1 (.tmp 48), [], none⟩, ⟨some 50, some (47, true), .faddr 2 2 (.tmp 7), [], none⟩, ⟨some 51, some (47, true), .load false 1 (.tmp 50), [], none⟩, ⟨some 52, some (47, true), .lcall 93 [.tmp 49, .tmp 51], [], none⟩, ⟨some 53, none, .pick (.tmp 47) (.tmp 52) (.const (.bool false)), [], none⟩]) (.cond (.tmp 53) (.seq (.reg [⟨some 54, none, .mov (.tmp 6), [], none⟩, ⟨some 4, none, .mov (.tmp 54), [], none⟩]) .ret) .skip))))) (.reg [⟨some 17, none, .mov (.tmp 6), [], none⟩, ⟨some 18, none, .bin .add (.tmp 17) (.const (jn 1)), [], none⟩, ⟨some 6, none, .mov (.tmp 18), [], none⟩])))))) (.seq (.reg [⟨some 4, none, .mov (.const (.int .i64 (-1))), [], none⟩]) .ret))))
def fc705 : FC := ⟨2, 55, [(.tmp 4)], fb705⟩
theorem fc705_eq : compF Go.Proofs.Tryz.prog 73 = some fc705 := by kernel_rfl
def fb700 : AC := (.seq (.reg [⟨some 3, none, .box 3 (.tmp 1), [], none⟩]) (.seq (.reg [⟨some 4, none, .mov (.tmp 0), [], none⟩, ⟨some 5, none, .mov (.tmp 0), [], none⟩, ⟨some 6, none, .nilc (.tmp 5), [], none⟩, ⟨some 7, none, .faddr 0 0 (.tmp 6), [], none⟩, ⟨some 8, none, .load false 1 (.tmp 7), [], none⟩, ⟨some 9, none, .load true 3 (.tmp 3), [], (.some 3)⟩, ⟨some 10, none, .bslice 3 (.st [1, 1, 1] [(.lit (jn 0)), (.lit (tx [])), (.lit (.slice .none 0 0))]) 1 [(0, (.tmp 9))], [], none⟩, ⟨some 11, none, .append 78 3 48 (.tmp 8) (.tmp 10), [], none⟩, ⟨some 12, none, .nilc (.tmp 4), [], none⟩, ⟨some 13, none, .faddr 0 0 (.tmp 12), [], none⟩, ⟨none, none, .store 1 (.tmp 13) (.tmp 11), [], none⟩]) (.reg [⟨some 14, none, .mov (.tmp 0), [], none⟩, ⟨some 15, none, .mov (.tmp 0), [], none⟩, ⟨some 16, none, .nilc (.tmp 15), [], none⟩, ⟨some 17, none, .faddr 1 1 (.tmp 16), [], none⟩, ⟨some 18, none, .load false 1 (.tmp 17), [], none⟩, ⟨some 19, none, .load true 3 (.tmp 3), [], (.some 3)⟩, ⟨some 20, none, .callv 47 [.tmp 19], [], none⟩, ⟨some 21, none, .bslice 1 (.lit (wn 0)) 1 [(0, (.tmp 20))], [], none⟩, ⟨some 22, none, .append 30 1 4 (.tmp 18) (.tmp 21), [], none⟩, ⟨some 23, none, .nilc (.tmp 14), [], none⟩, ⟨some 24, none, .faddr 1 1 (.tmp 23), [], none⟩, ⟨none, none, .store 1 (.tmp 24) (.tmp 22), [], none⟩])))
def fc700 : FC := ⟨2, 25, [], fb700⟩
theorem fc700_eq : compF Go.Proofs.Tryz.prog 29 = some fc700 := by kernel_rfl
def fb706 : AC := (.seq (.reg [⟨some 8, none, .alloc 32 (.arr 1 (List.replicate 32 (.lit (bn 0)))), [], none⟩]) (.seq (.reg [⟨some 11, none, .mov (.tmp 1), [], none⟩, ⟨some 12, none, .mov (.tmp 2), [], none⟩, ⟨some 13, none, .ef (.bown 23 32 (.arr 1 (List.replicate 32 (.lit (bn 0)))) 0 []) [], [], none⟩, ⟨some 14, none, .mov (.tmp 3), [], none⟩, ⟨some 15, none, .append 23 32 32 (.tmp 13) (.tmp 14), [], none⟩, ⟨some 16, none, .build (.st [1, 1, 1] [(.lit (jn 0)), (.lit (tx [])), (.lit (.slice .none 0 0))]) [(0, (.tmp 11)), (1, (.tmp 12)), (2, (.tmp 15))], [], none⟩, ⟨some 9, none, .alloc 3 (.st [1, 1, 1] [(.lit (jn 0)), (.lit (tx [])), (.lit (.slice .none 0 0))]), [], none⟩, ⟨none, none, .store 3 (.tmp 9) (.tmp 16), [], none⟩]) (.seq (.reg [⟨some 17, none, .mov (.tmp 0), [], none⟩, ⟨some 18, none, .load true 3 (.tmp 9), [], none⟩, ⟨some 19, none, .icall 73 (.tmp 17) [.tmp 18], [], none⟩, ⟨some 10, none, .mov (.tmp 19), [], none⟩]) (.seq (.seq (.reg [⟨some 20, none, .mov (.tmp 10), [], none⟩, ⟨some 21, none, .bin .lss (.tmp 20) (.const (jn 0)), [], none⟩]) (.cond (.tmp 21) (.seq (.reg [⟨some 22, none, .mov (.tmp 0), [], none⟩, ⟨some 23, none, .load true 3 (.tmp 9), [], none⟩, ⟨some 24, none, .icall 29 (.tmp 22) [.tmp 23], [], none⟩]) (.reg [⟨some 25, none, .mov (.tmp 0), [], none⟩, ⟨some 26, none, .nilc (.tmp 25), [], none⟩, ⟨some 27, none, .faddr 0 0 (.tmp 26), [], none⟩, ⟨some 28, none, .load false 1 (.tmp 27), [], none⟩, ⟨some 29, none, .len false (.tmp 28), [], none⟩, ⟨some 30, none, .bin .sub (.tmp 29) (.const (jn 1)), [], none⟩, ⟨some 10, none, .mov (.tmp 30), [], none⟩])) .skip)) (.seq (.reg [⟨some 31, none, .mov (.tmp 10), [], none⟩, ⟨some 32, none, .call 31 [.tmp 31], [], none⟩, ⟨none, none, .store 32 (.tmp 8) (.tmp 32), [], none⟩]) .ret)))))
def fc706 : FC := ⟨4, 33, [(.cell 8 .true 32)], fb706⟩
theorem fc706_eq : compF Go.Proofs.Tryz.prog 56 = some fc706 := by kernel_rfl
def GC {I X : Type} (P : Program) (f : FuncId) (vs : List AV) (F : I → X → List (Option Blk)) (i : I) (r : AV) (j : I) : Prop :=
  ∀ x L, XCall P f vs (F i x ++ L) fun r' H' => r' = r ∧ ∃ x', H' = F j x' ++ L
theorem GC.xf {I X : Type} {P : Program} {f : FuncId} {vs : List AV} {F : I → X → List (Option Blk)} {N : Nat} {i j : I} {r : AV} (h : GC P f vs F i r j) (hN : ∀ i x, (F i x).length = N) (x : X) (L : List (Option Blk)) (E : List (Tmp × Blk)) :
    XCall P f vs (setE N (F i x ++ L) E) fun r' H' => ∃ hp', (r' = r ∧ ∃ x', hp' = F j x' ++ L) ∧ H' = setE N hp' E := by
  refine XCall.mono (xf_of (hN i x) (KG := fun r' G => r' = r ∧ ∃ x', G = F j x') (fun L => XCall.mono (h x L) ?_) (fun r' G' hG => ?_) E) ?_
  · rintro r' H' ⟨h1, x', h2⟩
    exact ⟨_, ⟨h1, x', rfl⟩, h2⟩
  · obtain ⟨_, x', rfl⟩ := hG
    exact hN _ _
  · rintro r' H' ⟨hp', ⟨G', ⟨h1, x', rfl⟩, rfl⟩, h3⟩
    exact ⟨_, ⟨h1, x', rfl⟩, h3⟩
section
variable {I X : Type} {P : Program} {F : I → X → List (Option Blk)} {N : Nat} {i j : I} {r : AV} {f : FuncId} {vs : List AV} {tm : List AV} {L : List (Option Blk)} {x : X} {K : AS → Prop} {xs : List AOp} {d : Option Tmp} {fo : List Tmp} {ow : Option Tmp}
theorem areg_gk {g : XT} {ys : List Operand} {keep fresh : List Tmp}
    (us : List AV) (hN : ∀ i x, (F i x).length = N) (ha : (ys.map fun y => AS.ev ⟨N, tm, F i x ++ L⟩ y) = us) (ht : tgtA P g us = some (f, vs)) (hc : GC P f vs F i r j) (hlt : ∀ t' ∈ fresh, t' < L.length)
    (hk : ∀ t' ∈ keep, ∀ b, (AS.ev ⟨N, tm, F i x ++ L⟩ (.tmp t')).place = some b → N ≤ b)
    (h : ∀ x', AReg P xs { AS.put ⟨N, tm, F i x ++ L⟩ d r with hp := F j x' ++ L } K) : AReg P (⟨d, none, .xc g ys keep fresh, fo, ow⟩ :: xs) ⟨N, tm, F i x ++ L⟩ K := by
  refine areg_xf (us := us) (K' := fun r' H' => r' = r ∧ ∃ x', H' = F j x' ++ L) ha ht (fun E _ => hc.xf hN x L E) ?_ (fun t' ht' => by simp [hN]; exact hlt t' ht') (fun r' hp' hK => ?_) ?_
  · exact ⟨_, _, rfl, x, rfl⟩
  · obtain ⟨_, x', rfl⟩ := hK
    refine ⟨fun t' ht' b hb => ?_, by simp [hN]⟩
    have hge := hk t' ht' b hb
    simp only
    rw [List.getElem?_append_right (by rw [hN]; exact hge), List.getElem?_append_right (by rw [hN]; exact hge), hN, hN]
  · rintro r' hp' ⟨rfl, x', rfl⟩
    exact h x'
theorem areg_gi {y : Operand} {zs : List Operand} (hc : GC P f vs F i r j) (ha : ((y :: zs).map fun z => AS.ev ⟨N, tm, F i x ++ L⟩ z) = vs)
    (h : ∀ x', AReg P xs { AS.put ⟨N, tm, F i x ++ L⟩ d r with hp := F j x' ++ L } K) : AReg P (⟨d, none, .icall f y zs, fo, ow⟩ :: xs) ⟨N, tm, F i x ++ L⟩ K :=
  areg_xc (K' := fun r' H' => r' = r ∧ ∃ x', H' = F j x' ++ L) ha (hc x L) ⟨_, _, rfl, x, rfl⟩ fun r' hp' ⟨h1, x', h2⟩ => by subst h1 h2; exact h x'
end
theorem GC.args {I X : Type} {P : Program} {f : FuncId} {l m : List AV} {F : I → X → List (Option Blk)} {i j : I} {r : AV} (hl : ArgLe l m) (h : GC P f m F i r j) : GC P f l F i r j := fun x L => XCall.args hl (h x L)
theorem leH_cat : ∀ (H : List (Option Blk)) {L L' : List (Option Blk)}, leH L L' → leH (H ++ L) (H ++ L')
  | [], _, _, h => h
  | _ :: H, _, _, h => ⟨.inr rfl, leH_cat H h⟩
theorem Le.cat {N : Nat} {tm tm' : List AV} {H L L' : List (Option Blk)} (ht : leT tm tm') (hl : leH L L') : Le ⟨N, tm, H ++ L⟩ ⟨N, tm', H ++ L'⟩ := Le.mk rfl ht (leH_cat H hl)
structure Rt where
  b : Nat
  j : Nat
  m : Nat
  l : Nat × Nat
def sumA (x : Term) : AV := .lit (wn (sumV x))
def rbk (l : Nat × Nat) (j m : Nat) (V U : Value) : Blk := .box l 2 (.st [1, 1] [.own j V, .own m U])
def rtk (V : Value) (ts : List Term) : Blk := .row 78 V 3 (ts.map termA) 0
def rsk (U : Value) (ts : List Term) : Blk := .row 30 U 1 (ts.map sumA) 0
structure RtOk (H : List (Option Blk)) (t : Rt) (V U : Value) (ts : List Term) : Prop where
  bj : t.b ≠ t.j
  bm : t.b ≠ t.m
  jm : t.j ≠ t.m
  hb : H[t.b]? = some (some (rbk t.l t.j t.m V U))
  hj : H[t.j]? = some (some (rtk V ts))
  hm : H[t.m]? = some (some (rsk U ts))
def rtOf (H : List (Option Blk)) (t : Rt) (V U : Value) (ts : List Term) : List (Option Blk) := ((H.set t.b (some (rbk t.l t.j t.m V U))).set t.j (some (rtk V ts))).set t.m (some (rsk U ts))
section
variable {H : List (Option Blk)} {t : Rt} {V U : Value} {ts : List Term}
theorem RtOk.lb (h : RtOk H t V U ts) : t.b < H.length := (List.getElem?_eq_some_iff.1 h.hb).1
theorem RtOk.lj (h : RtOk H t V U ts) : t.j < H.length := (List.getElem?_eq_some_iff.1 h.hj).1
theorem RtOk.lm (h : RtOk H t V U ts) : t.m < H.length := (List.getElem?_eq_some_iff.1 h.hm).1
theorem rtOf_len (H : List (Option Blk)) (t : Rt) (V U : Value) (ts : List Term) : (rtOf H t V U ts).length = H.length := by simp [rtOf]
theorem RtOk.of (h : RtOk H t V U ts) (V' U' : Value) (ts' : List Term) : RtOk (rtOf H t V' U' ts') t V' U' ts' := by
  have h1 := h.lb; have h2 := h.lj; have h3 := h.lm; have h4 := h.bj; have h5 := h.bm; have h6 := h.jm
  exact ⟨h4, h5, h6, by simp [rtOf, h1, h4.symm, h5.symm], by simp [rtOf, h2, h6.symm], by simp [rtOf, h3]⟩
theorem RtOk.of_of (h : RtOk H t V U ts) (V' U' V2 U2 : Value) (ts' ts2 : List Term) : rtOf (rtOf H t V' U' ts') t V2 U2 ts2 = rtOf H t V2 U2 ts2 := by
  unfold rtOf
  rw [List.set_comm _ _ h.bm.symm, List.set_comm _ _ h.bj.symm, List.set_set, List.set_comm _ _ h.jm.symm, List.set_set, List.set_set]
theorem RtOk.self (h : RtOk H t V U ts) : rtOf H t V U ts = H := by
  unfold rtOf
  rw [set_same h.hb, set_same h.hj, set_same h.hm]
theorem RtOk.app (h : RtOk H t V U ts) (R : List (Option Blk)) : RtOk (H ++ R) t V U ts :=
  ⟨h.bj, h.bm, h.jm, by rw [List.getElem?_append_left h.lb]; exact h.hb, by rw [List.getElem?_append_left h.lj]; exact h.hj, by rw [List.getElem?_append_left h.lm]; exact h.hm⟩
theorem RtOk.of_app (h : RtOk H t V U ts) (R : List (Option Blk)) (V' U' : Value) (ts' : List Term) : rtOf (H ++ R) t V' U' ts' = rtOf H t V' U' ts' ++ R := by
  unfold rtOf
  rw [List.set_append_left _ _ h.lb, List.set_append_left _ _ (by simpa using h.lj), List.set_append_left _ _ (by simpa using h.lm)]
theorem RtOk.at (h : RtOk H t V U ts) (V' U' : Value) (ts' : List Term) (L : List (Option Blk)) : RtOk (rtOf H t V' U' ts' ++ L) t V' U' ts' := (h.of V' U' ts').app L
theorem RtOk.at_of (h : RtOk H t V U ts) (V' U' V2 U2 : Value) (ts' ts2 : List Term) (L : List (Option Blk)) : rtOf (rtOf H t V' U' ts' ++ L) t V2 U2 ts2 = rtOf H t V2 U2 ts2 ++ L := by
  rw [(h.of V' U' ts').of_app, h.of_of]
end
def rF (H : List (Option Blk)) (t : Rt) (ts : List Term) (x : Value × Value) : List (Option Blk) := rtOf H t x.1 x.2 ts
theorem GC.ofR {P : Program} {f : FuncId} {vs : List AV} {H : List (Option Blk)} {t : Rt} {V0 U0 : Value} {ts0 ts ts' : List Term} {r : AV} (hh : RtOk H t V0 U0 ts0)
    (h : ∀ H V U, RtOk H t V U ts → XCall P f vs H fun r' H' => r' = r ∧ ∃ V' U', H' = rtOf H t V' U' ts') : GC P f vs (rF H t) ts r ts' := fun x L => by
  refine XCall.mono (h _ x.1 x.2 (hh.at x.1 x.2 ts L)) ?_
  rintro r' H' ⟨h1, V', U', h2⟩
  exact ⟨h1, (V', U'), by unfold rF at *; rw [h2, hh.at_of]⟩
def foundV : Option Nat → Value
  | some n => jn n
  | none => .int .i64 (-1)
set_option maxHeartbeats 8000000 in
theorem find_call {H : List (Option Blk)} {t : Rt} {V U : Value} {ts : List Term} (hh : RtOk H t V U ts) (hok : ∀ y ∈ ts, TermOk y) (hn : ts.length < 100000) (x : Term) (hx : TermOk x) :
    XCall Go.Proofs.Tryz.prog 73 [.ptr t.b t.l 0 [], termA x] H fun r H' => r = .lit (foundV (findT (shapeT x) ts 0)) ∧ H' = H := by
  have h705 := fc705_eq
  refine XCall.le ?_
  have cS := sum_call x hx.kind hx.text hx.keys hx.k32
  have hxs : x.keys.length < 100000 := hx.keys
  have tA : ∀ z : Term, termA z = .st [1, 1, 1] [.lit (jn z.kind), .lit (tx z.text), .sl 32 (klA z.keys)] := fun _ => rfl
  refine XCall.of h705 rfl ?_; show AC.wp _ fb705 ⟨H.length, [.ptr t.b t.l 0 [], termA x] ++ List.replicate (55 - 2) .any, H ++ List.replicate 55 none⟩ (fun x s => match x with | .exit _ => False | _ => ∃ s1, Le s s1 ∧ FinX [(.tmp 4)] s1 _); unfold fb705
  generalize hN : H.length = N at *
  have p1 : ∀ L k, (H ++ L)[N + k]? = L[k]? := fun L k => cat1 N H L k hN
  have p2 : ∀ L k x, (H ++ L).set (N + k) x = H ++ L.set k x := fun L k x => cat2 N H L k x hN
  have pb : ∀ L, (H ++ L)[t.b]? = some (some (.box t.l 2 (.st [1, 1] [.own t.j V, .own t.m U]))) := fun L => by rw [cat4 N H L _ hN (hN ▸ hh.lb)]; exact hh.hb
  have pj : ∀ L, (H ++ L)[t.j]? = some (some (.row 78 V 3 (ts.map termA) 0)) := fun L => by rw [cat4 N H L _ hN (hN ▸ hh.lj)]; exact hh.hj
  have pm : ∀ L, (H ++ L)[t.m]? = some (some (.row 30 U 1 (ts.map sumA) 0)) := fun L => by rw [cat4 N H L _ hN (hN ▸ hh.lm)]; exact hh.hm
  refine wp_sg (areg_bx rfl rfl fun l => areg_end (by simp [push_cast, p2]; exact rfl) ?_)
  refine wp_sg ?_
  refine areg_run 1 (by simp [push_cast, p1, tA]; exact rfl) ?_
  refine areg_ca (by simp [AS.ev, AS.coe, AS.put] <;> exact rfl) cS ?_
  refine areg_end (by simp [push_cast]; exact rfl) ?_
  have fin : ∀ (v : Value) (s : AS) (R : List (Option Blk)), v = foundV (findT (shapeT x) ts 0) → s.ev (.tmp 4) = .lit v → s.hp = H ++ R → ∃ s1, Le s s1 ∧ FinX [RV.tmp 4] s1 fun r H' => ∃ r' A, RelLe r r' ∧ r' ≠ .any ∧ HpLe H' A ∧ r' = .lit (foundV (findT (shapeT x) ts 0)) ∧ A = H := fun v s R h1 h2 h3 =>
    ⟨s, Le.refl _, finX1 (v := .lit v) (by simp [RVal, AS.coe, h2]) (by simp) ⟨_, H, RelLe.refl _, by simp, by rw [h3]; exact HpLe.trim _ _, by rw [h1], rfl⟩⟩
  refine wp_seq' (wp_seq' (wp_r (by simp [push_cast]; exact rfl) (wp_block' (wp_loop_ret ts.length (fun i => ⟨N, [.ptr t.b t.l 0 [], .any, .any, .ptr (N + 3) l 0 [], .any, .lit (wn (sumV x)), .lit (jn i)] ++ List.replicate 48 .any, H ++ ([none, none, none, some (.box l 3 (termA x))] ++ List.replicate 51 none)⟩) (fun i => findT (shapeT x) (ts.drop i) i = findT (shapeT x) ts 0) ?_ rfl ?_))))
  · exact Le.cat (by simp [leT]) (by simp [leH, tA])
  · intro i hi hI
    by_cases hlt : i < ts.length
    · obtain ⟨y, hy⟩ : ∃ y, ts[i]? = some y := ⟨_, List.getElem?_eq_getElem hlt⟩
      have oy := hok y (List.mem_of_getElem? hy)
      have q1 : i + 1 < 9223372036854775808 := by omega
      have hdrop : ts.drop i = y :: ts.drop (i + 1) := by
        rw [List.drop_eq_getElem_cons hlt]
        rw [List.getElem?_eq_getElem hlt] at hy
        rw [Option.some.inj hy]
      rw [hdrop, findT] at hI
      have s1 : (ts.map sumA)[i]? = some (.lit (wn (sumV y))) := by rw [List.getElem?_map, hy]; rfl
      have s2 : ∀ h, (ts.map sumA)[i]'h = .lit (wn (sumV y)) := fun h => by rw [List.getElem?_eq_getElem h] at s1; exact Option.some.inj s1
      have y1 : (ts.map termA)[i]? = some (termA y) := by rw [List.getElem?_map, hy]; rfl
      have y2 : ∀ h, (ts.map termA)[i]'h = termA y := fun h => by rw [List.getElem?_eq_getElem h] at y1; exact Option.some.inj y1
      have hne : x ≠ y → findT (shapeT x) (ts.drop (i + 1)) (i + 1) = findT (shapeT x) ts 0 := fun h => by
        rw [if_neg (fun h2 => h (shape_inj hx oy h2))] at hI; exact hI
      refine wp_seq' (wp_sr (by simp [push_cast, pb, pm, hlt]; exact rfl) (wp_cond_t (by simp [AS.ev]) (wp_skip' ?_)))
      refine wp_seq' (wp_block' (wp_seq' ?_))
      refine wp_seq' (wp_r (by simp [push_cast, pb, pm, hlt, s1, s2]; exact rfl) ?_)
      by_cases hsum : sumV y = sumV x
      · refine wp_cond_f (by simp [AS.ev, hsum]) (wp_skip' ?_)
        have cK := same_call x.keys y.keys hx.k32 oy.k32 (by omega)
        refine wp_sg ?_
        refine areg_run 7 (by simp [push_cast, pb, pj, hlt, y1, y2]; exact rfl) ?_
        refine areg_al' rfl fun l2 => areg_end (by simp [push_cast, p1, p2, tA]; exact rfl) ?_
        refine wp_seq' (wp_rg ?_)
        by_cases hkd : y.kind = x.kind
        · by_cases htx : y.text = x.text
          · refine areg_run 12 (by simp [push_cast, p1, tA, hkd, htx]; exact rfl) ?_
            refine areg_run 5 (by simp [push_cast, p1, tA]; exact rfl) ?_
            refine areg_g (by simp [AS.ev, AS.put]) (areg_lc (by simp [AS.ev, AS.lend, AS.lendF, AS.put, AOp.ro, AS.blk] <;> exact rfl) rfl cK ?_)
            by_cases hks : x.keys = y.keys
            · have hxy : x = y := by
                obtain ⟨a1, a2, a3⟩ := x
                obtain ⟨b1, b2, b3⟩ := y
                simp only at hkd htx hks
                subst hkd htx hks
                rfl
              rw [if_pos (by rw [hxy])] at hI
              refine areg_end (by simp [push_cast, hks]; exact rfl) ?_
              refine wp_cond_t (by simp [AS.ev, AS.put, hks]) ?_
              refine wp_sr (by simp [push_cast]; exact rfl) (wp_ret' ?_)
              exact fin (jn i) _ _ (by rw [← hI]; rfl) rfl rfl
            · refine areg_end (by simp [push_cast, hks]; exact rfl) ?_
              refine wp_cond_f (by simp [AS.ev, AS.put, hks]) (wp_skip' ?_)
              refine wp_r (by simp [push_cast, q1]; exact rfl) ?_
              exact ⟨hlt, hne (fun h => hks (by rw [h])), Le.cat (by simp [leT]) (by simp [leH, tA])⟩
          · refine areg_run 12 (by simp [push_cast, p1, tA, hkd, htx]; exact rfl) ?_
            refine areg_run 4 (by simp [push_cast]; exact rfl) ?_
            refine areg_end (by simp [push_cast]; exact rfl) ?_
            refine wp_cond_f (by simp [AS.ev, AS.put, htx]) (wp_skip' ?_)
            refine wp_r (by simp [push_cast, q1]; exact rfl) ?_
            exact ⟨hlt, hne (fun h => htx (by rw [h])), Le.cat (by simp [leT]) (by simp [leH, tA])⟩
        · refine areg_run 12 (by simp [push_cast, p1, tA, hkd]; exact rfl) ?_
          refine areg_run 4 (by simp [push_cast]; exact rfl) ?_
          refine areg_end (by simp [push_cast]; exact rfl) ?_
          refine wp_cond_f (by simp [AS.ev, AS.put, hkd]) (wp_skip' ?_)
          refine wp_r (by simp [push_cast, q1]; exact rfl) ?_
          exact ⟨hlt, hne (fun h => hkd (by rw [h])), Le.cat (by simp [leT]) (by simp [leH, tA])⟩
      · refine wp_cond_t (by simp [AS.ev, hsum]) (wp_exit' (if_hit rfl ?_))
        refine wp_r (by simp [push_cast, q1]; exact rfl) ?_
        exact ⟨hlt, hne (fun h => hsum (by rw [h])), Le.cat (by simp [leT]) (by simp [leH, tA])⟩
    · have : i = ts.length := by omega
      subst this
      rw [List.drop_length, findT] at hI
      refine wp_seq' (wp_sr (by simp [push_cast, pb, pm]; exact rfl) (wp_cond_f (by simp [AS.ev]) (wp_exit' (if_hit rfl ?_))))
      refine wp_sr (by simp [push_cast]; exact rfl) (wp_ret' ?_)
      exact fin _ _ _ (by rw [← hI]; rfl) rfl rfl
theorem Le.hp {s : AS} {tm' : List AV} {hp' : List (Option Blk)} (h : HpLe s.hp hp') (ht : leT s.tm tm') : Le s ⟨s.nr, tm', hp'⟩ := fun w0 wk regs St a w hs => by
  obtain ⟨Imm, h1, h2, h3⟩ := hs.ex
  obtain ⟨hl, hg⟩ := leT_get ht
  refine ⟨hs.defers, by rw [hs.tsize, hl], hs.tab, hs.frame, Imm, h1, fun t v hv => ?_, h _ _ _ _ h3⟩
  rcases hg t v hv with e | e
  · exact .inl e
  · exact h2 t v e
theorem HpLe.back {N : Nat} {G Lo : List (Option Blk)} {b j d : Nat} {X X' Y : Blk} (hN : G.length = N) (hbj : b ≠ j) (hb : b < N) (hj : j < N) (hX : G[b]? = some (some X)) (hle : BlkLe X X') (hd : Lo[d]? = some (some Y)) :
    HpLe (G ++ Lo) (((G.set b (some X')).set j (some Y)) ++ Lo.set d none) := by
  have hG : ((G.set b (some X')).set j (some Y)).length = N := by simp [hN]
  have key : ∀ (k : Nat) (x : Blk), (((((G.set b (some X')).set j (some Y)) ++ Lo.set d none))[k]?).join = some x → (k = j ∧ x = Y) ∨ (k = b ∧ x = X') ∨ (k ≠ j ∧ k ≠ b ∧ k ≠ N + d ∧ ((G ++ Lo)[k]?).join = some x) := fun k x hx => by
    by_cases hk : k < N
    · rw [List.getElem?_append_left (by omega)] at hx
      by_cases h1 : j = k
      · subst h1
        rw [List.getElem?_set_self (by simp; omega)] at hx
        exact .inl ⟨rfl, (Option.some.inj hx).symm⟩
      · rw [List.getElem?_set_ne h1] at hx
        by_cases h2 : b = k
        · subst h2
          rw [List.getElem?_set_self (by omega)] at hx
          exact .inr (.inl ⟨rfl, (Option.some.inj hx).symm⟩)
        · rw [List.getElem?_set_ne h2] at hx
          exact .inr (.inr ⟨fun h => h1 h.symm, fun h => h2 h.symm, by omega, by rw [List.getElem?_append_left (by omega)]; exact hx⟩)
    · rw [List.getElem?_append_right (by omega), hG] at hx
      by_cases h3 : d = k - N
      · subst h3
        rw [List.getElem?_set] at hx
        simp only [if_true] at hx
        split at hx <;> simp at hx
      · rw [List.getElem?_set_ne h3] at hx
        exact .inr (.inr ⟨by omega, by omega, by omega, by rw [List.getElem?_append_right (by omega), hN]; exact hx⟩)
  refine HpLe.gen (fun k => if k = j then N + d else k) (fun k k' x y hx hy e => ?_) (fun k x hx => ?_)
  · try simp only at e
    rcases key k x hx with ⟨h1, _⟩ | ⟨h1, _⟩ | ⟨h1, _, h2, _⟩ <;> rcases key k' y hy with ⟨g1, _⟩ | ⟨g1, _⟩ | ⟨g1, _, g2, _⟩ <;> (try split at e) <;> (try split at e) <;> omega
  · rcases key k x hx with ⟨rfl, rfl⟩ | ⟨rfl, rfl⟩ | ⟨h1, h2, _, h3⟩
    · rw [if_pos rfl]
      exact ⟨_, by rw [List.getElem?_append_right (by omega), hN, Nat.add_sub_cancel_left, hd]; rfl, BlkLe.refl _⟩
    · rw [if_neg hbj]
      exact ⟨X, by rw [List.getElem?_append_left (by omega), hX]; rfl, hle⟩
    · rw [if_neg h1]
      exact ⟨x, h3, BlkLe.refl _⟩
set_option maxHeartbeats 16000000 in
theorem add_call {H : List (Option Blk)} {t : Rt} {V U : Value} {ts : List Term} (hh : RtOk H t V U ts) (hn : ts.length < 100000) (x : Term) (hx : TermOk x) :
    XCall Go.Proofs.Tryz.prog 29 [.ptr t.b t.l 0 [], termA x] H fun r H' => r = .tup [] ∧ ∃ V' U', H' = rtOf H t V' U' (ts ++ [x]) := by
  have h700 := fc700_eq
  refine XCall.le ?_
  have cS := sum_call x hx.kind hx.text hx.keys hx.k32
  have tA : ∀ z : Term, termA z = .st [1, 1, 1] [.lit (jn z.kind), .lit (tx z.text), .sl 32 (klA z.keys)] := fun _ => rfl
  have lb := hh.lb; have lj := hh.lj; have lm := hh.lm
  have n1 := hh.bj; have n2 := hh.bm; have n3 := hh.jm
  have n1' := n1.symm; have n2' := n2.symm; have n3' := n3.symm
  have gb := hh.hb; have gj := hh.hj; have gm := hh.hm
  unfold rbk at gb
  unfold rtk at gj
  unfold rsk at gm
  have bd1 : (ts.map termA).length + 1 ≤ maxLen := by rw [List.length_map]; simp [maxLen]; omega
  have bd2 : ((ts.map termA).length + 1) * 48 ≤ 140737488355328 := by rw [List.length_map]; omega
  have bd3 : (ts.map sumA).length + 1 ≤ maxLen := by rw [List.length_map]; simp [maxLen]; omega
  have bd4 : ((ts.map sumA).length + 1) * 4 ≤ 140737488355328 := by rw [List.length_map]; omega
  refine XCall.of h700 rfl ?_; show AC.wp _ fb700 ⟨H.length, [.ptr t.b t.l 0 [], termA x] ++ List.replicate (25 - 2) .any, H ++ List.replicate 25 none⟩ (fun x s => match x with | .exit _ => False | _ => ∃ s1, Le s s1 ∧ FinX [] s1 _); unfold fb700
  generalize hN : H.length = N at *
  have p1 : ∀ L k, (H ++ L)[N + k]? = L[k]? := fun L k => cat1 N H L k hN
  have p2 : ∀ L k x, (H ++ L).set (N + k) x = H ++ L.set k x := fun L k x => cat2 N H L k x hN
  have pb : ∀ L, (H ++ L)[t.b]? = some (some (.box t.l 2 (.st [1, 1] [.own t.j V, .own t.m U]))) := fun L => by rw [cat4 N H L _ hN lb]; exact gb
  have pj : ∀ L, (H ++ L)[t.j]? = some (some (.row 78 V 3 (ts.map termA) 0)) := fun L => by rw [cat4 N H L _ hN lj]; exact gj
  have psj : ∀ L x, (H ++ L).set t.j x = H.set t.j x ++ L := fun L x => cat3 N H L _ x hN lj
  refine wp_sg (areg_bx rfl rfl fun l => areg_end (by simp [push_cast, p2]; exact rfl) ?_)
  refine wp_sgL ?_
  refine areg_run 7 (by simp [push_cast, p1, pb, tA]; exact rfl) ?_
  refine areg_ap (b := t.j) (V := V) (ys := [termA x]) rfl (by simp only [AS.blk, pj]; rfl) (by simp [AS.ev, AS.coe, tA]) bd1 bd2 (fun V' => ?_) (by
    intro t' ht' b hb
    cases ht')
  have hG1 : ∀ x, (H.set t.j x).length = N := fun x => by rw [List.length_set]; exact hN
  have q2 : ∀ x L k y, (H.set t.j x ++ L).set (N + k) y = H.set t.j x ++ L.set k y := fun x L k y => cat2 N _ L k y (hG1 x)
  have qb : ∀ x L, (H.set t.j x ++ L)[t.b]? = some (some (.box t.l 2 (.st [1, 1] [.own t.j V, .own t.m U]))) := fun x L => by
    rw [cat4 N _ L _ (hG1 x) lb, List.getElem?_set_ne n1']; exact gb
  have qsb : ∀ x L y, (H.set t.j x ++ L).set t.b y = (H.set t.j x).set t.b y ++ L := fun x L y => cat3 N _ L _ _ (hG1 x) lb
  refine areg_end (by simp [push_cast, psj, q2, qb, qsb]; exact rfl) ?_
  obtain ⟨H1, hH1⟩ : ∃ H1, H1 = (H.set t.b (some (rbk t.l t.j t.m V' U))).set t.j (some (rtk V' (ts ++ [x]))) := ⟨_, rfl⟩
  have hN1 : H1.length = N := by rw [hH1]; simp [hN]
  refine ⟨⟨N, [.ptr t.b t.l 0 [], .any, .any, .ptr (N + 3) l 0 []] ++ List.replicate 21 .any, H1 ++ ([none, none, none, some (.box l 3 (termA x))] ++ List.replicate 21 none)⟩, ?_, ?_⟩
  · have hb := HpLe.back (N := N) (G := (H.set t.j none).set t.b (some (.box t.l 2 (.st [1, 1] [.own (N + 11) V', .own t.m U])))) (b := t.b) (j := t.j) (d := 11) (X := .box t.l 2 (.st [1, 1] [.own (N + 11) V', .own t.m U])) (X' := rbk t.l t.j t.m V' U) (Y := rtk V' (ts ++ [x]))
      (Lo := [none, none, none, some (.box l 3 (termA x)), none, none, none, none, none, none, none, some (rtk V' (ts ++ [x])), none, none, none, none, none, none, none, none, none, none, none, none, none]) (by simp [hN]) n1 lb lj (by rw [List.getElem?_set_self (by rw [hG1]; exact lb)]) (BlkLe.box (AVle.st1 (AVle.own _ _ _) (AVle.refl _))) rfl
    have e : ((((H.set t.j none).set t.b (some (.box t.l 2 (.st [1, 1] [.own (N + 11) V', .own t.m U])))).set t.b (some (rbk t.l t.j t.m V' U))).set t.j (some (rtk V' (ts ++ [x])))) = H1 := by
      rw [hH1, List.set_set, List.set_comm _ _ n1', List.set_set]
    rw [e] at hb
    have e2 : (ts ++ [x]).map termA = ts.map termA ++ [termA x] := by simp
    unfold rtk at hb
    rw [e2] at hb
    exact Le.hp hb (by simp [leT])
  · have r1 : ∀ L k, (H1 ++ L)[N + k]? = L[k]? := fun L k => cat1 N H1 L k hN1
    have r2 : ∀ L k x, (H1 ++ L).set (N + k) x = H1 ++ L.set k x := fun L k x => cat2 N H1 L k x hN1
    have rb0 : H1[t.b]? = some (some (.box t.l 2 (.st [1, 1] [.own t.j V', .own t.m U]))) := by rw [hH1, List.getElem?_set_ne n1', List.getElem?_set_self (by omega)]; rfl
    have rm0 : H1[t.m]? = some (some (.row 30 U 1 (ts.map sumA) 0)) := by rw [hH1, List.getElem?_set_ne n3, List.getElem?_set_ne n2]; exact gm
    have rb : ∀ L, (H1 ++ L)[t.b]? = some (some (.box t.l 2 (.st [1, 1] [.own t.j V', .own t.m U]))) := fun L => by rw [cat4 N H1 L _ hN1 lb]; exact rb0
    have rm : ∀ L, (H1 ++ L)[t.m]? = some (some (.row 30 U 1 (ts.map sumA) 0)) := fun L => by rw [cat4 N H1 L _ hN1 lm]; exact rm0
    have rsm : ∀ L x, (H1 ++ L).set t.m x = H1.set t.m x ++ L := fun L x => cat3 N H1 L _ x hN1 lm
    refine wp_rg ?_
    refine areg_run 6 (by simp [push_cast, r1, rb, tA]; exact rfl) ?_
    refine areg_cv (by simp [AS.ev, AS.coe, AS.put] <;> exact rfl) cS ?_
    refine areg_run 1 (by simp [push_cast]; exact rfl) ?_
    refine areg_ap (b := t.m) (V := U) (ys := [sumA x]) rfl (by simp only [AS.blk, AS.put, rm]; rfl) (by simp [AS.ev, AS.coe, sumA]) bd3 bd4 (fun U' => ?_) (by
      intro t' ht' b hb
      cases ht')
    have hG2 : ∀ x, (H1.set t.m x).length = N := fun x => by rw [List.length_set]; exact hN1
    have u2 : ∀ x L k y, (H1.set t.m x ++ L).set (N + k) y = H1.set t.m x ++ L.set k y := fun x L k y => cat2 N _ L k y (hG2 x)
    have ub : ∀ x L, (H1.set t.m x ++ L)[t.b]? = some (some (.box t.l 2 (.st [1, 1] [.own t.j V', .own t.m U]))) := fun x L => by
      rw [cat4 N _ L _ (hG2 x) lb, List.getElem?_set_ne n2']; exact rb0
    have usb : ∀ x L y, (H1.set t.m x ++ L).set t.b y = (H1.set t.m x).set t.b y ++ L := fun x L y => cat3 N _ L _ _ (hG2 x) lb
    refine areg_end (by simp [push_cast, rsm, u2, ub, usb]; exact rfl) ?_
    have hb := HpLe.back (N := N) (G := (H1.set t.m none).set t.b (some (.box t.l 2 (.st [1, 1] [.own t.j V', .own (N + 22) U'])))) (b := t.b) (j := t.m) (d := 22) (X := .box t.l 2 (.st [1, 1] [.own t.j V', .own (N + 22) U'])) (X' := rbk t.l t.j t.m V' U') (Y := rsk U' (ts ++ [x]))
      (Lo := [none, none, none, some (.box l 3 (termA x)), none, none, none, none, none, none, none, none, none, none, none, none, none, none, none, none, none, none, some (rsk U' (ts ++ [x])), none, none]) (by simp [hN1]) n2 lb lm (by rw [List.getElem?_set_self (by rw [hG2]; exact lb)]) (BlkLe.box (AVle.st1 (AVle.refl _) (AVle.st1 (AVle.own _ _ _) AVle.st0))) rfl
    have e : ((((H1.set t.m none).set t.b (some (.box t.l 2 (.st [1, 1] [.own t.j V', .own (N + 22) U'])))).set t.b (some (rbk t.l t.j t.m V' U'))).set t.m (some (rsk U' (ts ++ [x])))) = rtOf H t V' U' (ts ++ [x]) := by
      rw [List.set_set, List.set_comm _ _ n2', List.set_set, hH1, List.set_comm _ _ n1', List.set_set]
      rfl
    rw [e] at hb
    have e2 : (ts ++ [x]).map sumA = ts.map sumA ++ [sumA x] := by simp
    unfold rsk at hb
    rw [e2] at hb
    exact ⟨_, Le.refl _, [], .tup [], ⟨[], rfl, rfl, by simp⟩, .tup [], _, RelLe.refl _, by simp, HpLe.trans hb (HpLe.trim _ _), rfl, V', U', rfl⟩
theorem find_gk {H : List (Option Blk)} {t : Rt} {V0 U0 : Value} {ts0 ts : List Term} (hh : RtOk H t V0 U0 ts0) (hok : ∀ y ∈ ts, TermOk y) (hn : ts.length < 100000) (x : Term) (hx : TermOk x) :
    GC Go.Proofs.Tryz.prog 73 [.ptr t.b t.l 0 [], termA x] (rF H t) ts (.lit (foundV (findT (shapeT x) ts 0))) ts := GC.ofR hh fun H V U h => by
  refine XCall.mono (find_call h hok hn x hx) ?_
  rintro r H' ⟨h1, h2⟩
  exact ⟨h1, V, U, by rw [h2, h.self]⟩
theorem add_gk {H : List (Option Blk)} {t : Rt} {V0 U0 : Value} {ts0 ts : List Term} (hh : RtOk H t V0 U0 ts0) (hn : ts.length < 100000) (x : Term) (hx : TermOk x) :
    GC Go.Proofs.Tryz.prog 29 [.ptr t.b t.l 0 [], termA x] (rF H t) ts (.tup []) (ts ++ [x]) := GC.ofR hh fun H V U h => add_call h hn x hx
set_option maxHeartbeats 16000000 in
theorem make_call {H : List (Option Blk)} {t : Rt} {V U : Value} {ts : List Term} (hh : RtOk H t V U ts) (hok : ∀ y ∈ ts, TermOk y) (hn : ts.length < 100000) (x : Term) (hx : TermOk x) :
    XCall Go.Proofs.Tryz.prog 56 [.ptr t.b t.l 0 [], .lit (jn x.kind), .lit (tx x.text), .sl 32 (klA x.keys)] H fun r H' => r = keyA (nameK (putN ts x)) ∧ ∃ V' U', H' = rtOf H t V' U' (putT ts x) := by
  have h706 := fc706_eq
  refine XCall.le ?_
  have hself := hh.self
  have tA : ∀ z : Term, termA z = .st [1, 1, 1] [.lit (jn z.kind), .lit (tx z.text), .sl 32 (klA z.keys)] := fun _ => rfl
  have cF := find_gk hh hok hn x hx
  have cA := add_gk hh hn x hx
  have G1 : ∀ i y, (rF H t i y).length = H.length := fun i y => rtOf_len _ _ _ _ _
  have hxk : x.keys.length < 100000 := hx.keys
  have kl0 : (klA x.keys).length = x.keys.length := klA_len _
  refine XCall.of h706 rfl ?_; show AC.wp _ fb706 ⟨H.length, [.ptr t.b t.l 0 [], .lit (jn x.kind), .lit (tx x.text), .sl 32 (klA x.keys)] ++ List.replicate (33 - 4) .any, H ++ List.replicate 33 none⟩ (fun x s => match x with | .exit _ => False | _ => ∃ s1, Le s s1 ∧ FinX [(.cell 8 .true 32)] s1 _); unfold fb706
  have hst : ∀ L, H ++ L = rF H t ts (V, U) ++ L := fun L => by unfold rF; rw [hself]
  rw [hst]
  generalize hN : H.length = N at *
  have g1 : ∀ i y L k, (rF H t i y ++ L)[N + k]? = L[k]? := fun i y L k => cat1 N _ L k (G1 i y)
  have g2 : ∀ i y L k z, (rF H t i y ++ L).set (N + k) z = rF H t i y ++ L.set k z := fun i y L k z => cat2 N _ L k z (G1 i y)
  refine wp_sg (areg_al' zk_eq.symm fun l => areg_end (by simp [push_cast, g2]; exact rfl) ?_)
  refine wp_sgL ?_
  refine areg_run 2 (by simp [push_cast]; exact rfl) ?_
  refine areg_bown (vs := []) (els := []) rfl rfl (by intro t' ht' b hb; cases ht') fun V1 => ?_
  refine areg_run 1 (by simp [push_cast, g2]; exact rfl) ?_
  refine areg_ap (b := N + 13) (V := V1) (ys := klA x.keys) rfl (by simp only [AS.blk, g1]; rfl) (by simp [AS.ev, AS.coe, AS.put]) (by simp [kl0, maxLen]; omega) (by simp [kl0]; omega) (fun V2 => ?_) (by intro t' ht' b hb; cases ht')
  refine areg_run 0 (by simp [push_cast, g2]; exact rfl) ?_
  refine areg_run 1 (by simp [push_cast]; exact rfl) ?_
  refine areg_al' rfl fun l9 => areg_end (by simp [push_cast, g1, g2]; exact rfl) ?_
  refine ⟨⟨N, [.ptr t.b t.l 0 [], .lit (jn x.kind), .lit (tx x.text), .sl 32 (klA x.keys), .any, .any, .any, .any, .ptr (N + 8) l 0 [], .ptr (N + 9) l9 0 []] ++ List.replicate 23 .any, rF H t ts (V, U) ++ ([none, none, none, none, none, none, none, none, some (.box l 32 (keyA zk)), some (.box l9 3 (termA x))] ++ List.replicate 23 none)⟩, Le.trans (Le.sealedF (b := N + 9) (j := N + 15) (i := 2) (e := 23) (esz := 32) (sl := 0) (n := 3) (l := l9) (ns := [1, 1, 1]) (fs := [.lit (jn x.kind), .lit (tx x.text), .own (N + 15) V2]) (els := klA x.keys) (V := V2) (by simp only [AS.blk, g1]; rfl) rfl (by simp only [AS.blk, g1]; rfl)) ?_, ?_⟩
  · simp only [g2]
    exact Le.cat (by simp [leT]) (by simp [leH, tA, keyA])
  have fin : ∀ (n : Nat) (y : Value × Value) (s : AS) (R : List (Option Blk)) (ts' : List Term), ts' = putT ts x → n = putN ts x → RVal s (.cell 8 true 32) = some (keyA (nameK n)) → s.hp = rF H t ts' y ++ R → ∃ s1, Le s s1 ∧ FinX [RV.cell 8 true 32] s1 fun r H_1 => ∃ r' A, RelLe r r' ∧ r' ≠ AV.any ∧ HpLe H_1 A ∧ r' = keyA (nameK (putN ts x)) ∧ ∃ V' U', A = rtOf H t V' U' (putT ts x) := fun n y s R ts' e1 e2 hr hp => by
    subst e1 e2
    exact ⟨s, Le.refl _, [], _, ⟨hr, by simp [keyA]⟩, _, _, RelLe.refl _, by simp [keyA], by rw [show (s.seals []).hp = s.hp from rfl, hp]; exact HpLe.trim _ _, rfl, y.1, y.2, rfl⟩
  refine wp_sg ?_
  refine areg_run 2 (by simp [push_cast, g1, tA]; exact rfl) ?_
  refine areg_gi cF (by simp [AS.ev, AS.put, tA]) fun y => areg_end (by simp [push_cast]; exact rfl) ?_
  unfold putT putN at *
  cases hf : findT (shapeT x) ts 0 with
  | some n =>
    have hnlt := (findT_lt hf).2
    rw [hf] at fin
    simp only [foundV]
    have c3 := nameR_call n (by omega)
    refine wp_seq' (wp_seq' (wp_r (by simp [push_cast]; exact rfl) (wp_cond_f rfl (wp_skip' ?_))))
    refine wp_sg ?_
    refine areg_run 1 (by simp [push_cast]; exact rfl) ?_
    refine areg_ca (by simp [AS.ev, AS.coe, AS.put] <;> exact rfl) c3 ?_
    refine areg_end (by simp [push_cast, g1, g2, nameK_len, zk_len]; exact rfl) (wp_ret' ?_)
    exact fin n y _ _ ts rfl rfl (by simp [RVal, AS.ev, AS.peek, AS.blk, g1, Blk.loc, Blk.cont, Blk.n, AV.nav, AV.isAgg, AV.isTup]; rfl) rfl
  | none =>
    rw [hf] at fin
    simp only [foundV]
    have c3 := nameR_call ts.length (by omega)
    refine wp_seq' (wp_seq' (wp_r (by simp [push_cast, bin_lssm]; exact rfl) (wp_cond_t rfl ?_)))
    refine wp_sg ?_
    refine areg_run 2 (by simp [push_cast, g1, tA]; exact rfl) ?_
    refine areg_gi cA (by simp [AS.ev, AS.put, tA]) fun y2 => areg_end (by simp [push_cast]; exact rfl) ?_
    have rb : ∀ L, (rF H t (ts ++ [x]) y2 ++ L)[t.b]? = some (some (.box t.l 2 (.st [1, 1] [.own t.j y2.1, .own t.m y2.2]))) := fun L => by rw [cat4 N _ L _ (G1 _ _) (hN ▸ hh.lb)]; exact (hh.of y2.1 y2.2 (ts ++ [x])).hb
    have rj : ∀ L, (rF H t (ts ++ [x]) y2 ++ L)[t.j]? = some (some (.row 78 y2.1 3 ((ts ++ [x]).map termA) 0)) := fun L => by rw [cat4 N _ L _ (G1 _ _) (hN ▸ hh.lj)]; exact (hh.of y2.1 y2.2 (ts ++ [x])).hj
    have q2 : ts.length + 1 < 9223372036854775808 := by omega
    refine wp_r (by simp [push_cast, rb, rj, q2]; exact rfl) ?_
    refine wp_sg ?_
    refine areg_run 1 (by simp [push_cast]; exact rfl) ?_
    refine areg_ca (by simp [AS.ev, AS.coe, AS.put] <;> exact rfl) c3 ?_
    refine areg_end (by simp [push_cast, g1, g2, nameK_len, zk_len]; exact rfl) (wp_ret' ?_)
    exact fin ts.length y2 _ _ (ts ++ [x]) rfl rfl (by simp [RVal, AS.ev, AS.peek, AS.blk, g1, Blk.loc, Blk.cont, Blk.n, AV.nav, AV.isAgg, AV.isTup]; rfl) rfl
theorem make_gk {H : List (Option Blk)} {t : Rt} {V0 U0 : Value} {ts0 ts : List Term} (hh : RtOk H t V0 U0 ts0) (hok : ∀ y ∈ ts, TermOk y) (hn : ts.length < 100000) (x : Term) (hx : TermOk x) :
    GC Go.Proofs.Tryz.prog 56 [.ptr t.b t.l 0 [], .lit (jn x.kind), .lit (tx x.text), .sl 32 (klA x.keys)] (rF H t) ts (keyA (nameK (putN ts x))) (putT ts x) := GC.ofR hh fun H V U h => make_call h hok hn x hx
end Go.Cab
namespace Go.Cab
open Go.RowKit
open Classical
def fb518 : AC := (.seq (.reg [⟨some 4, none, .box 529 (.tmp 1), [], none⟩, ⟨some 6, none, .alloc 529 (.st [528, 1] [(.arr 66 (List.replicate 8 (.st [1, 1, 32, 32] [(.lit (.bool false)), (.lit (.bool false)), (.arr 1 (List.replicate 32 (.lit (bn 0)))), (.arr 1 (List.replicate 32 (.lit (bn 0))))]))), (.lit (.slice .none 0 0))]), [], none⟩, ⟨some 7, none, .alloc 32 (.arr 1 (List.replicate 32 (.lit (bn 0)))), [], none⟩, ⟨some 8, none, .mov (.const (jn 0)), [], none⟩]) (.seq (.seq (.reg [⟨some 11, none, .mov (.tmp 2), [], none⟩, ⟨some 12, none, .faddr 0 0 (.tmp 4), [], none⟩, ⟨some 13, none, .iaddrA 8 66 (.tmp 12) (.tmp 11), [], none⟩, ⟨some 14, none, .faddr 0 0 (.tmp 13), [], none⟩, ⟨some 15, none, .load false 1 (.tmp 14), [], none⟩, ⟨some 16, none, .un .not (.tmp 15), [], none⟩]) (.cond (.tmp 16) (.seq (.reg [⟨some 17, none, .build (.st [528, 1] [(.arr 66 (List.replicate 8 (.st [1, 1, 32, 32] [(.lit (.bool false)), (.lit (.bool false)), (.arr 1 (List.replicate 32 (.lit (bn 0)))), (.arr 1 (List.replicate 32 (.lit (bn 0))))]))), (.lit (.slice .none 0 0))]) [], [], none⟩, ⟨some 18, none, .build (.arr 1 (List.replicate 32 (.lit (bn 0)))) [], [], none⟩, ⟨none, none, .store 529 (.tmp 6) (.tmp 17), [], none⟩, ⟨none, none, .store 32 (.tmp 7) (.tmp 18), [], none⟩, ⟨some 8, none, .mov (.const (jn 18)), [], none⟩]) .ret) .skip)) (.seq (.reg [⟨some 20, none, .mov (.tmp 0), [], none⟩, ⟨some 21, none, .mov (.tmp 2), [], none⟩, ⟨some 22, none, .faddr 0 0 (.tmp 4), [], none⟩, ⟨some 23, none, .iaddrA 8 66 (.tmp 22) (.tmp 21), [], none⟩, ⟨some 24, none, .faddr 34 3 (.tmp 23), [], none⟩, ⟨some 25, none, .load true 32 (.tmp 24), [], none⟩, ⟨some 26, none, .bslice 32 (.arr 1 (List.replicate 32 (.lit (bn 0)))) 1 [(0, (.tmp 25))], [], none⟩, ⟨some 27, none, .xc (.dir 14) [(.tmp 20), (.const (tx [115, 97, 121])), (.tmp 26)] [] [], [], none⟩, ⟨some 19, none, .mov (.tmp 27), [], none⟩, ⟨some 28, none, .ext (.tmp 19) 0, [], none⟩, ⟨some 29, none, .ext (.tmp 19) 1, [], none⟩, ⟨some 9, none, .alloc 32 (.arr 1 (List.replicate 32 (.lit (bn 0)))), [], none⟩, ⟨some 10, none, .alloc 32 (.arr 1 (List.replicate 32 (.lit (bn 0)))), [], none⟩, ⟨none, none, .store 32 (.tmp 9) (.tmp 28), [], none⟩, ⟨none, none, .store 32 (.tmp 10) (.tmp 29), [], none⟩]) (.seq (.reg [⟨some 30, none, .mov (.tmp 2), [], none⟩, ⟨some 31, none, .load true 32 (.tmp 10), [], none⟩, ⟨some 32, none, .faddr 528 1 (.tmp 4), [], none⟩, ⟨some 33, none, .load false 1 (.tmp 32), [], none⟩, ⟨some 34, none, .callv 44 [.tmp 33], [], none⟩, ⟨some 35, none, .faddr 0 0 (.tmp 4), [], none⟩, ⟨some 36, none, .iaddrA 8 66 (.tmp 35) (.tmp 30), [], none⟩, ⟨some 37, none, .faddr 34 3 (.tmp 36), [], none⟩, ⟨none, none, .store 32 (.tmp 37) (.tmp 31), [], none⟩, ⟨some 38, none, .faddr 528 1 (.tmp 4), [], none⟩, ⟨none, none, .store 1 (.tmp 38) (.tmp 34), [], none⟩]) (.seq (.reg [⟨some 39, none, .load true 529 (.tmp 4), [], none⟩, ⟨some 40, none, .load true 32 (.tmp 9), [6], .none⟩, ⟨none, none, .store 529 (.tmp 6) (.tmp 39), [], (.some 6)⟩, ⟨none, none, .store 32 (.tmp 7) (.tmp 40), [], none⟩, ⟨some 8, none, .mov (.const (jn 0)), [], none⟩]) .ret)))))
def fc518 : FC := ⟨3, 41, [(.cell 6 .true 529), (.cell 7 .true 32), (.tmp 8)], fb518⟩
theorem fc518_eq : compF Go.Proofs.Tryz.prog 25 = some fc518 := by kernel_rfl
theorem RelLe.tup {l m : List AV} (h : AVle (.tup l) (.tup m)) : RelLe (.tup l) (.tup m) := fun Imm w V hr => by
  rcases hr with hr | ⟨cs, hr, e⟩
  · cases hr
  · exact .inr ⟨cs, h _ _ _ hr, e⟩
theorem AVle.tupSt {ns : List Nat} {fs fs' vs vs' : List AV} (h : AVle (.st ns fs) (.st ns fs')) (k : AVle (.tup vs) (.tup vs')) : AVle (.tup (.st ns fs :: vs)) (.tup (.st ns fs' :: vs')) := fun Imm w cs hr => by
  cases hr with
  | tup1 _ _ c d h1 h2 => exact .tup1 (.st ns fs') vs' c d (h _ _ _ h1) (k _ _ _ h2)
theorem AVle.tupC {v : AV} {vs vs' : List AV} (k : AVle (.tup vs) (.tup vs')) : AVle (.tup (v :: vs)) (.tup (v :: vs')) := fun Imm w cs hr => by
  cases hr with
  | tup1 _ _ c d h1 h2 => exact .tup1 v vs' c d h1 (k _ _ _ h2)
theorem KC.args {P : Program} {f : FuncId} {vs vs' : List AV} {H : List (Option Blk)} {t : Tb} {ts ts' : List Term} {r : AV} (hl : ArgLe vs vs') (h : KC P f vs' H t ts r ts') : KC P f vs H t ts r ts' := fun V L => XCall.args hl (h V L)
def txSay : List UInt8 := [115, 97, 121]
theorem txSay_len : txSay.length = 3 := rfl
theorem tx_say : Value.string ⟨⟨[115, 97, 121]⟩⟩ = tx txSay := rfl
def ksA (A ws : List AV) : AV := .st [528, 1] [.arr 66 A, .sl 65 ws]
def ks0 : AV := .st [528, 1] [.arr 66 [r0A, r0A, r0A, r0A, r0A, r0A, r0A, r0A], .lit (.slice none 0 0)]
theorem ks0_le : AVle ks0 (ksA [r0A, r0A, r0A, r0A, r0A, r0A, r0A, r0A] []) := AVle.st1 (AVle.refl _) (AVle.st1 (AVle.nilS 65) AVle.st0)
theorem two_k {H : List (Option Blk)} {t : Tb} {V0 : Value} {ts0 ts : List Term} (hh : TbOk H t V0 ts0) (hn : ts.length + 1 < 100000) {s : List UInt8} (hs : s.length < 90000) {ks : List (List UInt8)} (hk : ks.length < 100000) (h32 : ∀ k ∈ ks, k.length = 32) :
    KC Go.Proofs.Tryz.prog 14 [freeI t.b t.l, .lit (tx s), .sl 32 (klA ks)] H t ts (.tup [keyA (twoV ts s ks).1.1, keyA (twoV ts s ks).1.2]) (twoV ts s ks).2 := KC.of hh fun H V h => two_call h hn hs hk h32
def nextV (ts : List Term) (c : List UInt8) : (List UInt8 × List UInt8) × List Term := twoV ts txSay [c]
theorem tgt_two (x y z : AV) : tgtA Go.Proofs.Tryz.prog (.dir 14) [x, y, z] = some (14, [x, y, z]) := by kernel_rfl
set_option maxHeartbeats 16000000 in
theorem next_call {H : List (Option Blk)} {t : Tb} {V : Value} {ts : List Term} (hh : TbOk H t V ts) (hn : ts.length + 1 < 100000) {A ws : List AV} {w : Nat} (hA : A.length = 8) {op : Bool} {k c : List UInt8} (hk : k.length = 32) (hc : c.length = 32)
    (hw : A[w]? = some (.st [1, 1, 32, 32] [.lit (.bool true), .lit (.bool op), keyA k, keyA c])) (hws : ws.length < 100000) :
    XCall Go.Proofs.Tryz.prog 25 [freeI t.b t.l, ksA A ws, .lit (jn w)] H fun r H' => r = .tup [ksA (A.set w (.st [1, 1, 32, 32] [.lit (.bool true), .lit (.bool op), keyA k, keyA (nextV ts c).1.2])) ws, keyA (nextV ts c).1.1, .lit (jn 0)] ∧ ∃ V', H' = tbOf H t V' (nextV ts c).2 := by
  have h518 := fc518_eq
  refine XCall.le ?_
  have hself := hh.self
  have hw8 : w < 8 := by have := (List.getElem?_eq_some_iff.1 hw).1; omega
  have c2 := two_k hh hn (s := txSay) (by simp [txSay]) (ks := [c]) (by simp) (by simp [hc])
  have cw := cloneW_call ws hws
  have n1 : (nextV ts c).1.1.length = 32 := nameK_len _
  have n2 : (nextV ts c).1.2.length = 32 := nameK_len _
  unfold nextV at *
  generalize twoV ts txSay [c] = tv at *
  obtain ⟨⟨k1, k2⟩, ts2⟩ := tv
  simp only at c2 n1 n2 ⊢
  have G1 : ∀ V' ts', (tbOf H t V' ts').length = H.length := fun V' ts' => tbOf_len _ _ _ _
  have g1 : ∀ V' ts' L k, (tbOf H t V' ts' ++ L)[H.length + k]? = L[k]? := fun V' ts' L k => cat1 _ _ _ _ (G1 _ _)
  have g2 : ∀ V' ts' L k x, (tbOf H t V' ts' ++ L).set (H.length + k) x = tbOf H t V' ts' ++ L.set k x := fun V' ts' L k x => cat2 _ _ _ _ _ (G1 _ _)
  have g4 : ∀ h, A[w]'h = .st [1, 1, 32, 32] [.lit (.bool true), .lit (.bool op), keyA k, keyA c] := fun h => by rw [List.getElem?_eq_getElem h] at hw; exact Option.some.inj hw
  have hwA : w < A.length := by omega
  unfold ksA
  refine XCall.of h518 rfl ?_; show AC.wp _ fb518 ⟨H.length, [freeI t.b t.l, .st [528, 1] [.arr 66 A, .sl 65 ws], .lit (jn w)] ++ List.replicate (41 - 3) .any, H ++ List.replicate 41 none⟩ (fun x s => match x with | .exit _ => False | _ => ∃ s1, Le s s1 ∧ FinX [(.cell 6 .true 529), (.cell 7 .true 32), (.tmp 8)] s1 _); unfold fb518
  rw [← hself]
  rw [tbOf_len]
  generalize hN : H.length = N at *
  refine wp_sg (areg_bx rfl rfl fun l4 => areg_al' (z' := ks0) rfl fun l6 => areg_al' zk_eq.symm fun l7 => areg_end (by simp [push_cast, g2]; exact rfl) ?_)
  refine wp_seq' (wp_sr (by simp [push_cast, g1, hA, hw, g4, hw8, hwA]; exact rfl) ?_)
  refine wp_cond_f (by simp [AS.ev]) (wp_skip' (wp_sg ?_))
  refine areg_run 6 (by simp [push_cast, g1, hA, hw, g4, hw8, hwA, hk, hc]; exact rfl) ?_
  refine areg_bsl (k := 32) (els := klA [c]) (fill_ar rfl rfl rfl (by simp [AV.sz, AS.ev, AS.put, hc, bl_len]) rfl) ?_
  refine areg_k [freeI t.b t.l, .lit (tx txSay), .sl 32 (klA [c])] hN rfl (tgt_two _ _ _) c2 (by simp) (by simp) fun V2 => ?_
  refine areg_run 3 (by simp [push_cast, g1, n1, n2]; exact rfl) ?_
  refine areg_al' zk_eq.symm fun l9 => areg_al' zk_eq.symm fun l10 => areg_end (by simp [push_cast, g1, g2, n1, n2]; exact rfl) ?_
  refine wp_sg ?_
  refine areg_run 4 (by simp [push_cast, g1, g2, hA, n1, n2]; exact rfl) ?_
  refine areg_cv (by simp [AS.ev, AS.coe, AS.put] <;> exact rfl) cw ?_
  refine areg_end (by simp [push_cast, g1, g2, hA, hw, g4, hw8, hwA, n1, n2, hk, hc]; exact rfl) ?_
  refine wp_sg ?_
  refine areg_end (by simp [push_cast, g1, g2, n1, n2, hA]; exact rfl) (wp_ret' ?_)
  exact ⟨_, Le.refl _, [], _, ⟨_, rfl, by simp [AS.seals, RVals, RVal, AS.ev, AS.peek, AS.blk, g1, Blk.loc, Blk.cont, Blk.n, AV.nav, AV.isAgg, AV.isTup, AS.coe]; rfl, by simp [keyA]⟩, .tup [.st [528, 1] [.arr 66 (A.set w (.st [1, 1, 32, 32] [.lit (.bool true), .lit (.bool op), keyA k, keyA k2])), .sl 65 ws], keyA k1, .lit (jn 0)], _, RelLe.refl _, by simp, HpLe.trim _ _, rfl, V2, (hh.of_of _ _ _ _).symm⟩
set_option maxHeartbeats 16000000 in
theorem next_none {H : List (Option Blk)} {t : Tb} {V : Value} {ts : List Term} (hh : TbOk H t V ts) {A ws : List AV} {w : Nat} (hA : A.length = 8) {op : Bool} {k c : List UInt8} (hk : k.length = 32) (hc : c.length = 32)
    (hw : A[w]? = some (.st [1, 1, 32, 32] [.lit (.bool false), .lit (.bool op), keyA k, keyA c])) :
    XCall Go.Proofs.Tryz.prog 25 [freeI t.b t.l, ksA A ws, .lit (jn w)] H fun r H' => r = .tup [ksA [r0A, r0A, r0A, r0A, r0A, r0A, r0A, r0A] [], keyA zk, .lit (jn 18)] ∧ H' = H := by
  have h518 := fc518_eq
  refine XCall.le ?_
  have hself := hh.self
  have hw8 : w < 8 := by have := (List.getElem?_eq_some_iff.1 hw).1; omega
  have G1 : ∀ V' ts', (tbOf H t V' ts').length = H.length := fun V' ts' => tbOf_len _ _ _ _
  have g1 : ∀ V' ts' L k, (tbOf H t V' ts' ++ L)[H.length + k]? = L[k]? := fun V' ts' L k => cat1 _ _ _ _ (G1 _ _)
  have g2 : ∀ V' ts' L k x, (tbOf H t V' ts' ++ L).set (H.length + k) x = tbOf H t V' ts' ++ L.set k x := fun V' ts' L k x => cat2 _ _ _ _ _ (G1 _ _)
  have g4 : ∀ h, A[w]'h = .st [1, 1, 32, 32] [.lit (.bool false), .lit (.bool op), keyA k, keyA c] := fun h => by rw [List.getElem?_eq_getElem h] at hw; exact Option.some.inj hw
  have hwA : w < A.length := by omega
  unfold ksA
  refine XCall.of h518 rfl ?_; show AC.wp _ fb518 ⟨H.length, [freeI t.b t.l, .st [528, 1] [.arr 66 A, .sl 65 ws], .lit (jn w)] ++ List.replicate (41 - 3) .any, H ++ List.replicate 41 none⟩ (fun x s => match x with | .exit _ => False | _ => ∃ s1, Le s s1 ∧ FinX [(.cell 6 .true 529), (.cell 7 .true 32), (.tmp 8)] s1 _); unfold fb518
  rw [← hself]
  rw [tbOf_len]
  generalize hN : H.length = N at *
  refine wp_sg (areg_bx rfl rfl fun l4 => areg_al' (z' := ks0) rfl fun l6 => areg_al' zk_eq.symm fun l7 => areg_end (by simp [push_cast, g2]; exact rfl) ?_)
  refine wp_seq' (wp_sr (by simp [push_cast, g1, hA, hw, g4, hw8, hwA]; exact rfl) ?_)
  refine wp_cond_t (by simp [AS.ev]) (wp_sg ?_)
  refine areg_bd (z' := ks0) rfl (areg_bz ?_)
  have e1 : ks0.sz = 529 := rfl
  unfold ks0
  refine areg_end (by simp [push_cast, g1, g2, zk_len]; exact rfl) (wp_ret' ?_)
  refine ⟨_, Le.refl _, [], _, ⟨_, rfl, by simp [AS.seals, RVals, RVal, AS.ev, AS.peek, AS.blk, g1, Blk.loc, Blk.cont, Blk.n, AV.nav, AV.isAgg, AV.isTup, AS.coe]; rfl, by simp [keyA]⟩, .tup [.st [528, 1] [.arr 66 [r0A, r0A, r0A, r0A, r0A, r0A, r0A, r0A], .sl 65 []], keyA zk, .lit (jn 18)], tbOf H t V ts, ?_, by simp, HpLe.trim _ _, rfl, rfl⟩
  exact RelLe.tup (AVle.tupSt ks0_le (AVle.refl _))
end Go.Cab
namespace Go.Cab
open Go.RowKit
open Classical
def fb513 : AC := (.seq (.reg [⟨some 5, none, .box 529 (.tmp 1), [], none⟩, ⟨some 6, none, .box 71 (.tmp 2), [], none⟩, ⟨some 8, none, .alloc 529 (.st [528, 1] [(.arr 66 (List.replicate 8 (.st [1, 1, 32, 32] [(.lit (.bool false)), (.lit (.bool false)), (.arr 1 (List.replicate 32 (.lit (bn 0)))), (.arr 1 (List.replicate 32 (.lit (bn 0))))]))), (.lit (.slice .none 0 0))]), [], none⟩, ⟨some 9, none, .mov (.const (tx [])), [], none⟩, ⟨some 10, none, .mov (.const (jn 0)), [], none⟩]) (.seq (.reg [⟨some 13, none, .faddr 69 7 (.tmp 6), [], none⟩, ⟨none, none, .store 1 (.tmp 13) (.const (tx [120])), [], none⟩]) (.seq (.seq (.reg [⟨some 14, none, .mov (.tmp 3), [], none⟩, ⟨some 15, none, .len true (.tmp 14), [], none⟩, ⟨some 16, none, .bin .gtr (.tmp 15) (.const (jn 64)), [], none⟩, ⟨some 17, none, .mov (.tmp 16), [], none⟩, ⟨some 18, some (17, false), .load true 71 (.tmp 6), [], none⟩, ⟨some 19, some (17, false), .call 24 [.tmp 18], [], none⟩, ⟨some 20, some (17, false), .un .not (.tmp 19), [], none⟩, ⟨some 21, none, .pick (.tmp 17) (.const (.bool true)) (.tmp 20), [], none⟩]) (.cond (.tmp 21) (.seq (.reg [⟨some 22, none, .build (.st [528, 1] [(.arr 66 (List.replicate 8 (.st [1, 1, 32, 32] [(.lit (.bool false)), (.lit (.bool false)), (.arr 1 (List.replicate 32 (.lit (bn 0)))), (.arr 1 (List.replicate 32 (.lit (bn 0))))]))), (.lit (.slice .none 0 0))]) [], [], none⟩, ⟨none, none, .store 529 (.tmp 8) (.tmp 22), [], none⟩, ⟨some 9, none, .mov (.const (tx [])), [], none⟩, ⟨some 10, none, .mov (.const (jn 1)), [], none⟩]) .ret) .skip)) (.seq (.reg [⟨some 24, none, .mov (.tmp 0), [], none⟩, ⟨some 25, none, .load true 529 (.tmp 5), [], none⟩, ⟨some 26, none, .faddr 0 0 (.tmp 6), [], none⟩, ⟨some 27, none, .load false 1 (.tmp 26), [], none⟩, ⟨some 28, none, .xc (.dir 25) [.tmp 24, .tmp 25, .tmp 27] [] [], [], none⟩, ⟨some 23, none, .mov (.tmp 28), [], none⟩, ⟨some 29, none, .ext (.tmp 23) 0, [], none⟩, ⟨some 30, none, .ext (.tmp 23) 1, [], none⟩, ⟨some 31, none, .ext (.tmp 23) 2, [], none⟩, ⟨some 11, none, .alloc 32 (.arr 1 (List.replicate 32 (.lit (bn 0)))), [], none⟩, ⟨none, none, .store 529 (.tmp 5) (.tmp 29), [], none⟩, ⟨none, none, .store 32 (.tmp 11) (.tmp 30), [], none⟩, ⟨some 12, none, .mov (.tmp 31), [], none⟩]) (.seq (.seq (.reg [⟨some 32, none, .mov (.tmp 12), [], none⟩, ⟨some 33, none, .bin .neq (.tmp 32) (.const (jn 0)), [], none⟩]) (.cond (.tmp 33) (.seq (.reg [⟨some 34, none, .load true 529 (.tmp 5), [], none⟩, ⟨some 35, none, .mov (.tmp 12), [], none⟩, ⟨none, none, .store 529 (.tmp 8) (.tmp 34), [], none⟩, ⟨some 9, none, .mov (.const (tx [])), [], none⟩, ⟨some 10, none, .mov (.tmp 35), [], none⟩]) .ret) .skip)) (.seq (.reg [⟨some 36, none, .load true 529 (.tmp 5), [], (.some 5)⟩, ⟨some 37, none, .mov (.tmp 0), [], none⟩, ⟨some 38, none, .load true 32 (.tmp 11), [8], (.some 11)⟩, ⟨some 39, none, .mov (.tmp 0), [], none⟩, ⟨some 40, none, .load true 71 (.tmp 6), [8], (.some 6)⟩, ⟨some 41, none, .xc (.dir 26) [.tmp 39, .tmp 40] [5, 11] [], [], none⟩, ⟨some 42, none, .mov (.tmp 3), [], none⟩, ⟨some 43, none, .rdp (.mkfn (.method "Seal") 1) [.tmp 37], [], none⟩, ⟨some 44, none, .rdp .nilv [.tmp 43], [], none⟩, ⟨some 45, none, .mov (.tmp 37), [], none⟩, ⟨some 46, none, .xc (.inv "Seal") [(.tmp 45), (.tmp 38), (.tmp 41), (.tmp 42), (.const (.slice .none 0 0))] [5] [], [], none⟩, ⟨none, none, .store 529 (.tmp 8) (.tmp 36), [], (.some 8)⟩, ⟨some 9, none, .mov (.tmp 46), [], none⟩, ⟨some 10, none, .mov (.const (jn 0)), [], none⟩]) .ret))))))
def fc513 : FC := ⟨4, 47, [(.cell 8 .true 529), (.tmp 9), (.tmp 10)], fb513⟩
theorem fc513_eq : compF Go.Proofs.Tryz.prog 9 = some fc513 := by kernel_rfl
theorem next_k {H : List (Option Blk)} {t : Tb} {V0 : Value} {ts0 ts : List Term} (hh : TbOk H t V0 ts0) (hn : ts.length + 1 < 100000) {A ws : List AV} {w : Nat} (hA : A.length = 8) {op : Bool} {k c : List UInt8} (hk : k.length = 32) (hc : c.length = 32)
    (hw : A[w]? = some (.st [1, 1, 32, 32] [.lit (.bool true), .lit (.bool op), keyA k, keyA c])) (hws : ws.length < 100000) :
    KC Go.Proofs.Tryz.prog 25 [freeI t.b t.l, ksA A ws, .lit (jn w)] H t ts (.tup [ksA (A.set w (.st [1, 1, 32, 32] [.lit (.bool true), .lit (.bool op), keyA k, keyA (nextV ts c).1.2])) ws, keyA (nextV ts c).1.1, .lit (jn 0)]) (nextV ts c).2 := KC.of hh fun H V h => next_call h hn hA hk hc hw hws
theorem by_k {H : List (Option Blk)} {t : Tb} {V0 : Value} {ts0 ts : List Term} (hh : TbOk H t V0 ts0) (hn : ts.length < 100000) {o : OpV} (ho : OpOk o) (hbl : ∀ b ∈ o.boxes, b.body.length < 9223372036854775808) (hw : o.who.length < 1000) (hp : o.parents.length < 1000) {it : Int → List UInt8} (hit : ∀ n ∈ numsV o, PCall Go.Proofs.Tryz.prog 67 [.lit (ji n)] (.val (.lit (tx (it n))))) (hil : ∀ n ∈ numsV o, (it n).length ≤ 30) :
    KC Go.Proofs.Tryz.prog 26 [freeI t.b t.l, opA o] H t ts (keyA (byV it ts o).1) (byV it ts o).2 := KC.of hh fun H V h => by_call h hn ho hbl hw hp hit hil
theorem seal_k {H : List (Option Blk)} {t : Tb} {V0 : Value} {ts0 ts : List Term} (hh : TbOk H t V0 ts0) (hn : ts.length < 100000) {k b s : List UInt8} (hk : k.length = 32) (hb : b.length = 32) (hs : s.length < 100000) :
    KC Go.Proofs.Tryz.prog 16 [.ptr t.b t.l 0 [], keyA k, keyA b, .lit (tx s), .lit (.slice none 0 0)] H t ts (.lit (tx (nameK (putN ts (sealT k b s))))) (putT ts (sealT k b s)) :=
  KC.args (vs' := [.ptr t.b t.l 0 [], keyA k, keyA b, .lit (tx s), .sl 32 []]) ⟨RelLe.refl _, RelLe.refl _, RelLe.refl _, RelLe.refl _, RelLe.nil 32, trivial⟩ (KC.of hh fun H V h => seal_call h hn hk hb hs)
theorem tgt_sealI (b : Nat) (l : Nat × Nat) (x y z u : AV) : tgtA Go.Proofs.Tryz.prog (.inv "Seal") [freeI b l, x, y, z, u] = some (16, [.ptr b l 0 [], x, y, z, u]) := by kernel_rfl
theorem tgt_by (x y : AV) : tgtA Go.Proofs.Tryz.prog (.dir 26) [x, y] = some (26, [x, y]) := by kernel_rfl
theorem tgt_next (x y z : AV) : tgtA Go.Proofs.Tryz.prog (.dir 25) [x, y, z] = some (25, [x, y, z]) := by kernel_rfl
theorem nilv_seal (b : Nat) (l : Nat × Nat) : rdA Go.Proofs.Tryz.prog (fun _ => none) .nilv [.fnv (.method "Seal") [freeI b l] []] = some (.fnv (.method "Seal") [freeI b l] []) := by kernel_rfl
def txX : List UInt8 := [120]
def bindO (o : OpV) : OpV := { o with text := txX }
def msgV (it : Int → List UInt8) (ts : List Term) (o : OpV) (c s : List UInt8) : List UInt8 × List Term :=
  let n := nextV ts c
  let b := byV it n.2 (bindO o)
  (nameK (putN b.2 (sealT n.1.1 b.1 s)), putT b.2 (sealT n.1.1 b.1 s))
theorem nextV_len (ts : List Term) (c : List UInt8) : (nextV ts c).2.length ≤ ts.length + 2 := by
  unfold nextV twoV
  have h1 := putT_len ts ⟨2, txSay ++ [47, 49], [c]⟩
  have h2 := putT_len (putT ts ⟨2, txSay ++ [47, 49], [c]⟩) ⟨2, txSay ++ [47, 50], [c]⟩
  simp only
  omega
theorem byV_len (it : Int → List UInt8) (ts : List Term) (o : OpV) : (byV it ts o).2.length ≤ ts.length + 1 := by
  unfold byV
  split
  · exact (putT_len _ _).2
  · simp
theorem byV_32 (it : Int → List UInt8) (ts : List Term) (o : OpV) : (byV it ts o).1.length = 32 := by
  unfold byV
  split
  · exact nameK_len _
  · exact zk_len
set_option maxHeartbeats 16000000 in
theorem cseal_call {H : List (Option Blk)} {t : Tb} {V : Value} {ts : List Term} (hh : TbOk H t V ts) (hn : ts.length + 10 < 100000) {o : OpV} (ho : OpOk o) (hbl : ∀ b ∈ o.boxes, b.body.length < 9223372036854775808) (hw : o.who.length < 1000) (hp : o.parents.length < 1000) {it : Int → List UInt8} (hit : ∀ n ∈ numsV o, PCall Go.Proofs.Tryz.prog 67 [.lit (ji n)] (.val (.lit (tx (it n))))) (hil : ∀ n ∈ numsV o, (it n).length ≤ 30)
    (hsay : saysV (bindO o) = true) {w : Nat} (hau : o.author = (w : Int)) {A ws : List AV} (hA : A.length = 8) {op : Bool} {k c : List UInt8} (hk : k.length = 32) (hc : c.length = 32)
    (hwA : A[w]? = some (.st [1, 1, 32, 32] [.lit (.bool true), .lit (.bool op), keyA k, keyA c])) (hws : ws.length < 100000) {s : List UInt8} (hs : s.length ≤ 64) :
    XCall Go.Proofs.Tryz.prog 9 [freeI t.b t.l, ksA A ws, opA o, .lit (tx s)] H fun r H' => r = .tup [ksA (A.set w (.st [1, 1, 32, 32] [.lit (.bool true), .lit (.bool op), keyA k, keyA (nextV ts c).1.2])) ws, .lit (tx (msgV it ts o c s).1), .lit (jn 0)] ∧ ∃ V', H' = tbOf H t V' (msgV it ts o c s).2 := by
  have h513 := fc513_eq
  refine XCall.le ?_
  have hself := hh.self
  have ho' : OpOk (bindO o) := ⟨ho.seq, ho.parents, ho.p32, ho.who, ho.ofk, ho.check, by simp [bindO, txX], ho.boxes, ho.bok⟩
  have cS := says_call ho' hbl
  have l1 := nextV_len ts c
  have l2 := byV_len it (nextV ts c).2 (bindO o)
  have cN := next_k hh (ts := ts) (by omega) hA hk hc hwA hws
  have cB := by_k hh (ts := (nextV ts c).2) (by omega) ho' hbl hw hp (it := it) hit hil
  have n1 : (nextV ts c).1.1.length = 32 := nameK_len _
  have n2 : (nextV ts c).1.2.length = 32 := nameK_len _
  have n3 : (byV it (nextV ts c).2 (bindO o)).1.length = 32 := byV_32 _ _ _
  have cK := seal_k hh (ts := (byV it (nextV ts c).2 (bindO o)).2) (by omega) n1 n3 (s := s) (by omega)
  have o5 := ho.ofk
  have o6 := ho.check
  rw [hsay] at cS
  unfold msgV
  simp only
  generalize putT (byV it (nextV ts c).2 (bindO o)).2 _ = ts4 at *
  generalize nameK (putN (byV it (nextV ts c).2 (bindO o)).2 _) = nm at *
  generalize byV it (nextV ts c).2 (bindO o) = bv at *
  generalize nextV ts c = nv at *
  obtain ⟨⟨k1, k2⟩, ts2⟩ := nv
  obtain ⟨bk, ts3⟩ := bv
  simp only at *
  have hA1 : opA o = opB o.author o.seq o.parents o.kind (o.who.map fun x => AV.lit (ji x)) o.ofk o.check o.text (o.boxes.map fun x => boxA x) := rfl
  have hA2 : opA (bindO o) = opB o.author o.seq o.parents o.kind (o.who.map fun x => AV.lit (ji x)) o.ofk o.check txX (o.boxes.map fun x => boxA x) := rfl
  have haj : ji o.author = jn w := by rw [hau]; rfl
  rw [hA2] at cS cB
  rw [hA1]
  unfold opB at cS cB ⊢
  rw [haj] at cS cB ⊢
  generalize (o.who.map fun x => AV.lit (ji x)) = W at *
  generalize (o.boxes.map fun x => boxA x) = B at *
  have G1 : ∀ V' ts', (tbOf H t V' ts').length = H.length := fun V' ts' => tbOf_len _ _ _ _
  have g1 : ∀ V' ts' L k, (tbOf H t V' ts' ++ L)[H.length + k]? = L[k]? := fun V' ts' L k => cat1 _ _ _ _ (G1 _ _)
  have g2 : ∀ V' ts' L k x, (tbOf H t V' ts' ++ L).set (H.length + k) x = tbOf H t V' ts' ++ L.set k x := fun V' ts' L k x => cat2 _ _ _ _ _ (G1 _ _)
  have htx : tx [120] = tx txX := rfl
  have hs64 : ¬ 64 < s.length := by omega
  have hAs : (A.set w (.st [1, 1, 32, 32] [.lit (.bool true), .lit (.bool op), keyA k, keyA k2])).length = 8 := by rw [List.length_set]; exact hA
  unfold ksA at *
  generalize (A.set w (.st [1, 1, 32, 32] [.lit (.bool true), .lit (.bool op), keyA k, keyA k2])) = A2 at *
  refine XCall.of h513 rfl ?_; show AC.wp _ fb513 ⟨H.length, [freeI t.b t.l, .st [528, 1] [.arr 66 A, .sl 65 ws], .st [1, 1, 1, 1, 1, 32, 32, 1, 1] [.lit (jn w), .lit (wn o.seq), .sl 32 (klA o.parents), .lit (ji o.kind), .sl 1 W, keyA o.ofk, keyA o.check, .lit (tx o.text), .sl 36 B], .lit (tx s)] ++ List.replicate (47 - 4) .any, H ++ List.replicate 47 none⟩ (fun x s => match x with | .exit _ => False | _ => ∃ s1, Le s s1 ∧ FinX [(.cell 8 .true 529), (.tmp 9), (.tmp 10)] s1 _); unfold fb513
  rw [← hself]
  rw [tbOf_len]
  generalize hN : H.length = N at *
  refine wp_sg (areg_bx rfl rfl fun l5 => areg_bx rfl (by simp [AS.ev, AV.sz]) fun l6 => areg_al' (z' := ks0) rfl fun l8 => areg_end (by simp [push_cast, g2]; exact rfl) ?_)
  refine wp_sg (areg_end (by simp [push_cast, g1, g2, o5, o6, htx]; exact rfl) ?_)
  refine wp_seq' (wp_sg ?_)
  refine areg_run 5 (by simp [push_cast, g1, o5, o6, hs, hs64]; exact rfl) ?_
  unfold keyA at cS
  refine areg_g (by simp [AS.ev, AS.put, hs]) (areg_ca (by simp [AS.ev, AS.coe, AS.put] <;> exact rfl) cS ?_)
  refine areg_end (by simp [push_cast, hs, hs64]; exact rfl) ?_
  refine wp_cond_f (by simp [AS.ev]) (wp_skip' (wp_sg ?_))
  refine areg_run 4 (by simp [push_cast, g1, o5, o6]; exact rfl) ?_
  refine areg_k [freeI t.b t.l, .st [528, 1] [.arr 66 A, .sl 65 ws], .lit (jn w)] hN rfl (tgt_next _ _ _) cN (by simp) (by simp) fun V2 => ?_
  refine areg_run 4 (by simp [push_cast, g1, n1, n2]; exact rfl) ?_
  refine areg_al' zk_eq.symm fun l11 => areg_end (by simp [push_cast, g1, g2, n1, n2, hA, hAs]; exact rfl) ?_
  refine wp_seq' (wp_sr (by simp [push_cast, g1]; exact rfl) ?_)
  refine wp_cond_f (by simp [AS.ev]) (wp_skip' (wp_sg ?_))
  refine areg_run 5 (by simp [push_cast, g1, g2, hAs, n1, o5, o6]; exact rfl) ?_
  unfold keyA at cB
  refine areg_k [freeI t.b t.l, .st [1, 1, 1, 1, 1, 32, 32, 1, 1] [.lit (jn w), .lit (wn o.seq), .sl 32 (klA o.parents), .lit (ji o.kind), .sl 1 W, .arr 1 (bl o.ofk), .arr 1 (bl o.check), .lit (tx txX), .sl 36 B]] hN rfl (tgt_by _ _) cB (by simp) (by simp [AS.ev, AV.place]) fun V3 => ?_
  refine areg_run 1 (by simp [push_cast]; exact rfl) ?_
  refine areg_rdp (us := [freeI t.b t.l]) rfl (mkfn_draw _ _ _) ?_
  refine areg_rdp (us := [.fnv (.method "Seal") [freeI t.b t.l] []]) rfl (nilv_seal _ _) ?_
  refine areg_run 1 (by simp [push_cast]; exact rfl) ?_
  refine areg_k [freeI t.b t.l, keyA k1, keyA bk, .lit (tx s), .lit (.slice none 0 0)] hN rfl (tgt_sealI _ _ _ _ _ _) cK (by simp) (by simp [AS.ev, AV.place]) fun V4 => ?_
  refine areg_end (by simp [push_cast, g1, g2, hAs]; exact rfl) (wp_ret' ?_)
  exact ⟨_, Le.refl _, [], _, ⟨_, rfl, by simp [AS.seals, RVals, RVal, AS.ev, AS.peek, AS.blk, g1, Blk.loc, Blk.cont, Blk.n, AV.nav, AV.isAgg, AV.isTup, AS.coe]; rfl, by simp [keyA]⟩, .tup [.st [528, 1] [.arr 66 A2, .sl 65 ws], .lit (tx nm), .lit (jn 0)], _, RelLe.refl _, by simp, HpLe.trim _ _, rfl, V4, (hh.of_of _ _ _ _).symm⟩
end Go.Cab
/- Part 8 of what the proof stands on: R4, M2, M3, M4, R5. -/
import Derived.Test.YtmiampioooejdaaCab07
import Derived.Test.YtmiampioooejdaaCab04
set_option linter.unusedSimpArgs false
set_option linter.unusedVariables false
set_option linter.unusedSectionVars false
/- References: a sum of digits. -/
namespace Go.Cab
def fb81 : AC := (.seq (.reg [⟨(.some 4), .none, (.mov (.const (.slice .none 0 0))), [], .none⟩]) (.seq (.reg [⟨(.some 5), .none, (.mov (.const (.slice .none 0 0))), [], .none⟩]) (.seq (.reg [⟨(.some 6), .none, (.mov (.const (un 0))), [], .none⟩]) (.seq (.seq (.reg [⟨(.some 7), .none, (.mov (.const (jn 0))), [], .none⟩]) (.block 0 (.loop (.seq (.seq (.reg [⟨(.some 8), .none, (.mov (.tmp 7)), [], .none⟩, ⟨(.some 9), .none, (.mov (.tmp 0)), [], .none⟩, ⟨(.some 10), .none, (.len .false (.tmp 9)), [], .none⟩, ⟨(.some 11), .none, (.bin .lss (.tmp 8) (.tmp 10)), [], .none⟩, ⟨(.some 12), .none, (.mov (.tmp 11)), [], .none⟩, ⟨(.some 13), (.some (12, .false)), (.mov (.tmp 7)), [], .none⟩, ⟨(.some 14), (.some (12, .false)), (.mov (.tmp 1)), [], .none⟩, ⟨(.some 15), (.some (12, .false)), (.len .false (.tmp 14)), [], .none⟩, ⟨(.some 16), (.some (12, .false)), (.bin .lss (.tmp 13) (.tmp 15)), [], .none⟩, ⟨(.some 17), .none, (.pick (.tmp 12) (.const (.bool .true)) (.tmp 16)), [], .none⟩, ⟨(.some 18), .none, (.mov (.tmp 17)), [], .none⟩, ⟨(.some 19), (.some (18, .false)), (.mov (.tmp 6)), [], .none⟩, ⟨(.some 20), (.some (18, .false)), (.bin .gtr (.tmp 19) (.const (un 0))), [], .none⟩, ⟨(.some 21), .none, (.pick (.tmp 18) (.const (.bool .true)) (.tmp 20)), [], .none⟩]) (.cond (.tmp 21) .skip (.exit 0))) (.seq (.block 1 (.seq (.seq (.reg [⟨(.some 24), .none, (.mov (.tmp 7)), [], .none⟩, ⟨(.some 25), .none, (.mov (.tmp 0)), [], .none⟩, ⟨(.some 26), .none, (.len .false (.tmp 25)), [], .none⟩, ⟨(.some 27), .none, (.bin .lss (.tmp 24) (.tmp 26)), [], .none⟩]) (.cond (.tmp 27) (.reg [⟨(.some 28), .none, (.mov (.tmp 6)), [], .none⟩, ⟨(.some 29), .none, (.mov (.tmp 0)), [], .none⟩, ⟨(.some 30), .none, (.mov (.tmp 7)), [], .none⟩, ⟨(.some 31), .none, (.iaddrS 1 (.tmp 29) (.tmp 30)), [], .none⟩, ⟨(.some 32), .none, (.load .false 1 (.tmp 31)), [], .none⟩, ⟨(.some 33), .none, (.bin .add (.tmp 28) (.tmp 32)), [], .none⟩, ⟨(.some 6), .none, (.mov (.tmp 33)), [], .none⟩]) .skip)) (.seq (.seq (.reg [⟨(.some 34), .none, (.mov (.tmp 7)), [], .none⟩, ⟨(.some 35), .none, (.mov (.tmp 1)), [], .none⟩, ⟨(.some 36), .none, (.len .false (.tmp 35)), [], .none⟩, ⟨(.some 37), .none, (.bin .lss (.tmp 34) (.tmp 36)), [], .none⟩]) (.cond (.tmp 37) (.reg [⟨(.some 38), .none, (.mov (.tmp 6)), [], .none⟩, ⟨(.some 39), .none, (.mov (.tmp 1)), [], .none⟩, ⟨(.some 40), .none, (.mov (.tmp 7)), [], .none⟩, ⟨(.some 41), .none, (.iaddrS 1 (.tmp 39) (.tmp 40)), [], .none⟩, ⟨(.some 42), .none, (.load .false 1 (.tmp 41)), [], .none⟩, ⟨(.some 43), .none, (.bin .add (.tmp 38) (.tmp 42)), [], .none⟩, ⟨(.some 6), .none, (.mov (.tmp 43)), [], .none⟩]) .skip)) (.seq (.reg [⟨(.some 44), .none, (.mov (.tmp 5)), [], .none⟩, ⟨(.some 45), .none, (.mov (.tmp 6)), [], .none⟩, ⟨(.some 46), .none, (.bin .rem (.tmp 45) (.const (un 256))), [], .none⟩, ⟨(.some 47), .none, (.bslice 1 (.lit (un 0)) 1 [(0, (.tmp 46))]), [], .none⟩, ⟨(.some 48), .none, (.append 26 1 8 (.tmp 44) (.tmp 47)), [], .none⟩, ⟨(.some 5), .none, (.mov (.tmp 48)), [], .none⟩]) (.reg [⟨(.some 49), .none, (.mov (.tmp 6)), [], .none⟩, ⟨(.some 50), .none, (.bin .quo (.tmp 49) (.const (un 256))), [], .none⟩, ⟨(.some 6), .none, (.mov (.tmp 50)), [], .none⟩]))))) (.reg [⟨(.some 22), .none, (.mov (.tmp 7)), [], .none⟩, ⟨(.some 23), .none, (.bin .add (.tmp 22) (.const (jn 1))), [], .none⟩, ⟨(.some 7), .none, (.mov (.tmp 23)), [], .none⟩])))))) (.seq (.reg [⟨(.some 51), .none, (.mov (.tmp 5)), [], .none⟩, ⟨(.some 4), .none, (.mov (.tmp 51)), [], .none⟩]) .ret)))))
def fc81 : FC := ⟨2, 52, [(.tmp 4)], fb81⟩
theorem fc81_eq : compF Go.Proofs.Try.prog 33 = some fc81 := by kernel_rfl

def sumC (A B : List Nat) : Nat → Nat
  | 0 => 0
  | i + 1 => (sumC A B i + nth A i + nth B i) / 256
def sumD (A B : List Nat) (i : Nat) : Nat := (sumC A B i + nth A i + nth B i) % 256
def sumLen (A B : List Nat) : Nat := if sumC A B (max A.length B.length) = 0 then max A.length B.length else max A.length B.length + 1
/-- The digits of a sum. -/
def plusL (A B : List Nat) : List Nat := (List.range (sumLen A B)).map (sumD A B)

theorem nth_lt {L : List Nat} (h : ∀ d ∈ L, d < 256) (i : Nat) : nth L i < 256 := by
  unfold nth
  by_cases hi : i < L.length
  · have : L.getD i 0 = L[i] := by simp [hi]
    rw [this]; exact h _ (List.getElem_mem hi)
  · simp [hi]
theorem nth_out {L : List Nat} {i : Nat} (h : ¬ i < L.length) : nth L i = 0 := by simp [nth, h]

theorem sumC_le {A B : List Nat} (hA : ∀ d ∈ A, d < 256) (hB : ∀ d ∈ B, d < 256) : ∀ i, sumC A B i ≤ 1
  | 0 => by simp [sumC]
  | i + 1 => by
    have h1 := nth_lt hA i
    have h2 := nth_lt hB i
    have h3 := sumC_le hA hB i
    simp only [sumC]; omega

theorem sumC_end {A B : List Nat} (hA : ∀ d ∈ A, d < 256) (hB : ∀ d ∈ B, d < 256) : sumC A B (sumLen A B) = 0 := by
  unfold sumLen
  split
  · assumption
  · have h1 := sumC_le hA hB (max A.length B.length)
    have e1 : nth A (max A.length B.length) = 0 := nth_out (by omega)
    have e2 : nth B (max A.length B.length) = 0 := nth_out (by omega)
    simp only [sumC, e1, e2]; omega

set_option maxHeartbeats 8000000 in
set_option maxRecDepth 20000 in
theorem plus4_call {P : Program} (h81 : compF P 33 = some fc81) (A B : List Nat) (hA : ∀ d ∈ A, d < 256) (hB : ∀ d ∈ B, d < 256) (hn : A.length < 1000000) (hm : B.length < 1000000) : PCall P 33 [.sl 1 (dl A), .sl 1 (dl B)] (.row 26 1 (dl (plusL A B))) := by
  have gA : (dl A).length = A.length := dl_len A
  have gB : (dl B).length = B.length := dl_len B
  have hsl : sumLen A B ≤ max A.length B.length + 1 := by unfold sumLen; split <;> omega
  have hge : max A.length B.length ≤ sumLen A B := by unfold sumLen; split <;> omega
  have hce := sumC_end hA hB
  refine PCall.of h81 rfl ?_; show AC.wp _ fb81 (AS.init [.sl 1 (dl A), .sl 1 (dl B)] 2 52) (fun x s => match x with | .exit _ => False | _ => Fin [(.tmp 4)] s _); unfold fb81 AS.init
  refine wp_sr (by simp [runPre, AOp.ex, AOp.ex0, ex_mov, ex_bin, binA_lit, ex_cvt, ex_iaddrA, ex_iaddrS, ex_faddr, ex_load, ldA, ex_ext, ex_add64, add64A_un, ex_pick, ex_beq, ex_un, ex_len, lenA_sl, lenA_nil, lenA_str, lenA_own, lenRow_row, elA_own, elA_sl, elRow_row, ex_nilc, ex_build, ex_bslice, ex_fieldv, AOp.ro, AS.ev, AS.put, AS.fieldAddr, idxA_ptr, idxA_cptr, AS.peek, AS.poke, AS.blk, AS.setBlk, AV.nav, AV.upd, Blk.loc, Blk.cont, Blk.n, Blk.may, Blk.upd, AV.isAgg, AV.isTup, AV.sz, unVal, ownOk, fillAV, AV.sub, cvt_64j, cvt_64b, cvt_64w, cvt_8u, cvt_8w, bin_add64, bin_mul64, bin_sub64, bin_and51, bin_and32, bin_and1, bin_and8_1, bin_or64, bin_xor64, bin_or8, bin_shl64, bin_shl64j, bin_shr64, bin_shr64j, bin_shl8j, bin_shr8j, bin_quo64, bin_rem64, bin_quo32, bin_rem32, bin_addj, bin_subj, bin_quoj, bin_remj, bin_eqlj, bin_neqj, bin_lssj, bin_leqj, bin_gtrj, bin_geqj, bin_eql64, bin_lss64, bin_gtr64, bin_eql8, bin_rem8]; exact rfl) (wp_sr (by simp [runPre, AOp.ex, AOp.ex0, ex_mov, ex_bin, binA_lit, ex_cvt, ex_iaddrA, ex_iaddrS, ex_faddr, ex_load, ldA, ex_ext, ex_add64, add64A_un, ex_pick, ex_beq, ex_un, ex_len, lenA_sl, lenA_nil, lenA_str, lenA_own, lenRow_row, elA_own, elA_sl, elRow_row, ex_nilc, ex_build, ex_bslice, ex_fieldv, AOp.ro, AS.ev, AS.put, AS.fieldAddr, idxA_ptr, idxA_cptr, AS.peek, AS.poke, AS.blk, AS.setBlk, AV.nav, AV.upd, Blk.loc, Blk.cont, Blk.n, Blk.may, Blk.upd, AV.isAgg, AV.isTup, AV.sz, unVal, ownOk, fillAV, AV.sub, cvt_64j, cvt_64b, cvt_64w, cvt_8u, cvt_8w, bin_add64, bin_mul64, bin_sub64, bin_and51, bin_and32, bin_and1, bin_and8_1, bin_or64, bin_xor64, bin_or8, bin_shl64, bin_shl64j, bin_shr64, bin_shr64j, bin_shl8j, bin_shr8j, bin_quo64, bin_rem64, bin_quo32, bin_rem32, bin_addj, bin_subj, bin_quoj, bin_remj, bin_eqlj, bin_neqj, bin_lssj, bin_leqj, bin_gtrj, bin_geqj, bin_eql64, bin_lss64, bin_gtr64, bin_eql8, bin_rem8]; exact rfl) (wp_sr (by simp [runPre, AOp.ex, AOp.ex0, ex_mov, ex_bin, binA_lit, ex_cvt, ex_iaddrA, ex_iaddrS, ex_faddr, ex_load, ldA, ex_ext, ex_add64, add64A_un, ex_pick, ex_beq, ex_un, ex_len, lenA_sl, lenA_nil, lenA_str, lenA_own, lenRow_row, elA_own, elA_sl, elRow_row, ex_nilc, ex_build, ex_bslice, ex_fieldv, AOp.ro, AS.ev, AS.put, AS.fieldAddr, idxA_ptr, idxA_cptr, AS.peek, AS.poke, AS.blk, AS.setBlk, AV.nav, AV.upd, Blk.loc, Blk.cont, Blk.n, Blk.may, Blk.upd, AV.isAgg, AV.isTup, AV.sz, unVal, ownOk, fillAV, AV.sub, cvt_64j, cvt_64b, cvt_64w, cvt_8u, cvt_8w, bin_add64, bin_mul64, bin_sub64, bin_and51, bin_and32, bin_and1, bin_and8_1, bin_or64, bin_xor64, bin_or8, bin_shl64, bin_shl64j, bin_shr64, bin_shr64j, bin_shl8j, bin_shr8j, bin_quo64, bin_rem64, bin_quo32, bin_rem32, bin_addj, bin_subj, bin_quoj, bin_remj, bin_eqlj, bin_neqj, bin_lssj, bin_leqj, bin_gtrj, bin_geqj, bin_eql64, bin_lss64, bin_gtr64, bin_eql8, bin_rem8]; exact rfl) ?_))
  refine wp_seq' (wp_seq' (wp_r (by simp [runPre, AOp.ex, AOp.ex0, ex_mov, ex_bin, binA_lit, ex_cvt, ex_iaddrA, ex_iaddrS, ex_faddr, ex_load, ldA, ex_ext, ex_add64, add64A_un, ex_pick, ex_beq, ex_un, ex_len, lenA_sl, lenA_nil, lenA_str, lenA_own, lenRow_row, elA_own, elA_sl, elRow_row, ex_nilc, ex_build, ex_bslice, ex_fieldv, AOp.ro, AS.ev, AS.put, AS.fieldAddr, idxA_ptr, idxA_cptr, AS.peek, AS.poke, AS.blk, AS.setBlk, AV.nav, AV.upd, Blk.loc, Blk.cont, Blk.n, Blk.may, Blk.upd, AV.isAgg, AV.isTup, AV.sz, unVal, ownOk, fillAV, AV.sub, cvt_64j, cvt_64b, cvt_64w, cvt_8u, cvt_8w, bin_add64, bin_mul64, bin_sub64, bin_and51, bin_and32, bin_and1, bin_and8_1, bin_or64, bin_xor64, bin_or8, bin_shl64, bin_shl64j, bin_shr64, bin_shr64j, bin_shl8j, bin_shr8j, bin_quo64, bin_rem64, bin_quo32, bin_rem32, bin_addj, bin_subj, bin_quoj, bin_remj, bin_eqlj, bin_neqj, bin_lssj, bin_leqj, bin_gtrj, bin_geqj, bin_eql64, bin_lss64, bin_gtr64, bin_eql8, bin_rem8]; exact rfl) (wp_block' (wp_loop_v (sumLen A B) (fun i V => ⟨0, [.sl 1 (dl A), .sl 1 (dl B), .any, .any, .lit (.slice none 0 0), .own 48 V, .lit (un (sumC A B i)), .lit (jn i)] ++ List.replicate 44 .any, List.replicate 48 none ++ [some (.row 26 V 1 (dl ((List.range i).map (sumD A B))) 0)] ++ List.replicate 3 none⟩) ?_ ?_ ?_))))
  · exact ⟨.slice none 0 0, Le.trans (Le.nilRow (t := 5) (b := 48) rfl rfl 26 1) (Le.mk rfl (by simp [leT, sumC]) (by simp [leH, dl]))⟩
  · intro i V hi
    have q4 : i + 1 < 9223372036854775808 := by omega
    have hc := sumC_le hA hB i
    have a1 := nth_lt hA i
    have b1 := nth_lt hB i
    have bd1 : (dl ((List.range i).map (sumD A B))).length + 1 ≤ maxLen := by simp [dl_len, maxLen]; omega
    have bd2 : ((dl ((List.range i).map (sumD A B))).length + 1) * 8 ≤ 140737488355328 := by simp [dl_len]; omega
    by_cases hiA : i < A.length
    · by_cases hiB : i < B.length
      · skip
        have gA1 : (dl A)[i]? = some (.lit (un (nth A i))) := by rw [dl_get]; simp [nth, hiA]
        have gA4 : ∀ h, (dl A)[i]'h = .lit (un (nth A i)) := fun h => by rw [List.getElem?_eq_getElem h] at gA1; exact Option.some.inj gA1
        have gB1 : (dl B)[i]? = some (.lit (un (nth B i))) := by rw [dl_get]; simp [nth, hiB]
        have gB4 : ∀ h, (dl B)[i]'h = .lit (un (nth B i)) := fun h => by rw [List.getElem?_eq_getElem h] at gB1; exact Option.some.inj gB1
        have f1 : (sumC A B i + nth A i) % 18446744073709551616 = sumC A B i + nth A i := by omega
        have f2 : (sumC A B i + nth A i + nth B i) % 18446744073709551616 = sumC A B i + nth A i + nth B i := by omega
        have s1 : (sumC A B i + nth A i + nth B i) / 256 % 18446744073709551616 = sumC A B (i + 1) := by simp only [sumC]; omega
        have s2 : (sumC A B i + nth A i + nth B i) % 256 = sumD A B i := by simp only [sumD]; try omega
        refine wp_seq' (wp_seq' (wp_r (by simp [runPre, AOp.ex, AOp.ex0, ex_mov, ex_bin, binA_lit, ex_cvt, ex_iaddrA, ex_iaddrS, ex_faddr, ex_load, ldA, ex_ext, ex_add64, add64A_un, ex_pick, ex_beq, ex_un, ex_len, lenA_sl, lenA_nil, lenA_str, lenA_own, lenRow_row, elA_own, elA_sl, elRow_row, ex_nilc, ex_build, ex_bslice, ex_fieldv, AOp.ro, AS.ev, AS.put, AS.fieldAddr, idxA_ptr, idxA_cptr, AS.peek, AS.poke, AS.blk, AS.setBlk, AV.nav, AV.upd, Blk.loc, Blk.cont, Blk.n, Blk.may, Blk.upd, AV.isAgg, AV.isTup, AV.sz, unVal, ownOk, fillAV, AV.sub, cvt_64j, cvt_64b, cvt_64w, cvt_8u, cvt_8w, bin_add64, bin_mul64, bin_sub64, bin_and51, bin_and32, bin_and1, bin_and8_1, bin_or64, bin_xor64, bin_or8, bin_shl64, bin_shl64j, bin_shr64, bin_shr64j, bin_shl8j, bin_shr8j, bin_quo64, bin_rem64, bin_quo32, bin_rem32, bin_addj, bin_subj, bin_quoj, bin_remj, bin_eqlj, bin_neqj, bin_lssj, bin_leqj, bin_gtrj, bin_geqj, bin_eql64, bin_lss64, bin_gtr64, bin_eql8, bin_rem8, hiA, hiB, gA, gB, gA1, gA4, f1, gB1, gB4, f2]; exact rfl) (wp_cond_t (by simp [AS.ev]) (wp_skip' ?_))))
        refine wp_seq' (wp_block' ?_)
        refine wp_seq' (wp_seq' (wp_r (by simp [runPre, AOp.ex, AOp.ex0, ex_mov, ex_bin, binA_lit, ex_cvt, ex_iaddrA, ex_iaddrS, ex_faddr, ex_load, ldA, ex_ext, ex_add64, add64A_un, ex_pick, ex_beq, ex_un, ex_len, lenA_sl, lenA_nil, lenA_str, lenA_own, lenRow_row, elA_own, elA_sl, elRow_row, ex_nilc, ex_build, ex_bslice, ex_fieldv, AOp.ro, AS.ev, AS.put, AS.fieldAddr, idxA_ptr, idxA_cptr, AS.peek, AS.poke, AS.blk, AS.setBlk, AV.nav, AV.upd, Blk.loc, Blk.cont, Blk.n, Blk.may, Blk.upd, AV.isAgg, AV.isTup, AV.sz, unVal, ownOk, fillAV, AV.sub, cvt_64j, cvt_64b, cvt_64w, cvt_8u, cvt_8w, bin_add64, bin_mul64, bin_sub64, bin_and51, bin_and32, bin_and1, bin_and8_1, bin_or64, bin_xor64, bin_or8, bin_shl64, bin_shl64j, bin_shr64, bin_shr64j, bin_shl8j, bin_shr8j, bin_quo64, bin_rem64, bin_quo32, bin_rem32, bin_addj, bin_subj, bin_quoj, bin_remj, bin_eqlj, bin_neqj, bin_lssj, bin_leqj, bin_gtrj, bin_geqj, bin_eql64, bin_lss64, bin_gtr64, bin_eql8, bin_rem8, hiA, hiB, gA, gB, gA1, gA4, f1, gB1, gB4, f2]; exact rfl) (wp_cond_t (by simp [AS.ev]) (wp_r (by simp [runPre, AOp.ex, AOp.ex0, ex_mov, ex_bin, binA_lit, ex_cvt, ex_iaddrA, ex_iaddrS, ex_faddr, ex_load, ldA, ex_ext, ex_add64, add64A_un, ex_pick, ex_beq, ex_un, ex_len, lenA_sl, lenA_nil, lenA_str, lenA_own, lenRow_row, elA_own, elA_sl, elRow_row, ex_nilc, ex_build, ex_bslice, ex_fieldv, AOp.ro, AS.ev, AS.put, AS.fieldAddr, idxA_ptr, idxA_cptr, AS.peek, AS.poke, AS.blk, AS.setBlk, AV.nav, AV.upd, Blk.loc, Blk.cont, Blk.n, Blk.may, Blk.upd, AV.isAgg, AV.isTup, AV.sz, unVal, ownOk, fillAV, AV.sub, cvt_64j, cvt_64b, cvt_64w, cvt_8u, cvt_8w, bin_add64, bin_mul64, bin_sub64, bin_and51, bin_and32, bin_and1, bin_and8_1, bin_or64, bin_xor64, bin_or8, bin_shl64, bin_shl64j, bin_shr64, bin_shr64j, bin_shl8j, bin_shr8j, bin_quo64, bin_rem64, bin_quo32, bin_rem32, bin_addj, bin_subj, bin_quoj, bin_remj, bin_eqlj, bin_neqj, bin_lssj, bin_leqj, bin_gtrj, bin_geqj, bin_eql64, bin_lss64, bin_gtr64, bin_eql8, bin_rem8, hiA, hiB, gA, gB, gA1, gA4, f1, gB1, gB4, f2]; exact rfl) ?_))))
        refine wp_seq' (wp_seq' (wp_r (by simp [runPre, AOp.ex, AOp.ex0, ex_mov, ex_bin, binA_lit, ex_cvt, ex_iaddrA, ex_iaddrS, ex_faddr, ex_load, ldA, ex_ext, ex_add64, add64A_un, ex_pick, ex_beq, ex_un, ex_len, lenA_sl, lenA_nil, lenA_str, lenA_own, lenRow_row, elA_own, elA_sl, elRow_row, ex_nilc, ex_build, ex_bslice, ex_fieldv, AOp.ro, AS.ev, AS.put, AS.fieldAddr, idxA_ptr, idxA_cptr, AS.peek, AS.poke, AS.blk, AS.setBlk, AV.nav, AV.upd, Blk.loc, Blk.cont, Blk.n, Blk.may, Blk.upd, AV.isAgg, AV.isTup, AV.sz, unVal, ownOk, fillAV, AV.sub, cvt_64j, cvt_64b, cvt_64w, cvt_8u, cvt_8w, bin_add64, bin_mul64, bin_sub64, bin_and51, bin_and32, bin_and1, bin_and8_1, bin_or64, bin_xor64, bin_or8, bin_shl64, bin_shl64j, bin_shr64, bin_shr64j, bin_shl8j, bin_shr8j, bin_quo64, bin_rem64, bin_quo32, bin_rem32, bin_addj, bin_subj, bin_quoj, bin_remj, bin_eqlj, bin_neqj, bin_lssj, bin_leqj, bin_gtrj, bin_geqj, bin_eql64, bin_lss64, bin_gtr64, bin_eql8, bin_rem8, hiA, hiB, gA, gB, gA1, gA4, f1, gB1, gB4, f2]; exact rfl) (wp_cond_t (by simp [AS.ev]) (wp_r (by simp [runPre, AOp.ex, AOp.ex0, ex_mov, ex_bin, binA_lit, ex_cvt, ex_iaddrA, ex_iaddrS, ex_faddr, ex_load, ldA, ex_ext, ex_add64, add64A_un, ex_pick, ex_beq, ex_un, ex_len, lenA_sl, lenA_nil, lenA_str, lenA_own, lenRow_row, elA_own, elA_sl, elRow_row, ex_nilc, ex_build, ex_bslice, ex_fieldv, AOp.ro, AS.ev, AS.put, AS.fieldAddr, idxA_ptr, idxA_cptr, AS.peek, AS.poke, AS.blk, AS.setBlk, AV.nav, AV.upd, Blk.loc, Blk.cont, Blk.n, Blk.may, Blk.upd, AV.isAgg, AV.isTup, AV.sz, unVal, ownOk, fillAV, AV.sub, cvt_64j, cvt_64b, cvt_64w, cvt_8u, cvt_8w, bin_add64, bin_mul64, bin_sub64, bin_and51, bin_and32, bin_and1, bin_and8_1, bin_or64, bin_xor64, bin_or8, bin_shl64, bin_shl64j, bin_shr64, bin_shr64j, bin_shl8j, bin_shr8j, bin_quo64, bin_rem64, bin_quo32, bin_rem32, bin_addj, bin_subj, bin_quoj, bin_remj, bin_eqlj, bin_neqj, bin_lssj, bin_leqj, bin_gtrj, bin_geqj, bin_eql64, bin_lss64, bin_gtr64, bin_eql8, bin_rem8, hiA, hiB, gA, gB, gA1, gA4, f1, gB1, gB4, f2]; exact rfl) ?_))))
        refine wp_sg (areg_run 4 (by simp [runPre, AOp.ex, AOp.ex0, ex_mov, ex_bin, binA_lit, ex_cvt, ex_iaddrA, ex_iaddrS, ex_faddr, ex_load, ldA, ex_ext, ex_add64, add64A_un, ex_pick, ex_beq, ex_un, ex_len, lenA_sl, lenA_nil, lenA_str, lenA_own, lenRow_row, elA_own, elA_sl, elRow_row, ex_nilc, ex_build, ex_bslice, ex_fieldv, AOp.ro, AS.ev, AS.put, AS.fieldAddr, idxA_ptr, idxA_cptr, AS.peek, AS.poke, AS.blk, AS.setBlk, AV.nav, AV.upd, Blk.loc, Blk.cont, Blk.n, Blk.may, Blk.upd, AV.isAgg, AV.isTup, AV.sz, unVal, ownOk, fillAV, AV.sub, cvt_64j, cvt_64b, cvt_64w, cvt_8u, cvt_8w, bin_add64, bin_mul64, bin_sub64, bin_and51, bin_and32, bin_and1, bin_and8_1, bin_or64, bin_xor64, bin_or8, bin_shl64, bin_shl64j, bin_shr64, bin_shr64j, bin_shl8j, bin_shr8j, bin_quo64, bin_rem64, bin_quo32, bin_rem32, bin_addj, bin_subj, bin_quoj, bin_remj, bin_eqlj, bin_neqj, bin_lssj, bin_leqj, bin_gtrj, bin_geqj, bin_eql64, bin_lss64, bin_gtr64, bin_eql8, bin_rem8, s2]; exact rfl) (areg_ap rfl rfl (by simp [AS.ev, AS.coe]; exact rfl) bd1 bd2 fun V' => areg_end (by simp [runPre, AOp.ex, AOp.ex0, ex_mov, ex_bin, binA_lit, ex_cvt, ex_iaddrA, ex_iaddrS, ex_faddr, ex_load, ldA, ex_ext, ex_add64, add64A_un, ex_pick, ex_beq, ex_un, ex_len, lenA_sl, lenA_nil, lenA_str, lenA_own, lenRow_row, elA_own, elA_sl, elRow_row, ex_nilc, ex_build, ex_bslice, ex_fieldv, AOp.ro, AS.ev, AS.put, AS.fieldAddr, idxA_ptr, idxA_cptr, AS.peek, AS.poke, AS.blk, AS.setBlk, AV.nav, AV.upd, Blk.loc, Blk.cont, Blk.n, Blk.may, Blk.upd, AV.isAgg, AV.isTup, AV.sz, unVal, ownOk, fillAV, AV.sub, cvt_64j, cvt_64b, cvt_64w, cvt_8u, cvt_8w, bin_add64, bin_mul64, bin_sub64, bin_and51, bin_and32, bin_and1, bin_and8_1, bin_or64, bin_xor64, bin_or8, bin_shl64, bin_shl64j, bin_shr64, bin_shr64j, bin_shl8j, bin_shr8j, bin_quo64, bin_rem64, bin_quo32, bin_rem32, bin_addj, bin_subj, bin_quoj, bin_remj, bin_eqlj, bin_neqj, bin_lssj, bin_leqj, bin_gtrj, bin_geqj, bin_eql64, bin_lss64, bin_gtr64, bin_eql8, bin_rem8]; exact rfl) ?_))
        refine wp_r (by simp [runPre, AOp.ex, AOp.ex0, ex_mov, ex_bin, binA_lit, ex_cvt, ex_iaddrA, ex_iaddrS, ex_faddr, ex_load, ldA, ex_ext, ex_add64, add64A_un, ex_pick, ex_beq, ex_un, ex_len, lenA_sl, lenA_nil, lenA_str, lenA_own, lenRow_row, elA_own, elA_sl, elRow_row, ex_nilc, ex_build, ex_bslice, ex_fieldv, AOp.ro, AS.ev, AS.put, AS.fieldAddr, idxA_ptr, idxA_cptr, AS.peek, AS.poke, AS.blk, AS.setBlk, AV.nav, AV.upd, Blk.loc, Blk.cont, Blk.n, Blk.may, Blk.upd, AV.isAgg, AV.isTup, AV.sz, unVal, ownOk, fillAV, AV.sub, cvt_64j, cvt_64b, cvt_64w, cvt_8u, cvt_8w, bin_add64, bin_mul64, bin_sub64, bin_and51, bin_and32, bin_and1, bin_and8_1, bin_or64, bin_xor64, bin_or8, bin_shl64, bin_shl64j, bin_shr64, bin_shr64j, bin_shl8j, bin_shr8j, bin_quo64, bin_rem64, bin_quo32, bin_rem32, bin_addj, bin_subj, bin_quoj, bin_remj, bin_eqlj, bin_neqj, bin_lssj, bin_leqj, bin_gtrj, bin_geqj, bin_eql64, bin_lss64, bin_gtr64, bin_eql8, bin_rem8, s1]; exact rfl) ?_
        refine wp_r (by simp [runPre, AOp.ex, AOp.ex0, ex_mov, ex_bin, binA_lit, ex_cvt, ex_iaddrA, ex_iaddrS, ex_faddr, ex_load, ldA, ex_ext, ex_add64, add64A_un, ex_pick, ex_beq, ex_un, ex_len, lenA_sl, lenA_nil, lenA_str, lenA_own, lenRow_row, elA_own, elA_sl, elRow_row, ex_nilc, ex_build, ex_bslice, ex_fieldv, AOp.ro, AS.ev, AS.put, AS.fieldAddr, idxA_ptr, idxA_cptr, AS.peek, AS.poke, AS.blk, AS.setBlk, AV.nav, AV.upd, Blk.loc, Blk.cont, Blk.n, Blk.may, Blk.upd, AV.isAgg, AV.isTup, AV.sz, unVal, ownOk, fillAV, AV.sub, cvt_64j, cvt_64b, cvt_64w, cvt_8u, cvt_8w, bin_add64, bin_mul64, bin_sub64, bin_and51, bin_and32, bin_and1, bin_and8_1, bin_or64, bin_xor64, bin_or8, bin_shl64, bin_shl64j, bin_shr64, bin_shr64j, bin_shl8j, bin_shr8j, bin_quo64, bin_rem64, bin_quo32, bin_rem32, bin_addj, bin_subj, bin_quoj, bin_remj, bin_eqlj, bin_neqj, bin_lssj, bin_leqj, bin_gtrj, bin_geqj, bin_eql64, bin_lss64, bin_gtr64, bin_eql8, bin_rem8, q4]; exact rfl) ?_
        refine Exists.intro V' ?_
        exact Le.mk rfl (by simp [leT]) (by simp [leH, range_dl])
      · skip
        have gA1 : (dl A)[i]? = some (.lit (un (nth A i))) := by rw [dl_get]; simp [nth, hiA]
        have gA4 : ∀ h, (dl A)[i]'h = .lit (un (nth A i)) := fun h => by rw [List.getElem?_eq_getElem h] at gA1; exact Option.some.inj gA1
        have zB : nth B i = 0 := nth_out hiB
        have f1 : (sumC A B i + nth A i) % 18446744073709551616 = sumC A B i + nth A i := by omega
        have s1 : (sumC A B i + nth A i) / 256 % 18446744073709551616 = sumC A B (i + 1) := by simp only [sumC, zB]; omega
        have s2 : (sumC A B i + nth A i) % 256 = sumD A B i := by simp only [sumD, zB]; try omega
        refine wp_seq' (wp_seq' (wp_r (by simp [runPre, AOp.ex, AOp.ex0, ex_mov, ex_bin, binA_lit, ex_cvt, ex_iaddrA, ex_iaddrS, ex_faddr, ex_load, ldA, ex_ext, ex_add64, add64A_un, ex_pick, ex_beq, ex_un, ex_len, lenA_sl, lenA_nil, lenA_str, lenA_own, lenRow_row, elA_own, elA_sl, elRow_row, ex_nilc, ex_build, ex_bslice, ex_fieldv, AOp.ro, AS.ev, AS.put, AS.fieldAddr, idxA_ptr, idxA_cptr, AS.peek, AS.poke, AS.blk, AS.setBlk, AV.nav, AV.upd, Blk.loc, Blk.cont, Blk.n, Blk.may, Blk.upd, AV.isAgg, AV.isTup, AV.sz, unVal, ownOk, fillAV, AV.sub, cvt_64j, cvt_64b, cvt_64w, cvt_8u, cvt_8w, bin_add64, bin_mul64, bin_sub64, bin_and51, bin_and32, bin_and1, bin_and8_1, bin_or64, bin_xor64, bin_or8, bin_shl64, bin_shl64j, bin_shr64, bin_shr64j, bin_shl8j, bin_shr8j, bin_quo64, bin_rem64, bin_quo32, bin_rem32, bin_addj, bin_subj, bin_quoj, bin_remj, bin_eqlj, bin_neqj, bin_lssj, bin_leqj, bin_gtrj, bin_geqj, bin_eql64, bin_lss64, bin_gtr64, bin_eql8, bin_rem8, hiA, hiB, gA, gB, gA1, gA4, f1]; exact rfl) (wp_cond_t (by simp [AS.ev]) (wp_skip' ?_))))
        refine wp_seq' (wp_block' ?_)
        refine wp_seq' (wp_seq' (wp_r (by simp [runPre, AOp.ex, AOp.ex0, ex_mov, ex_bin, binA_lit, ex_cvt, ex_iaddrA, ex_iaddrS, ex_faddr, ex_load, ldA, ex_ext, ex_add64, add64A_un, ex_pick, ex_beq, ex_un, ex_len, lenA_sl, lenA_nil, lenA_str, lenA_own, lenRow_row, elA_own, elA_sl, elRow_row, ex_nilc, ex_build, ex_bslice, ex_fieldv, AOp.ro, AS.ev, AS.put, AS.fieldAddr, idxA_ptr, idxA_cptr, AS.peek, AS.poke, AS.blk, AS.setBlk, AV.nav, AV.upd, Blk.loc, Blk.cont, Blk.n, Blk.may, Blk.upd, AV.isAgg, AV.isTup, AV.sz, unVal, ownOk, fillAV, AV.sub, cvt_64j, cvt_64b, cvt_64w, cvt_8u, cvt_8w, bin_add64, bin_mul64, bin_sub64, bin_and51, bin_and32, bin_and1, bin_and8_1, bin_or64, bin_xor64, bin_or8, bin_shl64, bin_shl64j, bin_shr64, bin_shr64j, bin_shl8j, bin_shr8j, bin_quo64, bin_rem64, bin_quo32, bin_rem32, bin_addj, bin_subj, bin_quoj, bin_remj, bin_eqlj, bin_neqj, bin_lssj, bin_leqj, bin_gtrj, bin_geqj, bin_eql64, bin_lss64, bin_gtr64, bin_eql8, bin_rem8, hiA, hiB, gA, gB, gA1, gA4, f1]; exact rfl) (wp_cond_t (by simp [AS.ev]) (wp_r (by simp [runPre, AOp.ex, AOp.ex0, ex_mov, ex_bin, binA_lit, ex_cvt, ex_iaddrA, ex_iaddrS, ex_faddr, ex_load, ldA, ex_ext, ex_add64, add64A_un, ex_pick, ex_beq, ex_un, ex_len, lenA_sl, lenA_nil, lenA_str, lenA_own, lenRow_row, elA_own, elA_sl, elRow_row, ex_nilc, ex_build, ex_bslice, ex_fieldv, AOp.ro, AS.ev, AS.put, AS.fieldAddr, idxA_ptr, idxA_cptr, AS.peek, AS.poke, AS.blk, AS.setBlk, AV.nav, AV.upd, Blk.loc, Blk.cont, Blk.n, Blk.may, Blk.upd, AV.isAgg, AV.isTup, AV.sz, unVal, ownOk, fillAV, AV.sub, cvt_64j, cvt_64b, cvt_64w, cvt_8u, cvt_8w, bin_add64, bin_mul64, bin_sub64, bin_and51, bin_and32, bin_and1, bin_and8_1, bin_or64, bin_xor64, bin_or8, bin_shl64, bin_shl64j, bin_shr64, bin_shr64j, bin_shl8j, bin_shr8j, bin_quo64, bin_rem64, bin_quo32, bin_rem32, bin_addj, bin_subj, bin_quoj, bin_remj, bin_eqlj, bin_neqj, bin_lssj, bin_leqj, bin_gtrj, bin_geqj, bin_eql64, bin_lss64, bin_gtr64, bin_eql8, bin_rem8, hiA, hiB, gA, gB, gA1, gA4, f1]; exact rfl) ?_))))
        refine wp_seq' (wp_seq' (wp_r (by simp [runPre, AOp.ex, AOp.ex0, ex_mov, ex_bin, binA_lit, ex_cvt, ex_iaddrA, ex_iaddrS, ex_faddr, ex_load, ldA, ex_ext, ex_add64, add64A_un, ex_pick, ex_beq, ex_un, ex_len, lenA_sl, lenA_nil, lenA_str, lenA_own, lenRow_row, elA_own, elA_sl, elRow_row, ex_nilc, ex_build, ex_bslice, ex_fieldv, AOp.ro, AS.ev, AS.put, AS.fieldAddr, idxA_ptr, idxA_cptr, AS.peek, AS.poke, AS.blk, AS.setBlk, AV.nav, AV.upd, Blk.loc, Blk.cont, Blk.n, Blk.may, Blk.upd, AV.isAgg, AV.isTup, AV.sz, unVal, ownOk, fillAV, AV.sub, cvt_64j, cvt_64b, cvt_64w, cvt_8u, cvt_8w, bin_add64, bin_mul64, bin_sub64, bin_and51, bin_and32, bin_and1, bin_and8_1, bin_or64, bin_xor64, bin_or8, bin_shl64, bin_shl64j, bin_shr64, bin_shr64j, bin_shl8j, bin_shr8j, bin_quo64, bin_rem64, bin_quo32, bin_rem32, bin_addj, bin_subj, bin_quoj, bin_remj, bin_eqlj, bin_neqj, bin_lssj, bin_leqj, bin_gtrj, bin_geqj, bin_eql64, bin_lss64, bin_gtr64, bin_eql8, bin_rem8, hiA, hiB, gA, gB, gA1, gA4, f1]; exact rfl) (wp_cond_f (by simp [AS.ev]) (wp_skip' ?_))))
        refine wp_sg (areg_run 4 (by simp [runPre, AOp.ex, AOp.ex0, ex_mov, ex_bin, binA_lit, ex_cvt, ex_iaddrA, ex_iaddrS, ex_faddr, ex_load, ldA, ex_ext, ex_add64, add64A_un, ex_pick, ex_beq, ex_un, ex_len, lenA_sl, lenA_nil, lenA_str, lenA_own, lenRow_row, elA_own, elA_sl, elRow_row, ex_nilc, ex_build, ex_bslice, ex_fieldv, AOp.ro, AS.ev, AS.put, AS.fieldAddr, idxA_ptr, idxA_cptr, AS.peek, AS.poke, AS.blk, AS.setBlk, AV.nav, AV.upd, Blk.loc, Blk.cont, Blk.n, Blk.may, Blk.upd, AV.isAgg, AV.isTup, AV.sz, unVal, ownOk, fillAV, AV.sub, cvt_64j, cvt_64b, cvt_64w, cvt_8u, cvt_8w, bin_add64, bin_mul64, bin_sub64, bin_and51, bin_and32, bin_and1, bin_and8_1, bin_or64, bin_xor64, bin_or8, bin_shl64, bin_shl64j, bin_shr64, bin_shr64j, bin_shl8j, bin_shr8j, bin_quo64, bin_rem64, bin_quo32, bin_rem32, bin_addj, bin_subj, bin_quoj, bin_remj, bin_eqlj, bin_neqj, bin_lssj, bin_leqj, bin_gtrj, bin_geqj, bin_eql64, bin_lss64, bin_gtr64, bin_eql8, bin_rem8, s2]; exact rfl) (areg_ap rfl rfl (by simp [AS.ev, AS.coe]; exact rfl) bd1 bd2 fun V' => areg_end (by simp [runPre, AOp.ex, AOp.ex0, ex_mov, ex_bin, binA_lit, ex_cvt, ex_iaddrA, ex_iaddrS, ex_faddr, ex_load, ldA, ex_ext, ex_add64, add64A_un, ex_pick, ex_beq, ex_un, ex_len, lenA_sl, lenA_nil, lenA_str, lenA_own, lenRow_row, elA_own, elA_sl, elRow_row, ex_nilc, ex_build, ex_bslice, ex_fieldv, AOp.ro, AS.ev, AS.put, AS.fieldAddr, idxA_ptr, idxA_cptr, AS.peek, AS.poke, AS.blk, AS.setBlk, AV.nav, AV.upd, Blk.loc, Blk.cont, Blk.n, Blk.may, Blk.upd, AV.isAgg, AV.isTup, AV.sz, unVal, ownOk, fillAV, AV.sub, cvt_64j, cvt_64b, cvt_64w, cvt_8u, cvt_8w, bin_add64, bin_mul64, bin_sub64, bin_and51, bin_and32, bin_and1, bin_and8_1, bin_or64, bin_xor64, bin_or8, bin_shl64, bin_shl64j, bin_shr64, bin_shr64j, bin_shl8j, bin_shr8j, bin_quo64, bin_rem64, bin_quo32, bin_rem32, bin_addj, bin_subj, bin_quoj, bin_remj, bin_eqlj, bin_neqj, bin_lssj, bin_leqj, bin_gtrj, bin_geqj, bin_eql64, bin_lss64, bin_gtr64, bin_eql8, bin_rem8]; exact rfl) ?_))
        refine wp_r (by simp [runPre, AOp.ex, AOp.ex0, ex_mov, ex_bin, binA_lit, ex_cvt, ex_iaddrA, ex_iaddrS, ex_faddr, ex_load, ldA, ex_ext, ex_add64, add64A_un, ex_pick, ex_beq, ex_un, ex_len, lenA_sl, lenA_nil, lenA_str, lenA_own, lenRow_row, elA_own, elA_sl, elRow_row, ex_nilc, ex_build, ex_bslice, ex_fieldv, AOp.ro, AS.ev, AS.put, AS.fieldAddr, idxA_ptr, idxA_cptr, AS.peek, AS.poke, AS.blk, AS.setBlk, AV.nav, AV.upd, Blk.loc, Blk.cont, Blk.n, Blk.may, Blk.upd, AV.isAgg, AV.isTup, AV.sz, unVal, ownOk, fillAV, AV.sub, cvt_64j, cvt_64b, cvt_64w, cvt_8u, cvt_8w, bin_add64, bin_mul64, bin_sub64, bin_and51, bin_and32, bin_and1, bin_and8_1, bin_or64, bin_xor64, bin_or8, bin_shl64, bin_shl64j, bin_shr64, bin_shr64j, bin_shl8j, bin_shr8j, bin_quo64, bin_rem64, bin_quo32, bin_rem32, bin_addj, bin_subj, bin_quoj, bin_remj, bin_eqlj, bin_neqj, bin_lssj, bin_leqj, bin_gtrj, bin_geqj, bin_eql64, bin_lss64, bin_gtr64, bin_eql8, bin_rem8, s1]; exact rfl) ?_
        refine wp_r (by simp [runPre, AOp.ex, AOp.ex0, ex_mov, ex_bin, binA_lit, ex_cvt, ex_iaddrA, ex_iaddrS, ex_faddr, ex_load, ldA, ex_ext, ex_add64, add64A_un, ex_pick, ex_beq, ex_un, ex_len, lenA_sl, lenA_nil, lenA_str, lenA_own, lenRow_row, elA_own, elA_sl, elRow_row, ex_nilc, ex_build, ex_bslice, ex_fieldv, AOp.ro, AS.ev, AS.put, AS.fieldAddr, idxA_ptr, idxA_cptr, AS.peek, AS.poke, AS.blk, AS.setBlk, AV.nav, AV.upd, Blk.loc, Blk.cont, Blk.n, Blk.may, Blk.upd, AV.isAgg, AV.isTup, AV.sz, unVal, ownOk, fillAV, AV.sub, cvt_64j, cvt_64b, cvt_64w, cvt_8u, cvt_8w, bin_add64, bin_mul64, bin_sub64, bin_and51, bin_and32, bin_and1, bin_and8_1, bin_or64, bin_xor64, bin_or8, bin_shl64, bin_shl64j, bin_shr64, bin_shr64j, bin_shl8j, bin_shr8j, bin_quo64, bin_rem64, bin_quo32, bin_rem32, bin_addj, bin_subj, bin_quoj, bin_remj, bin_eqlj, bin_neqj, bin_lssj, bin_leqj, bin_gtrj, bin_geqj, bin_eql64, bin_lss64, bin_gtr64, bin_eql8, bin_rem8, q4]; exact rfl) ?_
        refine Exists.intro V' ?_
        exact Le.mk rfl (by simp [leT]) (by simp [leH, range_dl])
    · by_cases hiB : i < B.length
      · skip
        have zA : nth A i = 0 := nth_out hiA
        have gB1 : (dl B)[i]? = some (.lit (un (nth B i))) := by rw [dl_get]; simp [nth, hiB]
        have gB4 : ∀ h, (dl B)[i]'h = .lit (un (nth B i)) := fun h => by rw [List.getElem?_eq_getElem h] at gB1; exact Option.some.inj gB1
        have f2 : (sumC A B i + nth B i) % 18446744073709551616 = sumC A B i + nth B i := by omega
        have s1 : (sumC A B i + nth B i) / 256 % 18446744073709551616 = sumC A B (i + 1) := by simp only [sumC, zA]; omega
        have s2 : (sumC A B i + nth B i) % 256 = sumD A B i := by simp only [sumD, zA]; try omega
        refine wp_seq' (wp_seq' (wp_r (by simp [runPre, AOp.ex, AOp.ex0, ex_mov, ex_bin, binA_lit, ex_cvt, ex_iaddrA, ex_iaddrS, ex_faddr, ex_load, ldA, ex_ext, ex_add64, add64A_un, ex_pick, ex_beq, ex_un, ex_len, lenA_sl, lenA_nil, lenA_str, lenA_own, lenRow_row, elA_own, elA_sl, elRow_row, ex_nilc, ex_build, ex_bslice, ex_fieldv, AOp.ro, AS.ev, AS.put, AS.fieldAddr, idxA_ptr, idxA_cptr, AS.peek, AS.poke, AS.blk, AS.setBlk, AV.nav, AV.upd, Blk.loc, Blk.cont, Blk.n, Blk.may, Blk.upd, AV.isAgg, AV.isTup, AV.sz, unVal, ownOk, fillAV, AV.sub, cvt_64j, cvt_64b, cvt_64w, cvt_8u, cvt_8w, bin_add64, bin_mul64, bin_sub64, bin_and51, bin_and32, bin_and1, bin_and8_1, bin_or64, bin_xor64, bin_or8, bin_shl64, bin_shl64j, bin_shr64, bin_shr64j, bin_shl8j, bin_shr8j, bin_quo64, bin_rem64, bin_quo32, bin_rem32, bin_addj, bin_subj, bin_quoj, bin_remj, bin_eqlj, bin_neqj, bin_lssj, bin_leqj, bin_gtrj, bin_geqj, bin_eql64, bin_lss64, bin_gtr64, bin_eql8, bin_rem8, hiA, hiB, gA, gB, gB1, gB4, f2]; exact rfl) (wp_cond_t (by simp [AS.ev]) (wp_skip' ?_))))
        refine wp_seq' (wp_block' ?_)
        refine wp_seq' (wp_seq' (wp_r (by simp [runPre, AOp.ex, AOp.ex0, ex_mov, ex_bin, binA_lit, ex_cvt, ex_iaddrA, ex_iaddrS, ex_faddr, ex_load, ldA, ex_ext, ex_add64, add64A_un, ex_pick, ex_beq, ex_un, ex_len, lenA_sl, lenA_nil, lenA_str, lenA_own, lenRow_row, elA_own, elA_sl, elRow_row, ex_nilc, ex_build, ex_bslice, ex_fieldv, AOp.ro, AS.ev, AS.put, AS.fieldAddr, idxA_ptr, idxA_cptr, AS.peek, AS.poke, AS.blk, AS.setBlk, AV.nav, AV.upd, Blk.loc, Blk.cont, Blk.n, Blk.may, Blk.upd, AV.isAgg, AV.isTup, AV.sz, unVal, ownOk, fillAV, AV.sub, cvt_64j, cvt_64b, cvt_64w, cvt_8u, cvt_8w, bin_add64, bin_mul64, bin_sub64, bin_and51, bin_and32, bin_and1, bin_and8_1, bin_or64, bin_xor64, bin_or8, bin_shl64, bin_shl64j, bin_shr64, bin_shr64j, bin_shl8j, bin_shr8j, bin_quo64, bin_rem64, bin_quo32, bin_rem32, bin_addj, bin_subj, bin_quoj, bin_remj, bin_eqlj, bin_neqj, bin_lssj, bin_leqj, bin_gtrj, bin_geqj, bin_eql64, bin_lss64, bin_gtr64, bin_eql8, bin_rem8, hiA, hiB, gA, gB, gB1, gB4, f2]; exact rfl) (wp_cond_f (by simp [AS.ev]) (wp_skip' ?_))))
        refine wp_seq' (wp_seq' (wp_r (by simp [runPre, AOp.ex, AOp.ex0, ex_mov, ex_bin, binA_lit, ex_cvt, ex_iaddrA, ex_iaddrS, ex_faddr, ex_load, ldA, ex_ext, ex_add64, add64A_un, ex_pick, ex_beq, ex_un, ex_len, lenA_sl, lenA_nil, lenA_str, lenA_own, lenRow_row, elA_own, elA_sl, elRow_row, ex_nilc, ex_build, ex_bslice, ex_fieldv, AOp.ro, AS.ev, AS.put, AS.fieldAddr, idxA_ptr, idxA_cptr, AS.peek, AS.poke, AS.blk, AS.setBlk, AV.nav, AV.upd, Blk.loc, Blk.cont, Blk.n, Blk.may, Blk.upd, AV.isAgg, AV.isTup, AV.sz, unVal, ownOk, fillAV, AV.sub, cvt_64j, cvt_64b, cvt_64w, cvt_8u, cvt_8w, bin_add64, bin_mul64, bin_sub64, bin_and51, bin_and32, bin_and1, bin_and8_1, bin_or64, bin_xor64, bin_or8, bin_shl64, bin_shl64j, bin_shr64, bin_shr64j, bin_shl8j, bin_shr8j, bin_quo64, bin_rem64, bin_quo32, bin_rem32, bin_addj, bin_subj, bin_quoj, bin_remj, bin_eqlj, bin_neqj, bin_lssj, bin_leqj, bin_gtrj, bin_geqj, bin_eql64, bin_lss64, bin_gtr64, bin_eql8, bin_rem8, hiA, hiB, gA, gB, gB1, gB4, f2]; exact rfl) (wp_cond_t (by simp [AS.ev]) (wp_r (by simp [runPre, AOp.ex, AOp.ex0, ex_mov, ex_bin, binA_lit, ex_cvt, ex_iaddrA, ex_iaddrS, ex_faddr, ex_load, ldA, ex_ext, ex_add64, add64A_un, ex_pick, ex_beq, ex_un, ex_len, lenA_sl, lenA_nil, lenA_str, lenA_own, lenRow_row, elA_own, elA_sl, elRow_row, ex_nilc, ex_build, ex_bslice, ex_fieldv, AOp.ro, AS.ev, AS.put, AS.fieldAddr, idxA_ptr, idxA_cptr, AS.peek, AS.poke, AS.blk, AS.setBlk, AV.nav, AV.upd, Blk.loc, Blk.cont, Blk.n, Blk.may, Blk.upd, AV.isAgg, AV.isTup, AV.sz, unVal, ownOk, fillAV, AV.sub, cvt_64j, cvt_64b, cvt_64w, cvt_8u, cvt_8w, bin_add64, bin_mul64, bin_sub64, bin_and51, bin_and32, bin_and1, bin_and8_1, bin_or64, bin_xor64, bin_or8, bin_shl64, bin_shl64j, bin_shr64, bin_shr64j, bin_shl8j, bin_shr8j, bin_quo64, bin_rem64, bin_quo32, bin_rem32, bin_addj, bin_subj, bin_quoj, bin_remj, bin_eqlj, bin_neqj, bin_lssj, bin_leqj, bin_gtrj, bin_geqj, bin_eql64, bin_lss64, bin_gtr64, bin_eql8, bin_rem8, hiA, hiB, gA, gB, gB1, gB4, f2]; exact rfl) ?_))))
        refine wp_sg (areg_run 4 (by simp [runPre, AOp.ex, AOp.ex0, ex_mov, ex_bin, binA_lit, ex_cvt, ex_iaddrA, ex_iaddrS, ex_faddr, ex_load, ldA, ex_ext, ex_add64, add64A_un, ex_pick, ex_beq, ex_un, ex_len, lenA_sl, lenA_nil, lenA_str, lenA_own, lenRow_row, elA_own, elA_sl, elRow_row, ex_nilc, ex_build, ex_bslice, ex_fieldv, AOp.ro, AS.ev, AS.put, AS.fieldAddr, idxA_ptr, idxA_cptr, AS.peek, AS.poke, AS.blk, AS.setBlk, AV.nav, AV.upd, Blk.loc, Blk.cont, Blk.n, Blk.may, Blk.upd, AV.isAgg, AV.isTup, AV.sz, unVal, ownOk, fillAV, AV.sub, cvt_64j, cvt_64b, cvt_64w, cvt_8u, cvt_8w, bin_add64, bin_mul64, bin_sub64, bin_and51, bin_and32, bin_and1, bin_and8_1, bin_or64, bin_xor64, bin_or8, bin_shl64, bin_shl64j, bin_shr64, bin_shr64j, bin_shl8j, bin_shr8j, bin_quo64, bin_rem64, bin_quo32, bin_rem32, bin_addj, bin_subj, bin_quoj, bin_remj, bin_eqlj, bin_neqj, bin_lssj, bin_leqj, bin_gtrj, bin_geqj, bin_eql64, bin_lss64, bin_gtr64, bin_eql8, bin_rem8, s2]; exact rfl) (areg_ap rfl rfl (by simp [AS.ev, AS.coe]; exact rfl) bd1 bd2 fun V' => areg_end (by simp [runPre, AOp.ex, AOp.ex0, ex_mov, ex_bin, binA_lit, ex_cvt, ex_iaddrA, ex_iaddrS, ex_faddr, ex_load, ldA, ex_ext, ex_add64, add64A_un, ex_pick, ex_beq, ex_un, ex_len, lenA_sl, lenA_nil, lenA_str, lenA_own, lenRow_row, elA_own, elA_sl, elRow_row, ex_nilc, ex_build, ex_bslice, ex_fieldv, AOp.ro, AS.ev, AS.put, AS.fieldAddr, idxA_ptr, idxA_cptr, AS.peek, AS.poke, AS.blk, AS.setBlk, AV.nav, AV.upd, Blk.loc, Blk.cont, Blk.n, Blk.may, Blk.upd, AV.isAgg, AV.isTup, AV.sz, unVal, ownOk, fillAV, AV.sub, cvt_64j, cvt_64b, cvt_64w, cvt_8u, cvt_8w, bin_add64, bin_mul64, bin_sub64, bin_and51, bin_and32, bin_and1, bin_and8_1, bin_or64, bin_xor64, bin_or8, bin_shl64, bin_shl64j, bin_shr64, bin_shr64j, bin_shl8j, bin_shr8j, bin_quo64, bin_rem64, bin_quo32, bin_rem32, bin_addj, bin_subj, bin_quoj, bin_remj, bin_eqlj, bin_neqj, bin_lssj, bin_leqj, bin_gtrj, bin_geqj, bin_eql64, bin_lss64, bin_gtr64, bin_eql8, bin_rem8]; exact rfl) ?_))
        refine wp_r (by simp [runPre, AOp.ex, AOp.ex0, ex_mov, ex_bin, binA_lit, ex_cvt, ex_iaddrA, ex_iaddrS, ex_faddr, ex_load, ldA, ex_ext, ex_add64, add64A_un, ex_pick, ex_beq, ex_un, ex_len, lenA_sl, lenA_nil, lenA_str, lenA_own, lenRow_row, elA_own, elA_sl, elRow_row, ex_nilc, ex_build, ex_bslice, ex_fieldv, AOp.ro, AS.ev, AS.put, AS.fieldAddr, idxA_ptr, idxA_cptr, AS.peek, AS.poke, AS.blk, AS.setBlk, AV.nav, AV.upd, Blk.loc, Blk.cont, Blk.n, Blk.may, Blk.upd, AV.isAgg, AV.isTup, AV.sz, unVal, ownOk, fillAV, AV.sub, cvt_64j, cvt_64b, cvt_64w, cvt_8u, cvt_8w, bin_add64, bin_mul64, bin_sub64, bin_and51, bin_and32, bin_and1, bin_and8_1, bin_or64, bin_xor64, bin_or8, bin_shl64, bin_shl64j, bin_shr64, bin_shr64j, bin_shl8j, bin_shr8j, bin_quo64, bin_rem64, bin_quo32, bin_rem32, bin_addj, bin_subj, bin_quoj, bin_remj, bin_eqlj, bin_neqj, bin_lssj, bin_leqj, bin_gtrj, bin_geqj, bin_eql64, bin_lss64, bin_gtr64, bin_eql8, bin_rem8, s1]; exact rfl) ?_
        refine wp_r (by simp [runPre, AOp.ex, AOp.ex0, ex_mov, ex_bin, binA_lit, ex_cvt, ex_iaddrA, ex_iaddrS, ex_faddr, ex_load, ldA, ex_ext, ex_add64, add64A_un, ex_pick, ex_beq, ex_un, ex_len, lenA_sl, lenA_nil, lenA_str, lenA_own, lenRow_row, elA_own, elA_sl, elRow_row, ex_nilc, ex_build, ex_bslice, ex_fieldv, AOp.ro, AS.ev, AS.put, AS.fieldAddr, idxA_ptr, idxA_cptr, AS.peek, AS.poke, AS.blk, AS.setBlk, AV.nav, AV.upd, Blk.loc, Blk.cont, Blk.n, Blk.may, Blk.upd, AV.isAgg, AV.isTup, AV.sz, unVal, ownOk, fillAV, AV.sub, cvt_64j, cvt_64b, cvt_64w, cvt_8u, cvt_8w, bin_add64, bin_mul64, bin_sub64, bin_and51, bin_and32, bin_and1, bin_and8_1, bin_or64, bin_xor64, bin_or8, bin_shl64, bin_shl64j, bin_shr64, bin_shr64j, bin_shl8j, bin_shr8j, bin_quo64, bin_rem64, bin_quo32, bin_rem32, bin_addj, bin_subj, bin_quoj, bin_remj, bin_eqlj, bin_neqj, bin_lssj, bin_leqj, bin_gtrj, bin_geqj, bin_eql64, bin_lss64, bin_gtr64, bin_eql8, bin_rem8, q4]; exact rfl) ?_
        refine Exists.intro V' ?_
        exact Le.mk rfl (by simp [leT]) (by simp [leH, range_dl])
      · skip
        have zA : nth A i = 0 := nth_out hiA
        have zB : nth B i = 0 := nth_out hiB
        have s1 : (sumC A B i) / 256 % 18446744073709551616 = sumC A B (i + 1) := by simp only [sumC, zA, zB]; omega
        have s2 : (sumC A B i) % 256 = sumD A B i := by simp only [sumD, zA, zB]; try omega
        have hcp : 0 < sumC A B i := by
          apply Nat.pos_of_ne_zero; intro h0
          have : i = max A.length B.length := by omega
          subst this
          simp only [sumLen, h0, if_true] at hi; omega
        refine wp_seq' (wp_seq' (wp_r (by simp [runPre, AOp.ex, AOp.ex0, ex_mov, ex_bin, binA_lit, ex_cvt, ex_iaddrA, ex_iaddrS, ex_faddr, ex_load, ldA, ex_ext, ex_add64, add64A_un, ex_pick, ex_beq, ex_un, ex_len, lenA_sl, lenA_nil, lenA_str, lenA_own, lenRow_row, elA_own, elA_sl, elRow_row, ex_nilc, ex_build, ex_bslice, ex_fieldv, AOp.ro, AS.ev, AS.put, AS.fieldAddr, idxA_ptr, idxA_cptr, AS.peek, AS.poke, AS.blk, AS.setBlk, AV.nav, AV.upd, Blk.loc, Blk.cont, Blk.n, Blk.may, Blk.upd, AV.isAgg, AV.isTup, AV.sz, unVal, ownOk, fillAV, AV.sub, cvt_64j, cvt_64b, cvt_64w, cvt_8u, cvt_8w, bin_add64, bin_mul64, bin_sub64, bin_and51, bin_and32, bin_and1, bin_and8_1, bin_or64, bin_xor64, bin_or8, bin_shl64, bin_shl64j, bin_shr64, bin_shr64j, bin_shl8j, bin_shr8j, bin_quo64, bin_rem64, bin_quo32, bin_rem32, bin_addj, bin_subj, bin_quoj, bin_remj, bin_eqlj, bin_neqj, bin_lssj, bin_leqj, bin_gtrj, bin_geqj, bin_eql64, bin_lss64, bin_gtr64, bin_eql8, bin_rem8, hiA, hiB, gA, gB, hcp]; exact rfl) (wp_cond_t (by simp [AS.ev]) (wp_skip' ?_))))
        refine wp_seq' (wp_block' ?_)
        refine wp_seq' (wp_seq' (wp_r (by simp [runPre, AOp.ex, AOp.ex0, ex_mov, ex_bin, binA_lit, ex_cvt, ex_iaddrA, ex_iaddrS, ex_faddr, ex_load, ldA, ex_ext, ex_add64, add64A_un, ex_pick, ex_beq, ex_un, ex_len, lenA_sl, lenA_nil, lenA_str, lenA_own, lenRow_row, elA_own, elA_sl, elRow_row, ex_nilc, ex_build, ex_bslice, ex_fieldv, AOp.ro, AS.ev, AS.put, AS.fieldAddr, idxA_ptr, idxA_cptr, AS.peek, AS.poke, AS.blk, AS.setBlk, AV.nav, AV.upd, Blk.loc, Blk.cont, Blk.n, Blk.may, Blk.upd, AV.isAgg, AV.isTup, AV.sz, unVal, ownOk, fillAV, AV.sub, cvt_64j, cvt_64b, cvt_64w, cvt_8u, cvt_8w, bin_add64, bin_mul64, bin_sub64, bin_and51, bin_and32, bin_and1, bin_and8_1, bin_or64, bin_xor64, bin_or8, bin_shl64, bin_shl64j, bin_shr64, bin_shr64j, bin_shl8j, bin_shr8j, bin_quo64, bin_rem64, bin_quo32, bin_rem32, bin_addj, bin_subj, bin_quoj, bin_remj, bin_eqlj, bin_neqj, bin_lssj, bin_leqj, bin_gtrj, bin_geqj, bin_eql64, bin_lss64, bin_gtr64, bin_eql8, bin_rem8, hiA, hiB, gA, gB, hcp]; exact rfl) (wp_cond_f (by simp [AS.ev]) (wp_skip' ?_))))
        refine wp_seq' (wp_seq' (wp_r (by simp [runPre, AOp.ex, AOp.ex0, ex_mov, ex_bin, binA_lit, ex_cvt, ex_iaddrA, ex_iaddrS, ex_faddr, ex_load, ldA, ex_ext, ex_add64, add64A_un, ex_pick, ex_beq, ex_un, ex_len, lenA_sl, lenA_nil, lenA_str, lenA_own, lenRow_row, elA_own, elA_sl, elRow_row, ex_nilc, ex_build, ex_bslice, ex_fieldv, AOp.ro, AS.ev, AS.put, AS.fieldAddr, idxA_ptr, idxA_cptr, AS.peek, AS.poke, AS.blk, AS.setBlk, AV.nav, AV.upd, Blk.loc, Blk.cont, Blk.n, Blk.may, Blk.upd, AV.isAgg, AV.isTup, AV.sz, unVal, ownOk, fillAV, AV.sub, cvt_64j, cvt_64b, cvt_64w, cvt_8u, cvt_8w, bin_add64, bin_mul64, bin_sub64, bin_and51, bin_and32, bin_and1, bin_and8_1, bin_or64, bin_xor64, bin_or8, bin_shl64, bin_shl64j, bin_shr64, bin_shr64j, bin_shl8j, bin_shr8j, bin_quo64, bin_rem64, bin_quo32, bin_rem32, bin_addj, bin_subj, bin_quoj, bin_remj, bin_eqlj, bin_neqj, bin_lssj, bin_leqj, bin_gtrj, bin_geqj, bin_eql64, bin_lss64, bin_gtr64, bin_eql8, bin_rem8, hiA, hiB, gA, gB, hcp]; exact rfl) (wp_cond_f (by simp [AS.ev]) (wp_skip' ?_))))
        refine wp_sg (areg_run 4 (by simp [runPre, AOp.ex, AOp.ex0, ex_mov, ex_bin, binA_lit, ex_cvt, ex_iaddrA, ex_iaddrS, ex_faddr, ex_load, ldA, ex_ext, ex_add64, add64A_un, ex_pick, ex_beq, ex_un, ex_len, lenA_sl, lenA_nil, lenA_str, lenA_own, lenRow_row, elA_own, elA_sl, elRow_row, ex_nilc, ex_build, ex_bslice, ex_fieldv, AOp.ro, AS.ev, AS.put, AS.fieldAddr, idxA_ptr, idxA_cptr, AS.peek, AS.poke, AS.blk, AS.setBlk, AV.nav, AV.upd, Blk.loc, Blk.cont, Blk.n, Blk.may, Blk.upd, AV.isAgg, AV.isTup, AV.sz, unVal, ownOk, fillAV, AV.sub, cvt_64j, cvt_64b, cvt_64w, cvt_8u, cvt_8w, bin_add64, bin_mul64, bin_sub64, bin_and51, bin_and32, bin_and1, bin_and8_1, bin_or64, bin_xor64, bin_or8, bin_shl64, bin_shl64j, bin_shr64, bin_shr64j, bin_shl8j, bin_shr8j, bin_quo64, bin_rem64, bin_quo32, bin_rem32, bin_addj, bin_subj, bin_quoj, bin_remj, bin_eqlj, bin_neqj, bin_lssj, bin_leqj, bin_gtrj, bin_geqj, bin_eql64, bin_lss64, bin_gtr64, bin_eql8, bin_rem8, s2]; exact rfl) (areg_ap rfl rfl (by simp [AS.ev, AS.coe]; exact rfl) bd1 bd2 fun V' => areg_end (by simp [runPre, AOp.ex, AOp.ex0, ex_mov, ex_bin, binA_lit, ex_cvt, ex_iaddrA, ex_iaddrS, ex_faddr, ex_load, ldA, ex_ext, ex_add64, add64A_un, ex_pick, ex_beq, ex_un, ex_len, lenA_sl, lenA_nil, lenA_str, lenA_own, lenRow_row, elA_own, elA_sl, elRow_row, ex_nilc, ex_build, ex_bslice, ex_fieldv, AOp.ro, AS.ev, AS.put, AS.fieldAddr, idxA_ptr, idxA_cptr, AS.peek, AS.poke, AS.blk, AS.setBlk, AV.nav, AV.upd, Blk.loc, Blk.cont, Blk.n, Blk.may, Blk.upd, AV.isAgg, AV.isTup, AV.sz, unVal, ownOk, fillAV, AV.sub, cvt_64j, cvt_64b, cvt_64w, cvt_8u, cvt_8w, bin_add64, bin_mul64, bin_sub64, bin_and51, bin_and32, bin_and1, bin_and8_1, bin_or64, bin_xor64, bin_or8, bin_shl64, bin_shl64j, bin_shr64, bin_shr64j, bin_shl8j, bin_shr8j, bin_quo64, bin_rem64, bin_quo32, bin_rem32, bin_addj, bin_subj, bin_quoj, bin_remj, bin_eqlj, bin_neqj, bin_lssj, bin_leqj, bin_gtrj, bin_geqj, bin_eql64, bin_lss64, bin_gtr64, bin_eql8, bin_rem8]; exact rfl) ?_))
        refine wp_r (by simp [runPre, AOp.ex, AOp.ex0, ex_mov, ex_bin, binA_lit, ex_cvt, ex_iaddrA, ex_iaddrS, ex_faddr, ex_load, ldA, ex_ext, ex_add64, add64A_un, ex_pick, ex_beq, ex_un, ex_len, lenA_sl, lenA_nil, lenA_str, lenA_own, lenRow_row, elA_own, elA_sl, elRow_row, ex_nilc, ex_build, ex_bslice, ex_fieldv, AOp.ro, AS.ev, AS.put, AS.fieldAddr, idxA_ptr, idxA_cptr, AS.peek, AS.poke, AS.blk, AS.setBlk, AV.nav, AV.upd, Blk.loc, Blk.cont, Blk.n, Blk.may, Blk.upd, AV.isAgg, AV.isTup, AV.sz, unVal, ownOk, fillAV, AV.sub, cvt_64j, cvt_64b, cvt_64w, cvt_8u, cvt_8w, bin_add64, bin_mul64, bin_sub64, bin_and51, bin_and32, bin_and1, bin_and8_1, bin_or64, bin_xor64, bin_or8, bin_shl64, bin_shl64j, bin_shr64, bin_shr64j, bin_shl8j, bin_shr8j, bin_quo64, bin_rem64, bin_quo32, bin_rem32, bin_addj, bin_subj, bin_quoj, bin_remj, bin_eqlj, bin_neqj, bin_lssj, bin_leqj, bin_gtrj, bin_geqj, bin_eql64, bin_lss64, bin_gtr64, bin_eql8, bin_rem8, s1]; exact rfl) ?_
        refine wp_r (by simp [runPre, AOp.ex, AOp.ex0, ex_mov, ex_bin, binA_lit, ex_cvt, ex_iaddrA, ex_iaddrS, ex_faddr, ex_load, ldA, ex_ext, ex_add64, add64A_un, ex_pick, ex_beq, ex_un, ex_len, lenA_sl, lenA_nil, lenA_str, lenA_own, lenRow_row, elA_own, elA_sl, elRow_row, ex_nilc, ex_build, ex_bslice, ex_fieldv, AOp.ro, AS.ev, AS.put, AS.fieldAddr, idxA_ptr, idxA_cptr, AS.peek, AS.poke, AS.blk, AS.setBlk, AV.nav, AV.upd, Blk.loc, Blk.cont, Blk.n, Blk.may, Blk.upd, AV.isAgg, AV.isTup, AV.sz, unVal, ownOk, fillAV, AV.sub, cvt_64j, cvt_64b, cvt_64w, cvt_8u, cvt_8w, bin_add64, bin_mul64, bin_sub64, bin_and51, bin_and32, bin_and1, bin_and8_1, bin_or64, bin_xor64, bin_or8, bin_shl64, bin_shl64j, bin_shr64, bin_shr64j, bin_shl8j, bin_shr8j, bin_quo64, bin_rem64, bin_quo32, bin_rem32, bin_addj, bin_subj, bin_quoj, bin_remj, bin_eqlj, bin_neqj, bin_lssj, bin_leqj, bin_gtrj, bin_geqj, bin_eql64, bin_lss64, bin_gtr64, bin_eql8, bin_rem8, q4]; exact rfl) ?_
        refine Exists.intro V' ?_
        exact Le.mk rfl (by simp [leT]) (by simp [leH, range_dl])
  · intro V
    have hiA : ¬ sumLen A B < A.length := by omega
    have hiB : ¬ sumLen A B < B.length := by omega
    have hp : plusL A B = (List.range (sumLen A B)).map (sumD A B) := rfl
    rw [hp]
    rw [hce]
    generalize (List.range (sumLen A B)).map (sumD A B) = L at *
    refine wp_seq' (wp_seq' (wp_r (by simp [runPre, AOp.ex, AOp.ex0, ex_mov, ex_bin, binA_lit, ex_cvt, ex_iaddrA, ex_iaddrS, ex_faddr, ex_load, ldA, ex_ext, ex_add64, add64A_un, ex_pick, ex_beq, ex_un, ex_len, lenA_sl, lenA_nil, lenA_str, lenA_own, lenRow_row, elA_own, elA_sl, elRow_row, ex_nilc, ex_build, ex_bslice, ex_fieldv, AOp.ro, AS.ev, AS.put, AS.fieldAddr, idxA_ptr, idxA_cptr, AS.peek, AS.poke, AS.blk, AS.setBlk, AV.nav, AV.upd, Blk.loc, Blk.cont, Blk.n, Blk.may, Blk.upd, AV.isAgg, AV.isTup, AV.sz, unVal, ownOk, fillAV, AV.sub, cvt_64j, cvt_64b, cvt_64w, cvt_8u, cvt_8w, bin_add64, bin_mul64, bin_sub64, bin_and51, bin_and32, bin_and1, bin_and8_1, bin_or64, bin_xor64, bin_or8, bin_shl64, bin_shl64j, bin_shr64, bin_shr64j, bin_shl8j, bin_shr8j, bin_quo64, bin_rem64, bin_quo32, bin_rem32, bin_addj, bin_subj, bin_quoj, bin_remj, bin_eqlj, bin_neqj, bin_lssj, bin_leqj, bin_gtrj, bin_geqj, bin_eql64, bin_lss64, bin_gtr64, bin_eql8, bin_rem8, hiA, hiB, gA, gB]; exact rfl) (wp_cond_f (by simp [AS.ev]) (wp_exit' (if_hit rfl ?_)))))
    repeat (first | (with_reducible apply wp_sr); focus (simp [runPre, AOp.ex, AOp.ex0, ex_mov, ex_bin, binA_lit, ex_cvt, ex_iaddrA, ex_iaddrS, ex_faddr, ex_load, ldA, ex_ext, ex_add64, add64A_un, ex_pick, ex_beq, ex_un, ex_len, lenA_sl, lenA_nil, lenA_str, lenA_own, lenRow_row, elA_own, elA_sl, elRow_row, ex_nilc, ex_build, ex_bslice, ex_fieldv, AOp.ro, AS.ev, AS.put, AS.fieldAddr, idxA_ptr, idxA_cptr, AS.peek, AS.poke, AS.blk, AS.setBlk, AV.nav, AV.upd, Blk.loc, Blk.cont, Blk.n, Blk.may, Blk.upd, AV.isAgg, AV.isTup, AV.sz, unVal, ownOk, fillAV, AV.sub, cvt_64j, cvt_64b, cvt_64w, cvt_8u, cvt_8w, bin_add64, bin_mul64, bin_sub64, bin_and51, bin_and32, bin_and1, bin_and8_1, bin_or64, bin_xor64, bin_or8, bin_shl64, bin_shl64j, bin_shr64, bin_shr64j, bin_shl8j, bin_shr8j, bin_quo64, bin_rem64, bin_quo32, bin_rem32, bin_addj, bin_subj, bin_quoj, bin_remj, bin_eqlj, bin_neqj, bin_lssj, bin_leqj, bin_gtrj, bin_geqj, bin_eql64, bin_lss64, bin_gtr64, bin_eql8, bin_rem8]; exact rfl) | (with_reducible apply wp_r); focus (simp [runPre, AOp.ex, AOp.ex0, ex_mov, ex_bin, binA_lit, ex_cvt, ex_iaddrA, ex_iaddrS, ex_faddr, ex_load, ldA, ex_ext, ex_add64, add64A_un, ex_pick, ex_beq, ex_un, ex_len, lenA_sl, lenA_nil, lenA_str, lenA_own, lenRow_row, elA_own, elA_sl, elRow_row, ex_nilc, ex_build, ex_bslice, ex_fieldv, AOp.ro, AS.ev, AS.put, AS.fieldAddr, idxA_ptr, idxA_cptr, AS.peek, AS.poke, AS.blk, AS.setBlk, AV.nav, AV.upd, Blk.loc, Blk.cont, Blk.n, Blk.may, Blk.upd, AV.isAgg, AV.isTup, AV.sz, unVal, ownOk, fillAV, AV.sub, cvt_64j, cvt_64b, cvt_64w, cvt_8u, cvt_8w, bin_add64, bin_mul64, bin_sub64, bin_and51, bin_and32, bin_and1, bin_and8_1, bin_or64, bin_xor64, bin_or8, bin_shl64, bin_shl64j, bin_shr64, bin_shr64j, bin_shl8j, bin_shr8j, bin_quo64, bin_rem64, bin_quo32, bin_rem32, bin_addj, bin_subj, bin_quoj, bin_remj, bin_eqlj, bin_neqj, bin_lssj, bin_leqj, bin_gtrj, bin_geqj, bin_eql64, bin_lss64, bin_gtr64, bin_eql8, bin_rem8]; exact rfl) | (with_reducible refine wp_seq' (wp_cond_t ?_ ?_)); focus (simp [AS.ev]; done) | (with_reducible refine wp_seq' (wp_cond_f ?_ ?_)); focus (simp [AS.ev]; done) | (with_reducible refine wp_cond_t ?_ ?_); focus (simp [AS.ev]; done) | (with_reducible refine wp_cond_f ?_ ?_); focus (simp [AS.ev]; done) | with_reducible refine wp_seq' ?_ | with_reducible refine wp_block' ?_ | with_reducible refine wp_skip' ?_ | with_reducible refine wp_exit' ?_ | with_reducible refine wp_ret' ?_ | with_reducible refine if_hit rfl ?_ | with_reducible refine loopN_succ ?_)
    refine fin_row (b := 48) (V := V) ?_ ?_
    · simp [AS.ev]
    · simp [AS.blk]
end Go.Cab

/- Digits: a sum's value. -/
namespace Go.Cab

theorem valL_take_succ (L : List Nat) : ∀ i, valL (L.take (i + 1)) = valL (L.take i) + 256 ^ i * nth L i := by
  induction L with
  | nil => intro i; simp [valL, nth]
  | cons d l ih =>
    intro i
    cases i with
    | zero => simp [valL, nth]
    | succ i =>
      have hn : nth (d :: l) (i + 1) = nth l i := by simp [nth]
      rw [List.take_succ_cons, List.take_succ_cons, valL, valL, ih i, hn, Nat.pow_succ, Nat.mul_add, Nat.mul_comm (256 ^ i) 256, Nat.mul_assoc, Nat.add_assoc]

theorem valL_range (f : Nat → Nat) (i : Nat) : valL ((List.range (i + 1)).map f) = valL ((List.range i).map f) + 256 ^ i * f i := by
  have h := valL_take_succ ((List.range (i + 1)).map f) i
  have e1 : ((List.range (i + 1)).map f).take (i + 1) = (List.range (i + 1)).map f := List.take_of_length_le (by simp)
  have e2 : ((List.range (i + 1)).map f).take i = (List.range i).map f := by
    rw [List.range_succ, List.map_append, List.take_left' (by simp)]
  have e3 : nth ((List.range (i + 1)).map f) i = f i := by simp [nth]
  rw [e1, e2, e3] at h
  exact h

/-- While a sum is reckoned. -/
theorem sum_step (A B : List Nat) : ∀ i, valL ((List.range i).map (sumD A B)) + 256 ^ i * sumC A B i = valL (A.take i) + valL (B.take i)
  | 0 => by simp [valL, sumC]
  | i + 1 => by
    have ih := sum_step A B i
    rw [valL_range, valL_take_succ, valL_take_succ]
    have hx := Nat.div_add_mod (sumC A B i + nth A i + nth B i) 256
    have e1 : sumC A B (i + 1) = (sumC A B i + nth A i + nth B i) / 256 := rfl
    have e2 : sumD A B i = (sumC A B i + nth A i + nth B i) % 256 := rfl
    rw [← e1, ← e2] at hx
    generalize sumC A B (i + 1) = c' at *
    generalize sumD A B i = d at *
    have e3 : 256 ^ (i + 1) * c' = 256 ^ i * (256 * c') := by rw [Nat.pow_succ, Nat.mul_assoc]
    have e4 : 256 ^ i * (256 * c' + d) = 256 ^ i * (sumC A B i + nth A i + nth B i) := by rw [hx]
    rw [Nat.mul_add] at e4
    rw [Nat.mul_add, Nat.mul_add] at e4
    omega

theorem plusL_val {A B : List Nat} (hA : ∀ d ∈ A, d < 256) (hB : ∀ d ∈ B, d < 256) : valL (plusL A B) = valL A + valL B := by
  have h := sum_step A B (sumLen A B)
  rw [sumC_end hA hB, Nat.mul_zero, Nat.add_zero] at h
  have hge : max A.length B.length ≤ sumLen A B := by unfold sumLen; split <;> omega
  rw [List.take_of_length_le (by omega), List.take_of_length_le (by omega)] at h
  exact h

theorem plusL_lt (A B : List Nat) : ∀ d ∈ plusL A B, d < 256 := by
  intro d hd
  simp only [plusL, List.mem_map] at hd
  obtain ⟨i, _, rfl⟩ := hd
  unfold sumD; omega

theorem plusL_len (A B : List Nat) : (plusL A B).length ≤ max A.length B.length + 1 ∧ max A.length B.length ≤ (plusL A B).length := by
  simp only [plusL, List.length_map, List.length_range]
  unfold sumLen
  split <;> omega

theorem digitsOf_lt (n : Nat) : ∀ d ∈ digitsOf n, d < 256 := by
  intro d hd
  unfold digitsOf at hd
  rcases List.mem_or_eq_of_mem_set hd with h | h
  · obtain ⟨i, _, rfl⟩ := List.mem_map.1 h
    unfold byteOf; omega
  · rw [h]; omega
end Go.Cab

/- Digits: a product. -/
namespace Go.Cab

/-- One row of a product, after k steps: the digits, and what is carried. -/
def mulC (a : Nat) (B : List Nat) (i : Nat) (out : List Nat) : Nat → List Nat × Nat
  | 0 => (out, 0)
  | k + 1 => ((mulC a B i out k).1.set (i + k) ((nth (mulC a B i out k).1 (i + k) + (mulC a B i out k).2 + a * nth B k) % 256), (nth (mulC a B i out k).1 (i + k) + (mulC a B i out k).2 + a * nth B k) / 256)
def mulK (a : Nat) (B : List Nat) (i : Nat) (out : List Nat) : Nat := if (mulC a B i out B.length).2 = 0 then B.length else B.length + 1
def mulO (A B : List Nat) : Nat → List Nat
  | 0 => List.replicate (A.length + B.length + 1) 0
  | i + 1 => (mulC (nth A i) B i (mulO A B i) (mulK (nth A i) B i (mulO A B i))).1
def timesL (A B : List Nat) : List Nat := mulO A B A.length

theorem mulC_len (a : Nat) (B : List Nat) (i : Nat) (out : List Nat) : ∀ k, (mulC a B i out k).1.length = out.length
  | 0 => rfl
  | k + 1 => by simp [mulC, mulC_len a B i out k]

theorem mulO_len (A B : List Nat) : ∀ i, (mulO A B i).length = A.length + B.length + 1
  | 0 => by simp [mulO]
  | i + 1 => by rw [mulO, mulC_len, mulO_len A B i]

theorem set_lt {l : List Nat} {i v : Nat} (h : ∀ d ∈ l, d < 256) (hv : v < 256) : ∀ d ∈ l.set i v, d < 256 := by
  intro d hd
  rcases List.mem_or_eq_of_mem_set hd with h1 | h1
  · exact h d h1
  · rw [h1]; exact hv

theorem mulC_lt {a : Nat} {B : List Nat} {i : Nat} {out : List Nat} (ha : a < 256) (hB : ∀ d ∈ B, d < 256) (ho : ∀ d ∈ out, d < 256) : ∀ k, (∀ d ∈ (mulC a B i out k).1, d < 256) ∧ (mulC a B i out k).2 < 256
  | 0 => ⟨ho, by simp [mulC]⟩
  | k + 1 => by
    obtain ⟨h1, h2⟩ := mulC_lt ha hB ho (i := i) k
    refine ⟨set_lt h1 (Nat.mod_lt _ (by decide)), ?_⟩
    have h3 := nth_lt h1 (i + k)
    have h4 := nth_lt hB k
    have h5 : a * nth B k ≤ 255 * 255 := Nat.mul_le_mul (by omega) (by omega)
    simp only [mulC]
    omega

theorem mulO_lt {A B : List Nat} (hA : ∀ d ∈ A, d < 256) (hB : ∀ d ∈ B, d < 256) : ∀ i, ∀ d ∈ mulO A B i, d < 256
  | 0 => by intro d hd; simp [mulO] at hd; omega
  | i + 1 => (mulC_lt (nth_lt hA i) hB (mulO_lt hA hB i) _).1

theorem valL_set : ∀ (l : List Nat) (i v : Nat), i < l.length → valL (l.set i v) + 256 ^ i * nth l i = valL l + 256 ^ i * v
  | [], i, v, h => by simp at h
  | d :: l, 0, v, h => by simp [valL, nth]; omega
  | d :: l, i + 1, v, h => by
    have ih := valL_set l i v (by simpa using h)
    have hn : nth (d :: l) (i + 1) = nth l i := by simp [nth]
    have e : ∀ x, 256 ^ (i + 1) * x = 256 * (256 ^ i * x) := fun x => by rw [Nat.pow_succ, Nat.mul_comm (256 ^ i) 256, Nat.mul_assoc]
    rw [List.set_cons_succ, valL, valL, hn, e, e]
    omega

theorem mulC_val (a : Nat) (B : List Nat) (i : Nat) (out : List Nat) : ∀ k, i + k ≤ out.length → valL (mulC a B i out k).1 + 256 ^ (i + k) * (mulC a B i out k).2 = valL out + 256 ^ i * (a * valL (B.take k))
  | 0, _ => by simp [mulC, valL]
  | k + 1, hk => by
    have ih := mulC_val a B i out k (by omega)
    have hlen := mulC_len a B i out k
    simp only [mulC]
    generalize mulC a B i out k = m at *
    obtain ⟨o, c⟩ := m
    simp only at *
    have hs := valL_set o (i + k) ((nth o (i + k) + c + a * nth B k) % 256) (by omega)
    have hx := Nat.div_add_mod (nth o (i + k) + c + a * nth B k) 256
    generalize (nth o (i + k) + c + a * nth B k) % 256 = r at *
    generalize (nth o (i + k) + c + a * nth B k) / 256 = q at *
    rw [valL_take_succ]
    have e1 : 256 ^ (i + (k + 1)) * q = 256 ^ (i + k) * (256 * q) := by rw [← Nat.add_assoc, Nat.pow_succ, Nat.mul_assoc]
    have e2 : 256 ^ i * (a * (valL (B.take k) + 256 ^ k * nth B k)) = 256 ^ i * (a * valL (B.take k)) + 256 ^ (i + k) * (a * nth B k) := by
      rw [Nat.mul_add, Nat.mul_add, Nat.pow_add, Nat.mul_assoc (256 ^ i) (256 ^ k), ← Nat.mul_assoc a (256 ^ k), Nat.mul_comm a (256 ^ k), Nat.mul_assoc (256 ^ k) a]
    have e3 : 256 ^ (i + k) * (256 * q + r) = 256 ^ (i + k) * (nth o (i + k) + c + a * nth B k) := by rw [hx]
    rw [Nat.mul_add, Nat.mul_add, Nat.mul_add] at e3
    rw [e1, e2]
    omega

theorem valL_take_lt {L : List Nat} (h : ∀ d ∈ L, d < 256) (i : Nat) : valL (L.take i) < 256 ^ i :=
  Nat.lt_of_lt_of_le (valL_lt _ (fun d hd => h d (List.mem_of_mem_take hd))) (Nat.pow_le_pow_right (by decide) (by simp; omega))

theorem valL_lt_len {L : List Nat} (h : ∀ d ∈ L, d < 256) : valL L < 256 ^ L.length := valL_lt L h

theorem row_total {A B out : List Nat} {i k : Nat} (ho : valL out = valL (A.take i) * valL B) (hl : out.length = A.length + B.length + 1) (hi : i < A.length) (hk : B.length ≤ k) (hk2 : k ≤ B.length + 1) :
    valL (mulC (nth A i) B i out k).1 + 256 ^ (i + k) * (mulC (nth A i) B i out k).2 = valL (A.take (i + 1)) * valL B := by
  have h := mulC_val (nth A i) B i out k (by omega)
  rw [h, List.take_of_length_le hk, ho, valL_take_succ, Nat.add_mul, Nat.mul_assoc]

theorem mul_end {A B out : List Nat} {i : Nat} (hA : ∀ d ∈ A, d < 256) (hB : ∀ d ∈ B, d < 256) (ho : valL out = valL (A.take i) * valL B) (hl : out.length = A.length + B.length + 1) (hi : i < A.length) :
    (mulC (nth A i) B i out (mulK (nth A i) B i out)).2 = 0 := by
  unfold mulK
  split
  · assumption
  · have h := row_total (k := B.length + 1) ho hl hi (by omega) (by omega)
    have h1 := valL_take_lt hA (i + 1)
    have h2 := valL_lt_len hB
    have h3 : valL (A.take (i + 1)) * valL B < 256 ^ (i + 1) * 256 ^ B.length := Nat.mul_lt_mul'' h1 h2
    rw [← Nat.pow_add] at h3
    have e : i + 1 + B.length = i + (B.length + 1) := by omega
    rw [e] at h3
    apply Nat.eq_zero_of_not_pos
    intro hp
    have h4 : 256 ^ (i + (B.length + 1)) * 1 ≤ 256 ^ (i + (B.length + 1)) * (mulC (nth A i) B i out (B.length + 1)).2 := Nat.mul_le_mul_left _ hp
    omega

/-- What stands after i rows. -/
theorem mulO_val {A B : List Nat} (hA : ∀ d ∈ A, d < 256) (hB : ∀ d ∈ B, d < 256) : ∀ i, i ≤ A.length → valL (mulO A B i) = valL (A.take i) * valL B
  | 0, _ => by
    have : ∀ n, valL (List.replicate n 0) = 0 := fun n => by induction n with | zero => rfl | succ n ih => simp [List.replicate_succ, valL, ih]
    simp [mulO, this, valL]
  | i + 1, hi => by
    have ih := mulO_val hA hB i (by omega)
    have hl := mulO_len A B i
    have he := mul_end hA hB ih hl (by omega)
    have hk : B.length ≤ mulK (nth A i) B i (mulO A B i) ∧ mulK (nth A i) B i (mulO A B i) ≤ B.length + 1 := by unfold mulK; split <;> omega
    have ht := row_total ih hl (by omega) hk.1 hk.2
    rw [he, Nat.mul_zero, Nat.add_zero] at ht
    exact ht

theorem timesL_val {A B : List Nat} (hA : ∀ d ∈ A, d < 256) (hB : ∀ d ∈ B, d < 256) : valL (timesL A B) = valL A * valL B := by
  have h := mulO_val hA hB A.length (Nat.le_refl _)
  rw [List.take_length] at h
  exact h
theorem timesL_lt {A B : List Nat} (hA : ∀ d ∈ A, d < 256) (hB : ∀ d ∈ B, d < 256) : ∀ d ∈ timesL A B, d < 256 := mulO_lt hA hB _
theorem timesL_len (A B : List Nat) : (timesL A B).length = A.length + B.length + 1 := mulO_len A B _
end Go.Cab

/- Digits: the rest modulo the modulus. -/
namespace Go.Cab

def loD (A : List Nat) (i : Nat) : Nat := if i = 31 then nth A 31 % 128 else nth A i
def hiD (A : List Nat) (j : Nat) : Nat := nth A (31 + j) / 128 + nth A (31 + j + 1) % 128 * 2
def loL (A : List Nat) : List Nat := (List.range 32).map (loD A)
def hiL (A : List Nat) : List Nat := (List.range (A.length - 31)).map (hiD A)
def restStep (A : List Nat) : List Nat := plusL (loL A) (timesL (hiL A) [19])

theorem valL_range_nth (A : List Nat) : ∀ i, valL ((List.range i).map (nth A)) = valL (A.take i)
  | 0 => by simp [valL]
  | i + 1 => by rw [valL_range, valL_take_succ, valL_range_nth A i]

theorem valL_mod128 : ∀ (l : List Nat), valL l % 128 = nth l 0 % 128
  | [] => by simp [valL, nth]
  | d :: l => by simp [valL, nth]; omega

theorem lo_val {A : List Nat} (hA : ∀ d ∈ A, d < 256) : valL (loL A) = valL A % 2 ^ 255 := by
  have h1 : valL (loL A) = valL (A.take 31) + 256 ^ 31 * (nth A 31 % 128) := by
    unfold loL
    rw [valL_range]
    have e : (List.range 31).map (loD A) = (List.range 31).map (nth A) := List.map_congr_left fun i hi => by
      have : i < 31 := by simpa using hi
      unfold loD; rw [if_neg (by omega)]
    rw [e, valL_range_nth]
    rfl
  have h2 := valL_split 31 A
  have h3 := valL_take_lt hA 31
  have h4 := valL_mod128 (A.drop 31)
  have h5 : nth (A.drop 31) 0 = nth A 31 := by simp [nth]
  rw [h5] at h4
  have h6 := Nat.div_add_mod (valL (A.drop 31)) 128
  rw [h4] at h6
  have e1 : (2 : Nat) ^ 255 = 256 ^ 31 * 128 := by decide
  rw [h1, h2, ← h6, e1]
  have hr : nth A 31 % 128 < 128 := Nat.mod_lt _ (by decide)
  generalize nth A 31 % 128 = r at *
  generalize valL (A.drop 31) / 128 = q at *
  generalize valL (A.take 31) = t at *
  have e2 : t + 256 ^ 31 * (128 * q + r) = (t + 256 ^ 31 * r) + (256 ^ 31 * 128) * q := by rw [Nat.mul_add, Nat.mul_assoc]; omega
  rw [e2, Nat.add_mul_mod_self_left]
  have h7 : 256 ^ 31 * r + 256 ^ 31 ≤ 256 ^ 31 * 128 := by rw [← Nat.mul_succ]; exact Nat.mul_le_mul_left _ hr
  exact (Nat.mod_eq_of_lt (by omega)).symm

theorem hi_list : ∀ (D : List Nat), valL ((List.range D.length).map fun j => nth D j / 128 + nth D (j + 1) % 128 * 2) = valL D / 128
  | [] => by simp [valL]
  | d :: l => by
    have ih := hi_list l
    rw [List.length_cons, List.range_succ_eq_map, List.map_cons, List.map_map]
    have e : (List.range l.length).map ((fun j => nth (d :: l) j / 128 + nth (d :: l) (j + 1) % 128 * 2) ∘ Nat.succ) = (List.range l.length).map fun j => nth l j / 128 + nth l (j + 1) % 128 * 2 := List.map_congr_left fun j _ => by simp [nth]
    rw [e, valL, ih, valL]
    have h := valL_mod128 l
    have h0 : nth (d :: l) 0 = d := by simp [nth]
    have h1 : nth (d :: l) (0 + 1) = nth l 0 := by simp [nth]
    rw [h0, h1, ← h]
    omega

theorem hi_val {A : List Nat} (hA : ∀ d ∈ A, d < 256) : valL (hiL A) = valL A / 2 ^ 255 := by
  have h := hi_list (A.drop 31)
  have e : hiL A = (List.range (A.drop 31).length).map fun j => nth (A.drop 31) j / 128 + nth (A.drop 31) (j + 1) % 128 * 2 := by
    unfold hiL
    rw [List.length_drop]
    exact List.map_congr_left fun j _ => by simp [hiD, nth, Nat.add_assoc]
  rw [e, h]
  have h2 := valL_split 31 A
  have h3 := valL_take_lt hA 31
  have e1 : (2 : Nat) ^ 255 = 256 ^ 31 * 128 := by decide
  rw [h2, e1, ← Nat.div_div_eq_div_mul, Nat.add_mul_div_left _ _ (by decide), Nat.div_eq_of_lt h3, Nat.zero_add]

theorem lo_lt {A : List Nat} (hA : ∀ d ∈ A, d < 256) : ∀ d ∈ loL A, d < 256 := by
  intro d hd
  obtain ⟨i, _, rfl⟩ := List.mem_map.1 hd
  unfold loD
  split
  · omega
  · exact nth_lt hA i
theorem hi_lt {A : List Nat} (hA : ∀ d ∈ A, d < 256) : ∀ d ∈ hiL A, d < 256 := by
  intro d hd
  obtain ⟨j, _, rfl⟩ := List.mem_map.1 hd
  have := nth_lt hA (31 + j)
  unfold hiD; omega

theorem restStep_lt (A : List Nat) : ∀ d ∈ restStep A, d < 256 := plusL_lt _ _
theorem nineteen_lt : ∀ d ∈ [19], d < 256 := by intro d hd; simp at hd; omega
theorem restStep_val {A : List Nat} (hA : ∀ d ∈ A, d < 256) : valL (restStep A) = valL A % 2 ^ 255 + valL A / 2 ^ 255 * 19 := by
  unfold restStep
  rw [plusL_val (lo_lt hA) (timesL_lt (hi_lt hA) nineteen_lt), timesL_val (hi_lt hA) nineteen_lt, lo_val hA, hi_val hA]
  rfl
theorem restStep_mod {A : List Nat} (hA : ∀ d ∈ A, d < 256) : valL (restStep A) % pp = valL A % pp := by
  rw [restStep_val hA]
  have h := Nat.div_add_mod (valL A) (2 ^ 255)
  have e : (2 : Nat) ^ 255 = pp + 19 := by decide
  conv => rhs; rw [← h]
  generalize valL A / 2 ^ 255 = q
  generalize valL A % 2 ^ 255 = r
  rw [e, Nat.add_mul]
  have : pp * q + 19 * q + r = (r + q * 19) + pp * q := by omega
  rw [this, Nat.add_mul_mod_self_left]
theorem restStep_less {A : List Nat} (hA : ∀ d ∈ A, d < 256) (h : 2 ^ 255 ≤ valL A) : valL (restStep A) < valL A := by
  rw [restStep_val hA]
  have h1 := Nat.div_add_mod (valL A) (2 ^ 255)
  have h2 : 1 ≤ valL A / 2 ^ 255 := (Nat.one_le_div_iff (by decide)).2 h
  generalize valL A / 2 ^ 255 = q at *
  generalize valL A % 2 ^ 255 = r at *
  omega
theorem restStep_len (A : List Nat) : (restStep A).length ≤ max 32 (A.length - 31 + 2) + 1 := by
  have h := (plusL_len (loL A) (timesL (hiL A) [19])).1
  rw [timesL_len] at h
  simp only [loL, hiL, List.length_map, List.length_range, List.length_cons, List.length_nil] at h
  unfold restStep loL hiL
  omega

/-- Till nothing is high. -/
def restA (A : List Nat) : List Nat := if h : (∀ d ∈ A, d < 256) ∧ 2 ^ 255 ≤ valL A then restA (restStep A) else A
termination_by valL A
decreasing_by exact restStep_less h.1 h.2
end Go.Cab

/- References: a product of digits. -/
namespace Go.Cab
def fb78 : AC := (.seq (.reg [⟨(.some 4), .none, (.mov (.const (.slice .none 0 0))), [], .none⟩]) (.seq (.reg [⟨(.some 10), .none, (.mov (.tmp 0)), [], .none⟩, ⟨(.some 11), .none, (.len .false (.tmp 10)), [], .none⟩, ⟨(.some 12), .none, (.mov (.tmp 1)), [], .none⟩, ⟨(.some 13), .none, (.len .false (.tmp 12)), [], .none⟩, ⟨(.some 14), .none, (.bin .add (.tmp 11) (.tmp 13)), [], .none⟩, ⟨(.some 15), .none, (.bin .add (.tmp 14) (.const (jn 1))), [], .none⟩, ⟨(.some 16), .none, (.mkslice 26 1 8 (.lit (un 0)) (.tmp 15) (.tmp 15)), [], .none⟩, ⟨(.some 5), .none, (.mov (.tmp 16)), [], .none⟩]) (.seq (.seq (.reg [⟨(.some 6), .none, (.mov (.const (jn 0))), [], .none⟩]) (.block 0 (.loop (.seq (.seq (.reg [⟨(.some 17), .none, (.mov (.tmp 6)), [], .none⟩, ⟨(.some 18), .none, (.mov (.tmp 0)), [], .none⟩, ⟨(.some 19), .none, (.len .false (.tmp 18)), [], .none⟩, ⟨(.some 20), .none, (.bin .lss (.tmp 17) (.tmp 19)), [], .none⟩]) (.cond (.tmp 20) .skip (.exit 0))) (.seq (.block 1 (.seq (.reg [⟨(.some 7), .none, (.mov (.const (un 0))), [], .none⟩]) (.seq (.reg [⟨(.some 8), .none, (.mov (.const (jn 0))), [], .none⟩]) (.block 2 (.loop (.seq (.seq (.reg [⟨(.some 23), .none, (.mov (.tmp 8)), [], .none⟩, ⟨(.some 24), .none, (.mov (.tmp 1)), [], .none⟩, ⟨(.some 25), .none, (.len .false (.tmp 24)), [], .none⟩, ⟨(.some 26), .none, (.bin .lss (.tmp 23) (.tmp 25)), [], .none⟩, ⟨(.some 27), .none, (.mov (.tmp 26)), [], .none⟩, ⟨(.some 28), (.some (27, .false)), (.mov (.tmp 7)), [], .none⟩, ⟨(.some 29), (.some (27, .false)), (.bin .gtr (.tmp 28) (.const (un 0))), [], .none⟩, ⟨(.some 30), .none, (.pick (.tmp 27) (.const (.bool .true)) (.tmp 29)), [], .none⟩]) (.cond (.tmp 30) .skip (.exit 2))) (.seq (.block 3 (.seq (.reg [⟨(.some 33), .none, (.mov (.tmp 5)), [], .none⟩, ⟨(.some 34), .none, (.mov (.tmp 6)), [], .none⟩, ⟨(.some 35), .none, (.mov (.tmp 8)), [], .none⟩, ⟨(.some 36), .none, (.bin .add (.tmp 34) (.tmp 35)), [], .none⟩, ⟨(.some 37), .none, (.iaddrS 1 (.tmp 33) (.tmp 36)), [], .none⟩, ⟨(.some 38), .none, (.load .false 1 (.tmp 37)), [], .none⟩, ⟨(.some 39), .none, (.mov (.tmp 7)), [], .none⟩, ⟨(.some 40), .none, (.bin .add (.tmp 38) (.tmp 39)), [], .none⟩, ⟨(.some 9), .none, (.mov (.tmp 40)), [], .none⟩]) (.seq (.seq (.reg [⟨(.some 41), .none, (.mov (.tmp 8)), [], .none⟩, ⟨(.some 42), .none, (.mov (.tmp 1)), [], .none⟩, ⟨(.some 43), .none, (.len .false (.tmp 42)), [], .none⟩, ⟨(.some 44), .none, (.bin .lss (.tmp 41) (.tmp 43)), [], .none⟩]) (.cond (.tmp 44) (.reg [⟨(.some 45), .none, (.mov (.tmp 9)), [], .none⟩, ⟨(.some 46), .none, (.mov (.tmp 0)), [], .none⟩, ⟨(.some 47), .none, (.mov (.tmp 6)), [], .none⟩, ⟨(.some 48), .none, (.iaddrS 1 (.tmp 46) (.tmp 47)), [], .none⟩, ⟨(.some 49), .none, (.load .false 1 (.tmp 48)), [], .none⟩, ⟨(.some 50), .none, (.mov (.tmp 1)), [], .none⟩, ⟨(.some 51), .none, (.mov (.tmp 8)), [], .none⟩, ⟨(.some 52), .none, (.iaddrS 1 (.tmp 50) (.tmp 51)), [], .none⟩, ⟨(.some 53), .none, (.load .false 1 (.tmp 52)), [], .none⟩, ⟨(.some 54), .none, (.bin .mul (.tmp 49) (.tmp 53)), [], .none⟩, ⟨(.some 55), .none, (.bin .add (.tmp 45) (.tmp 54)), [], .none⟩, ⟨(.some 9), .none, (.mov (.tmp 55)), [], .none⟩]) .skip)) (.seq (.reg [⟨(.some 56), .none, (.mov (.tmp 5)), [], .none⟩, ⟨(.some 57), .none, (.mov (.tmp 6)), [], .none⟩, ⟨(.some 58), .none, (.mov (.tmp 8)), [], .none⟩, ⟨(.some 59), .none, (.bin .add (.tmp 57) (.tmp 58)), [], .none⟩, ⟨(.some 60), .none, (.mov (.tmp 9)), [], .none⟩, ⟨(.some 61), .none, (.bin .rem (.tmp 60) (.const (un 256))), [], .none⟩, ⟨(.some 62), .none, (.iaddrS 1 (.tmp 56) (.tmp 59)), [], .none⟩, ⟨.none, .none, (.store 1 (.tmp 62) (.tmp 61)), [], .none⟩]) (.reg [⟨(.some 63), .none, (.mov (.tmp 9)), [], .none⟩, ⟨(.some 64), .none, (.bin .quo (.tmp 63) (.const (un 256))), [], .none⟩, ⟨(.some 7), .none, (.mov (.tmp 64)), [], .none⟩]))))) (.reg [⟨(.some 31), .none, (.mov (.tmp 8)), [], .none⟩, ⟨(.some 32), .none, (.bin .add (.tmp 31) (.const (jn 1))), [], .none⟩, ⟨(.some 8), .none, (.mov (.tmp 32)), [], .none⟩])))))))) (.reg [⟨(.some 21), .none, (.mov (.tmp 6)), [], .none⟩, ⟨(.some 22), .none, (.bin .add (.tmp 21) (.const (jn 1))), [], .none⟩, ⟨(.some 6), .none, (.mov (.tmp 22)), [], .none⟩])))))) (.seq (.reg [⟨(.some 65), .none, (.mov (.tmp 5)), [], .none⟩, ⟨(.some 4), .none, (.mov (.tmp 65)), [], .none⟩]) .ret))))
def fc78 : FC := ⟨2, 66, [(.tmp 4)], fb78⟩
theorem fc78_eq : compF Go.Proofs.Try.prog 34 = some fc78 := by kernel_rfl

theorem mulK_le (a : Nat) (B : List Nat) (i : Nat) (o : List Nat) : B.length ≤ mulK a B i o ∧ mulK a B i o ≤ B.length + 1 := by unfold mulK; split <;> omega

set_option maxHeartbeats 8000000 in
set_option maxRecDepth 20000 in
theorem times4_call {P : Program} (h78 : compF P 34 = some fc78) (A B : List Nat) (hA : ∀ d ∈ A, d < 256) (hB : ∀ d ∈ B, d < 256) (hn : A.length < 1000000) (hm : B.length < 1000000) : PCall P 34 [.sl 1 (dl A), .sl 1 (dl B)] (.row 26 1 (dl (timesL A B))) := by
  have gA : (dl A).length = A.length := dl_len A
  have gB : (dl B).length = B.length := dl_len B
  have r1 : A.length + B.length < 9223372036854775808 := by omega
  have r2 : A.length + B.length + 1 < 9223372036854775808 := by omega
  refine PCall.of h78 rfl ?_; show AC.wp _ fb78 (AS.init [.sl 1 (dl A), .sl 1 (dl B)] 2 66) (fun x s => match x with | .exit _ => False | _ => Fin [(.tmp 4)] s _); unfold fb78 AS.init
  refine wp_sr (by simp [runPre, AOp.ex, AOp.ex0, ex_mov, ex_bin, binA_lit, ex_cvt, ex_iaddrA, ex_iaddrS, ex_faddr, ex_load, ldA, ex_ext, ex_add64, add64A_un, ex_pick, ex_beq, ex_un, ex_len, lenA_sl, lenA_nil, lenA_str, lenA_own, lenRow_row, elA_own, elA_sl, elRow_row, ex_nilc, ex_build, ex_bslice, ex_fieldv, AOp.ro, AS.ev, AS.put, AS.fieldAddr, idxA_ptr, idxA_cptr, AS.peek, AS.poke, AS.blk, AS.setBlk, AV.nav, AV.upd, Blk.loc, Blk.cont, Blk.n, Blk.may, Blk.upd, AV.isAgg, AV.isTup, AV.sz, unVal, ownOk, fillAV, AV.sub, cvt_64j, cvt_64b, cvt_64w, cvt_8u, cvt_8w, bin_add64, bin_mul64, bin_sub64, bin_and51, bin_and32, bin_and1, bin_and8_1, bin_or64, bin_xor64, bin_or8, bin_shl64, bin_shl64j, bin_shr64, bin_shr64j, bin_shl8j, bin_shr8j, bin_quo64, bin_rem64, bin_quo32, bin_rem32, bin_addj, bin_subj, bin_quoj, bin_remj, bin_eqlj, bin_neqj, bin_lssj, bin_leqj, bin_gtrj, bin_geqj, bin_eql64, bin_lss64, bin_gtr64, bin_eql8, bin_rem8]; exact rfl) ?_
  refine wp_sg (areg_run 6 (by simp [runPre, AOp.ex, AOp.ex0, ex_mov, ex_bin, binA_lit, ex_cvt, ex_iaddrA, ex_iaddrS, ex_faddr, ex_load, ldA, ex_ext, ex_add64, add64A_un, ex_pick, ex_beq, ex_un, ex_len, lenA_sl, lenA_nil, lenA_str, lenA_own, lenRow_row, elA_own, elA_sl, elRow_row, ex_nilc, ex_build, ex_bslice, ex_fieldv, AOp.ro, AS.ev, AS.put, AS.fieldAddr, idxA_ptr, idxA_cptr, AS.peek, AS.poke, AS.blk, AS.setBlk, AV.nav, AV.upd, Blk.loc, Blk.cont, Blk.n, Blk.may, Blk.upd, AV.isAgg, AV.isTup, AV.sz, unVal, ownOk, fillAV, AV.sub, cvt_64j, cvt_64b, cvt_64w, cvt_8u, cvt_8w, bin_add64, bin_mul64, bin_sub64, bin_and51, bin_and32, bin_and1, bin_and8_1, bin_or64, bin_xor64, bin_or8, bin_shl64, bin_shl64j, bin_shr64, bin_shr64j, bin_shl8j, bin_shr8j, bin_quo64, bin_rem64, bin_quo32, bin_rem32, bin_addj, bin_subj, bin_quoj, bin_remj, bin_eqlj, bin_neqj, bin_lssj, bin_leqj, bin_gtrj, bin_geqj, bin_eql64, bin_lss64, bin_gtr64, bin_eql8, bin_rem8, gA, gB, r1, r2]; exact rfl) (areg_mk (n := A.length + B.length + 1) rfl rfl (by simp [maxLen]; omega) (by omega) fun V => areg_end (by simp [runPre, AOp.ex, AOp.ex0, ex_mov, ex_bin, binA_lit, ex_cvt, ex_iaddrA, ex_iaddrS, ex_faddr, ex_load, ldA, ex_ext, ex_add64, add64A_un, ex_pick, ex_beq, ex_un, ex_len, lenA_sl, lenA_nil, lenA_str, lenA_own, lenRow_row, elA_own, elA_sl, elRow_row, ex_nilc, ex_build, ex_bslice, ex_fieldv, AOp.ro, AS.ev, AS.put, AS.fieldAddr, idxA_ptr, idxA_cptr, AS.peek, AS.poke, AS.blk, AS.setBlk, AV.nav, AV.upd, Blk.loc, Blk.cont, Blk.n, Blk.may, Blk.upd, AV.isAgg, AV.isTup, AV.sz, unVal, ownOk, fillAV, AV.sub, cvt_64j, cvt_64b, cvt_64w, cvt_8u, cvt_8w, bin_add64, bin_mul64, bin_sub64, bin_and51, bin_and32, bin_and1, bin_and8_1, bin_or64, bin_xor64, bin_or8, bin_shl64, bin_shl64j, bin_shr64, bin_shr64j, bin_shl8j, bin_shr8j, bin_quo64, bin_rem64, bin_quo32, bin_rem32, bin_addj, bin_subj, bin_quoj, bin_remj, bin_eqlj, bin_neqj, bin_lssj, bin_leqj, bin_gtrj, bin_geqj, bin_eql64, bin_lss64, bin_gtr64, bin_eql8, bin_rem8]; exact rfl) ?_))
  have hrep : List.replicate (A.length + B.length + 1) (AV.lit (un 0)) = dl (mulO A B 0) := by simp [dl, mulO]
  rw [hrep]
  refine wp_seq' (wp_seq' (wp_r (by simp [runPre, AOp.ex, AOp.ex0, ex_mov, ex_bin, binA_lit, ex_cvt, ex_iaddrA, ex_iaddrS, ex_faddr, ex_load, ldA, ex_ext, ex_add64, add64A_un, ex_pick, ex_beq, ex_un, ex_len, lenA_sl, lenA_nil, lenA_str, lenA_own, lenRow_row, elA_own, elA_sl, elRow_row, ex_nilc, ex_build, ex_bslice, ex_fieldv, AOp.ro, AS.ev, AS.put, AS.fieldAddr, idxA_ptr, idxA_cptr, AS.peek, AS.poke, AS.blk, AS.setBlk, AV.nav, AV.upd, Blk.loc, Blk.cont, Blk.n, Blk.may, Blk.upd, AV.isAgg, AV.isTup, AV.sz, unVal, ownOk, fillAV, AV.sub, cvt_64j, cvt_64b, cvt_64w, cvt_8u, cvt_8w, bin_add64, bin_mul64, bin_sub64, bin_and51, bin_and32, bin_and1, bin_and8_1, bin_or64, bin_xor64, bin_or8, bin_shl64, bin_shl64j, bin_shr64, bin_shr64j, bin_shl8j, bin_shr8j, bin_quo64, bin_rem64, bin_quo32, bin_rem32, bin_addj, bin_subj, bin_quoj, bin_remj, bin_eqlj, bin_neqj, bin_lssj, bin_leqj, bin_gtrj, bin_geqj, bin_eql64, bin_lss64, bin_gtr64, bin_eql8, bin_rem8]; exact rfl) (wp_block' (wp_loop_to A.length (fun i => ⟨0, [.sl 1 (dl A), .sl 1 (dl B), .any, .any, .lit (.slice none 0 0), .own 16 V, .lit (jn i)] ++ List.replicate 59 .any, List.replicate 16 none ++ [some (.row 26 V 1 (dl (mulO A B i)) 0)] ++ List.replicate 49 none⟩) ?_ ?_ ?_))))
  · exact Le.mk rfl (by simp [leT]) (by simp [leH])
  · intro i hi
    have q4 : i + 1 < 9223372036854775808 := by omega
    have ho := mulO_lt hA hB i
    have hl := mulO_len A B i
    have ha := nth_lt hA i
    have hval := mulO_val hA hB i (by omega)
    have hend := mul_end hA hB hval hl hi
    have hO : mulO A B (i + 1) = (mulC (nth A i) B i (mulO A B i) (mulK (nth A i) B i (mulO A B i))).1 := rfl
    have gA1 : (dl A)[i]? = some (.lit (un (nth A i))) := by rw [dl_get]; simp [nth, hi]
    have gA4 : ∀ h, (dl A)[i]'h = .lit (un (nth A i)) := fun h => by rw [List.getElem?_eq_getElem h] at gA1; exact Option.some.inj gA1
    rw [hO]
    generalize mulO A B i = o at *
    generalize nth A i = a at *
    refine wp_seq' (wp_seq' (wp_r (by simp [runPre, AOp.ex, AOp.ex0, ex_mov, ex_bin, binA_lit, ex_cvt, ex_iaddrA, ex_iaddrS, ex_faddr, ex_load, ldA, ex_ext, ex_add64, add64A_un, ex_pick, ex_beq, ex_un, ex_len, lenA_sl, lenA_nil, lenA_str, lenA_own, lenRow_row, elA_own, elA_sl, elRow_row, ex_nilc, ex_build, ex_bslice, ex_fieldv, AOp.ro, AS.ev, AS.put, AS.fieldAddr, idxA_ptr, idxA_cptr, AS.peek, AS.poke, AS.blk, AS.setBlk, AV.nav, AV.upd, Blk.loc, Blk.cont, Blk.n, Blk.may, Blk.upd, AV.isAgg, AV.isTup, AV.sz, unVal, ownOk, fillAV, AV.sub, cvt_64j, cvt_64b, cvt_64w, cvt_8u, cvt_8w, bin_add64, bin_mul64, bin_sub64, bin_and51, bin_and32, bin_and1, bin_and8_1, bin_or64, bin_xor64, bin_or8, bin_shl64, bin_shl64j, bin_shr64, bin_shr64j, bin_shl8j, bin_shr8j, bin_quo64, bin_rem64, bin_quo32, bin_rem32, bin_addj, bin_subj, bin_quoj, bin_remj, bin_eqlj, bin_neqj, bin_lssj, bin_leqj, bin_gtrj, bin_geqj, bin_eql64, bin_lss64, bin_gtr64, bin_eql8, bin_rem8, hi, gA]; exact rfl) (wp_cond_t (by simp [AS.ev]) (wp_skip' ?_))))
    refine wp_seq' (wp_block' (wp_sr (by simp [runPre, AOp.ex, AOp.ex0, ex_mov, ex_bin, binA_lit, ex_cvt, ex_iaddrA, ex_iaddrS, ex_faddr, ex_load, ldA, ex_ext, ex_add64, add64A_un, ex_pick, ex_beq, ex_un, ex_len, lenA_sl, lenA_nil, lenA_str, lenA_own, lenRow_row, elA_own, elA_sl, elRow_row, ex_nilc, ex_build, ex_bslice, ex_fieldv, AOp.ro, AS.ev, AS.put, AS.fieldAddr, idxA_ptr, idxA_cptr, AS.peek, AS.poke, AS.blk, AS.setBlk, AV.nav, AV.upd, Blk.loc, Blk.cont, Blk.n, Blk.may, Blk.upd, AV.isAgg, AV.isTup, AV.sz, unVal, ownOk, fillAV, AV.sub, cvt_64j, cvt_64b, cvt_64w, cvt_8u, cvt_8w, bin_add64, bin_mul64, bin_sub64, bin_and51, bin_and32, bin_and1, bin_and8_1, bin_or64, bin_xor64, bin_or8, bin_shl64, bin_shl64j, bin_shr64, bin_shr64j, bin_shl8j, bin_shr8j, bin_quo64, bin_rem64, bin_quo32, bin_rem32, bin_addj, bin_subj, bin_quoj, bin_remj, bin_eqlj, bin_neqj, bin_lssj, bin_leqj, bin_gtrj, bin_geqj, bin_eql64, bin_lss64, bin_gtr64, bin_eql8, bin_rem8]; exact rfl) (wp_sr (by simp [runPre, AOp.ex, AOp.ex0, ex_mov, ex_bin, binA_lit, ex_cvt, ex_iaddrA, ex_iaddrS, ex_faddr, ex_load, ldA, ex_ext, ex_add64, add64A_un, ex_pick, ex_beq, ex_un, ex_len, lenA_sl, lenA_nil, lenA_str, lenA_own, lenRow_row, elA_own, elA_sl, elRow_row, ex_nilc, ex_build, ex_bslice, ex_fieldv, AOp.ro, AS.ev, AS.put, AS.fieldAddr, idxA_ptr, idxA_cptr, AS.peek, AS.poke, AS.blk, AS.setBlk, AV.nav, AV.upd, Blk.loc, Blk.cont, Blk.n, Blk.may, Blk.upd, AV.isAgg, AV.isTup, AV.sz, unVal, ownOk, fillAV, AV.sub, cvt_64j, cvt_64b, cvt_64w, cvt_8u, cvt_8w, bin_add64, bin_mul64, bin_sub64, bin_and51, bin_and32, bin_and1, bin_and8_1, bin_or64, bin_xor64, bin_or8, bin_shl64, bin_shl64j, bin_shr64, bin_shr64j, bin_shl8j, bin_shr8j, bin_quo64, bin_rem64, bin_quo32, bin_rem32, bin_addj, bin_subj, bin_quoj, bin_remj, bin_eqlj, bin_neqj, bin_lssj, bin_leqj, bin_gtrj, bin_geqj, bin_eql64, bin_lss64, bin_gtr64, bin_eql8, bin_rem8]; exact rfl) (wp_block' (wp_loop_to (mulK a B i o) (fun k => ⟨0, [.sl 1 (dl A), .sl 1 (dl B), .any, .any, .lit (.slice none 0 0), .own 16 V, .lit (jn i), .lit (un (mulC a B i o k).2), .lit (jn k)] ++ List.replicate 57 .any, List.replicate 16 none ++ [some (.row 26 V 1 (dl (mulC a B i o k).1) 0)] ++ List.replicate 49 none⟩) ?_ ?_ ?_)))))
    · exact Le.mk rfl (by simp [leT, mulC]) (by simp [leH, mulC])
    · intro k hk
      have hK := mulK_le a B i o
      have q5 : k + 1 < 9223372036854775808 := by omega
      have q6 : i + k < 9223372036854775808 := by omega
      obtain ⟨hd, hc⟩ := mulC_lt ha hB ho (i := i) k
      have hlen := mulC_len a B i o k
      have hb := nth_lt hB k
      have hab : a * nth B k ≤ 255 * 255 := Nat.mul_le_mul (by omega) (by omega)
      have hst1 : (mulC a B i o (k + 1)).1 = (mulC a B i o k).1.set (i + k) ((nth (mulC a B i o k).1 (i + k) + (mulC a B i o k).2 + a * nth B k) % 256) := rfl
      have hst2 : (mulC a B i o (k + 1)).2 = (nth (mulC a B i o k).1 (i + k) + (mulC a B i o k).2 + a * nth B k) / 256 := rfl
      have hcK : ¬ k < B.length → 0 < (mulC a B i o k).2 := by
        intro h
        apply Nat.pos_of_ne_zero; intro h0
        have : k = B.length := by omega
        subst this
        simp only [mulK, h0, if_true] at hk; omega
      rw [hst1, hst2]
      generalize mulC a B i o k = m at *
      obtain ⟨o', c⟩ := m
      simp only at *
      have hlt : i + k < o'.length := by omega
      have gl : (dl o').length = o'.length := dl_len o'
      have g1 : (dl o')[i + k]? = some (.lit (un (nth o' (i + k)))) := by rw [dl_get]; simp [nth, hlt]
      have g4 : ∀ h, (dl o')[i + k]'h = .lit (un (nth o' (i + k))) := fun h => by rw [List.getElem?_eq_getElem h] at g1; exact Option.some.inj g1
      have gs : ∀ v, (dl o').set (i + k) (.lit (un v)) = dl (o'.set (i + k) v) := fun v => dl_set _ _ _
      have hx0 := nth_lt hd (i + k)
      have f0 : (nth o' (i + k) + c) % 18446744073709551616 = nth o' (i + k) + c := by omega
      by_cases hkB : k < B.length
      · skip
        have gB1 : (dl B)[k]? = some (.lit (un (nth B k))) := by rw [dl_get]; simp [nth, hkB]
        have gB4 : ∀ h, (dl B)[k]'h = .lit (un (nth B k)) := fun h => by rw [List.getElem?_eq_getElem h] at gB1; exact Option.some.inj gB1
        have f1 : a * nth B k % 18446744073709551616 = a * nth B k := Nat.mod_eq_of_lt (by omega)
        have f2 : (nth o' (i + k) + c + a * nth B k) % 18446744073709551616 = nth o' (i + k) + c + a * nth B k := Nat.mod_eq_of_lt (by omega)
        have f3 : (nth o' (i + k) + c + a * nth B k) / 256 % 18446744073709551616 = (nth o' (i + k) + c + a * nth B k) / 256 := by omega
        refine wp_seq' (wp_seq' (wp_r (by simp [runPre, AOp.ex, AOp.ex0, ex_mov, ex_bin, binA_lit, ex_cvt, ex_iaddrA, ex_iaddrS, ex_faddr, ex_load, ldA, ex_ext, ex_add64, add64A_un, ex_pick, ex_beq, ex_un, ex_len, lenA_sl, lenA_nil, lenA_str, lenA_own, lenRow_row, elA_own, elA_sl, elRow_row, ex_nilc, ex_build, ex_bslice, ex_fieldv, AOp.ro, AS.ev, AS.put, AS.fieldAddr, idxA_ptr, idxA_cptr, AS.peek, AS.poke, AS.blk, AS.setBlk, AV.nav, AV.upd, Blk.loc, Blk.cont, Blk.n, Blk.may, Blk.upd, AV.isAgg, AV.isTup, AV.sz, unVal, ownOk, fillAV, AV.sub, cvt_64j, cvt_64b, cvt_64w, cvt_8u, cvt_8w, bin_add64, bin_mul64, bin_sub64, bin_and51, bin_and32, bin_and1, bin_and8_1, bin_or64, bin_xor64, bin_or8, bin_shl64, bin_shl64j, bin_shr64, bin_shr64j, bin_shl8j, bin_shr8j, bin_quo64, bin_rem64, bin_quo32, bin_rem32, bin_addj, bin_subj, bin_quoj, bin_remj, bin_eqlj, bin_neqj, bin_lssj, bin_leqj, bin_gtrj, bin_geqj, bin_eql64, bin_lss64, bin_gtr64, bin_eql8, bin_rem8, hkB, gB, gA, hi, gA1, gA4, g1, g4, gl, hlt, gs, f0, f3, q6, gB1, gB4, f1, f2]; exact rfl) (wp_cond_t (by simp [AS.ev]) (wp_skip' ?_))))
        refine wp_seq' (wp_block' ?_)
        refine wp_sr (by simp [runPre, AOp.ex, AOp.ex0, ex_mov, ex_bin, binA_lit, ex_cvt, ex_iaddrA, ex_iaddrS, ex_faddr, ex_load, ldA, ex_ext, ex_add64, add64A_un, ex_pick, ex_beq, ex_un, ex_len, lenA_sl, lenA_nil, lenA_str, lenA_own, lenRow_row, elA_own, elA_sl, elRow_row, ex_nilc, ex_build, ex_bslice, ex_fieldv, AOp.ro, AS.ev, AS.put, AS.fieldAddr, idxA_ptr, idxA_cptr, AS.peek, AS.poke, AS.blk, AS.setBlk, AV.nav, AV.upd, Blk.loc, Blk.cont, Blk.n, Blk.may, Blk.upd, AV.isAgg, AV.isTup, AV.sz, unVal, ownOk, fillAV, AV.sub, cvt_64j, cvt_64b, cvt_64w, cvt_8u, cvt_8w, bin_add64, bin_mul64, bin_sub64, bin_and51, bin_and32, bin_and1, bin_and8_1, bin_or64, bin_xor64, bin_or8, bin_shl64, bin_shl64j, bin_shr64, bin_shr64j, bin_shl8j, bin_shr8j, bin_quo64, bin_rem64, bin_quo32, bin_rem32, bin_addj, bin_subj, bin_quoj, bin_remj, bin_eqlj, bin_neqj, bin_lssj, bin_leqj, bin_gtrj, bin_geqj, bin_eql64, bin_lss64, bin_gtr64, bin_eql8, bin_rem8, hkB, gB, gA, hi, gA1, gA4, g1, g4, gl, hlt, gs, f0, f3, q6, gB1, gB4, f1, f2]; exact rfl) ?_
        refine wp_seq' (wp_seq' (wp_r (by simp [runPre, AOp.ex, AOp.ex0, ex_mov, ex_bin, binA_lit, ex_cvt, ex_iaddrA, ex_iaddrS, ex_faddr, ex_load, ldA, ex_ext, ex_add64, add64A_un, ex_pick, ex_beq, ex_un, ex_len, lenA_sl, lenA_nil, lenA_str, lenA_own, lenRow_row, elA_own, elA_sl, elRow_row, ex_nilc, ex_build, ex_bslice, ex_fieldv, AOp.ro, AS.ev, AS.put, AS.fieldAddr, idxA_ptr, idxA_cptr, AS.peek, AS.poke, AS.blk, AS.setBlk, AV.nav, AV.upd, Blk.loc, Blk.cont, Blk.n, Blk.may, Blk.upd, AV.isAgg, AV.isTup, AV.sz, unVal, ownOk, fillAV, AV.sub, cvt_64j, cvt_64b, cvt_64w, cvt_8u, cvt_8w, bin_add64, bin_mul64, bin_sub64, bin_and51, bin_and32, bin_and1, bin_and8_1, bin_or64, bin_xor64, bin_or8, bin_shl64, bin_shl64j, bin_shr64, bin_shr64j, bin_shl8j, bin_shr8j, bin_quo64, bin_rem64, bin_quo32, bin_rem32, bin_addj, bin_subj, bin_quoj, bin_remj, bin_eqlj, bin_neqj, bin_lssj, bin_leqj, bin_gtrj, bin_geqj, bin_eql64, bin_lss64, bin_gtr64, bin_eql8, bin_rem8, hkB, gB, gA, hi, gA1, gA4, g1, g4, gl, hlt, gs, f0, f3, q6, gB1, gB4, f1, f2]; exact rfl) (wp_cond_t (by simp [AS.ev]) (wp_r (by simp [runPre, AOp.ex, AOp.ex0, ex_mov, ex_bin, binA_lit, ex_cvt, ex_iaddrA, ex_iaddrS, ex_faddr, ex_load, ldA, ex_ext, ex_add64, add64A_un, ex_pick, ex_beq, ex_un, ex_len, lenA_sl, lenA_nil, lenA_str, lenA_own, lenRow_row, elA_own, elA_sl, elRow_row, ex_nilc, ex_build, ex_bslice, ex_fieldv, AOp.ro, AS.ev, AS.put, AS.fieldAddr, idxA_ptr, idxA_cptr, AS.peek, AS.poke, AS.blk, AS.setBlk, AV.nav, AV.upd, Blk.loc, Blk.cont, Blk.n, Blk.may, Blk.upd, AV.isAgg, AV.isTup, AV.sz, unVal, ownOk, fillAV, AV.sub, cvt_64j, cvt_64b, cvt_64w, cvt_8u, cvt_8w, bin_add64, bin_mul64, bin_sub64, bin_and51, bin_and32, bin_and1, bin_and8_1, bin_or64, bin_xor64, bin_or8, bin_shl64, bin_shl64j, bin_shr64, bin_shr64j, bin_shl8j, bin_shr8j, bin_quo64, bin_rem64, bin_quo32, bin_rem32, bin_addj, bin_subj, bin_quoj, bin_remj, bin_eqlj, bin_neqj, bin_lssj, bin_leqj, bin_gtrj, bin_geqj, bin_eql64, bin_lss64, bin_gtr64, bin_eql8, bin_rem8, hkB, gB, gA, hi, gA1, gA4, g1, g4, gl, hlt, gs, f0, f3, q6, gB1, gB4, f1, f2]; exact rfl) ?_))))
        refine wp_sr (by simp [runPre, AOp.ex, AOp.ex0, ex_mov, ex_bin, binA_lit, ex_cvt, ex_iaddrA, ex_iaddrS, ex_faddr, ex_load, ldA, ex_ext, ex_add64, add64A_un, ex_pick, ex_beq, ex_un, ex_len, lenA_sl, lenA_nil, lenA_str, lenA_own, lenRow_row, elA_own, elA_sl, elRow_row, ex_nilc, ex_build, ex_bslice, ex_fieldv, AOp.ro, AS.ev, AS.put, AS.fieldAddr, idxA_ptr, idxA_cptr, AS.peek, AS.poke, AS.blk, AS.setBlk, AV.nav, AV.upd, Blk.loc, Blk.cont, Blk.n, Blk.may, Blk.upd, AV.isAgg, AV.isTup, AV.sz, unVal, ownOk, fillAV, AV.sub, cvt_64j, cvt_64b, cvt_64w, cvt_8u, cvt_8w, bin_add64, bin_mul64, bin_sub64, bin_and51, bin_and32, bin_and1, bin_and8_1, bin_or64, bin_xor64, bin_or8, bin_shl64, bin_shl64j, bin_shr64, bin_shr64j, bin_shl8j, bin_shr8j, bin_quo64, bin_rem64, bin_quo32, bin_rem32, bin_addj, bin_subj, bin_quoj, bin_remj, bin_eqlj, bin_neqj, bin_lssj, bin_leqj, bin_gtrj, bin_geqj, bin_eql64, bin_lss64, bin_gtr64, bin_eql8, bin_rem8, hkB, gB, gA, hi, gA1, gA4, g1, g4, gl, hlt, gs, f0, f3, q6, gB1, gB4, f1, f2]; exact rfl) ?_
        refine wp_r (by simp [runPre, AOp.ex, AOp.ex0, ex_mov, ex_bin, binA_lit, ex_cvt, ex_iaddrA, ex_iaddrS, ex_faddr, ex_load, ldA, ex_ext, ex_add64, add64A_un, ex_pick, ex_beq, ex_un, ex_len, lenA_sl, lenA_nil, lenA_str, lenA_own, lenRow_row, elA_own, elA_sl, elRow_row, ex_nilc, ex_build, ex_bslice, ex_fieldv, AOp.ro, AS.ev, AS.put, AS.fieldAddr, idxA_ptr, idxA_cptr, AS.peek, AS.poke, AS.blk, AS.setBlk, AV.nav, AV.upd, Blk.loc, Blk.cont, Blk.n, Blk.may, Blk.upd, AV.isAgg, AV.isTup, AV.sz, unVal, ownOk, fillAV, AV.sub, cvt_64j, cvt_64b, cvt_64w, cvt_8u, cvt_8w, bin_add64, bin_mul64, bin_sub64, bin_and51, bin_and32, bin_and1, bin_and8_1, bin_or64, bin_xor64, bin_or8, bin_shl64, bin_shl64j, bin_shr64, bin_shr64j, bin_shl8j, bin_shr8j, bin_quo64, bin_rem64, bin_quo32, bin_rem32, bin_addj, bin_subj, bin_quoj, bin_remj, bin_eqlj, bin_neqj, bin_lssj, bin_leqj, bin_gtrj, bin_geqj, bin_eql64, bin_lss64, bin_gtr64, bin_eql8, bin_rem8, hkB, gB, gA, hi, gA1, gA4, g1, g4, gl, hlt, gs, f0, f3, q6, gB1, gB4, f1, f2]; exact rfl) ?_
        refine wp_r (by simp [runPre, AOp.ex, AOp.ex0, ex_mov, ex_bin, binA_lit, ex_cvt, ex_iaddrA, ex_iaddrS, ex_faddr, ex_load, ldA, ex_ext, ex_add64, add64A_un, ex_pick, ex_beq, ex_un, ex_len, lenA_sl, lenA_nil, lenA_str, lenA_own, lenRow_row, elA_own, elA_sl, elRow_row, ex_nilc, ex_build, ex_bslice, ex_fieldv, AOp.ro, AS.ev, AS.put, AS.fieldAddr, idxA_ptr, idxA_cptr, AS.peek, AS.poke, AS.blk, AS.setBlk, AV.nav, AV.upd, Blk.loc, Blk.cont, Blk.n, Blk.may, Blk.upd, AV.isAgg, AV.isTup, AV.sz, unVal, ownOk, fillAV, AV.sub, cvt_64j, cvt_64b, cvt_64w, cvt_8u, cvt_8w, bin_add64, bin_mul64, bin_sub64, bin_and51, bin_and32, bin_and1, bin_and8_1, bin_or64, bin_xor64, bin_or8, bin_shl64, bin_shl64j, bin_shr64, bin_shr64j, bin_shl8j, bin_shr8j, bin_quo64, bin_rem64, bin_quo32, bin_rem32, bin_addj, bin_subj, bin_quoj, bin_remj, bin_eqlj, bin_neqj, bin_lssj, bin_leqj, bin_gtrj, bin_geqj, bin_eql64, bin_lss64, bin_gtr64, bin_eql8, bin_rem8, q5]; exact rfl) ?_
        exact Le.mk rfl (by simp [leT]) (by simp [leH, gs])
      · skip
        have zB : nth B k = 0 := nth_out hkB
        have hcp := hcK hkB
        rw [zB, Nat.mul_zero, Nat.add_zero]
        have f3 : (nth o' (i + k) + c) / 256 % 18446744073709551616 = (nth o' (i + k) + c) / 256 := by omega
        refine wp_seq' (wp_seq' (wp_r (by simp [runPre, AOp.ex, AOp.ex0, ex_mov, ex_bin, binA_lit, ex_cvt, ex_iaddrA, ex_iaddrS, ex_faddr, ex_load, ldA, ex_ext, ex_add64, add64A_un, ex_pick, ex_beq, ex_un, ex_len, lenA_sl, lenA_nil, lenA_str, lenA_own, lenRow_row, elA_own, elA_sl, elRow_row, ex_nilc, ex_build, ex_bslice, ex_fieldv, AOp.ro, AS.ev, AS.put, AS.fieldAddr, idxA_ptr, idxA_cptr, AS.peek, AS.poke, AS.blk, AS.setBlk, AV.nav, AV.upd, Blk.loc, Blk.cont, Blk.n, Blk.may, Blk.upd, AV.isAgg, AV.isTup, AV.sz, unVal, ownOk, fillAV, AV.sub, cvt_64j, cvt_64b, cvt_64w, cvt_8u, cvt_8w, bin_add64, bin_mul64, bin_sub64, bin_and51, bin_and32, bin_and1, bin_and8_1, bin_or64, bin_xor64, bin_or8, bin_shl64, bin_shl64j, bin_shr64, bin_shr64j, bin_shl8j, bin_shr8j, bin_quo64, bin_rem64, bin_quo32, bin_rem32, bin_addj, bin_subj, bin_quoj, bin_remj, bin_eqlj, bin_neqj, bin_lssj, bin_leqj, bin_gtrj, bin_geqj, bin_eql64, bin_lss64, bin_gtr64, bin_eql8, bin_rem8, hkB, gB, gA, hi, gA1, gA4, g1, g4, gl, hlt, gs, f0, f3, q6, hcp]; exact rfl) (wp_cond_t (by simp [AS.ev]) (wp_skip' ?_))))
        refine wp_seq' (wp_block' ?_)
        refine wp_sr (by simp [runPre, AOp.ex, AOp.ex0, ex_mov, ex_bin, binA_lit, ex_cvt, ex_iaddrA, ex_iaddrS, ex_faddr, ex_load, ldA, ex_ext, ex_add64, add64A_un, ex_pick, ex_beq, ex_un, ex_len, lenA_sl, lenA_nil, lenA_str, lenA_own, lenRow_row, elA_own, elA_sl, elRow_row, ex_nilc, ex_build, ex_bslice, ex_fieldv, AOp.ro, AS.ev, AS.put, AS.fieldAddr, idxA_ptr, idxA_cptr, AS.peek, AS.poke, AS.blk, AS.setBlk, AV.nav, AV.upd, Blk.loc, Blk.cont, Blk.n, Blk.may, Blk.upd, AV.isAgg, AV.isTup, AV.sz, unVal, ownOk, fillAV, AV.sub, cvt_64j, cvt_64b, cvt_64w, cvt_8u, cvt_8w, bin_add64, bin_mul64, bin_sub64, bin_and51, bin_and32, bin_and1, bin_and8_1, bin_or64, bin_xor64, bin_or8, bin_shl64, bin_shl64j, bin_shr64, bin_shr64j, bin_shl8j, bin_shr8j, bin_quo64, bin_rem64, bin_quo32, bin_rem32, bin_addj, bin_subj, bin_quoj, bin_remj, bin_eqlj, bin_neqj, bin_lssj, bin_leqj, bin_gtrj, bin_geqj, bin_eql64, bin_lss64, bin_gtr64, bin_eql8, bin_rem8, hkB, gB, gA, hi, gA1, gA4, g1, g4, gl, hlt, gs, f0, f3, q6, hcp]; exact rfl) ?_
        refine wp_seq' (wp_seq' (wp_r (by simp [runPre, AOp.ex, AOp.ex0, ex_mov, ex_bin, binA_lit, ex_cvt, ex_iaddrA, ex_iaddrS, ex_faddr, ex_load, ldA, ex_ext, ex_add64, add64A_un, ex_pick, ex_beq, ex_un, ex_len, lenA_sl, lenA_nil, lenA_str, lenA_own, lenRow_row, elA_own, elA_sl, elRow_row, ex_nilc, ex_build, ex_bslice, ex_fieldv, AOp.ro, AS.ev, AS.put, AS.fieldAddr, idxA_ptr, idxA_cptr, AS.peek, AS.poke, AS.blk, AS.setBlk, AV.nav, AV.upd, Blk.loc, Blk.cont, Blk.n, Blk.may, Blk.upd, AV.isAgg, AV.isTup, AV.sz, unVal, ownOk, fillAV, AV.sub, cvt_64j, cvt_64b, cvt_64w, cvt_8u, cvt_8w, bin_add64, bin_mul64, bin_sub64, bin_and51, bin_and32, bin_and1, bin_and8_1, bin_or64, bin_xor64, bin_or8, bin_shl64, bin_shl64j, bin_shr64, bin_shr64j, bin_shl8j, bin_shr8j, bin_quo64, bin_rem64, bin_quo32, bin_rem32, bin_addj, bin_subj, bin_quoj, bin_remj, bin_eqlj, bin_neqj, bin_lssj, bin_leqj, bin_gtrj, bin_geqj, bin_eql64, bin_lss64, bin_gtr64, bin_eql8, bin_rem8, hkB, gB, gA, hi, gA1, gA4, g1, g4, gl, hlt, gs, f0, f3, q6, hcp]; exact rfl) (wp_cond_f (by simp [AS.ev]) (wp_skip' ?_))))
        refine wp_sr (by simp [runPre, AOp.ex, AOp.ex0, ex_mov, ex_bin, binA_lit, ex_cvt, ex_iaddrA, ex_iaddrS, ex_faddr, ex_load, ldA, ex_ext, ex_add64, add64A_un, ex_pick, ex_beq, ex_un, ex_len, lenA_sl, lenA_nil, lenA_str, lenA_own, lenRow_row, elA_own, elA_sl, elRow_row, ex_nilc, ex_build, ex_bslice, ex_fieldv, AOp.ro, AS.ev, AS.put, AS.fieldAddr, idxA_ptr, idxA_cptr, AS.peek, AS.poke, AS.blk, AS.setBlk, AV.nav, AV.upd, Blk.loc, Blk.cont, Blk.n, Blk.may, Blk.upd, AV.isAgg, AV.isTup, AV.sz, unVal, ownOk, fillAV, AV.sub, cvt_64j, cvt_64b, cvt_64w, cvt_8u, cvt_8w, bin_add64, bin_mul64, bin_sub64, bin_and51, bin_and32, bin_and1, bin_and8_1, bin_or64, bin_xor64, bin_or8, bin_shl64, bin_shl64j, bin_shr64, bin_shr64j, bin_shl8j, bin_shr8j, bin_quo64, bin_rem64, bin_quo32, bin_rem32, bin_addj, bin_subj, bin_quoj, bin_remj, bin_eqlj, bin_neqj, bin_lssj, bin_leqj, bin_gtrj, bin_geqj, bin_eql64, bin_lss64, bin_gtr64, bin_eql8, bin_rem8, hkB, gB, gA, hi, gA1, gA4, g1, g4, gl, hlt, gs, f0, f3, q6, hcp]; exact rfl) ?_
        refine wp_r (by simp [runPre, AOp.ex, AOp.ex0, ex_mov, ex_bin, binA_lit, ex_cvt, ex_iaddrA, ex_iaddrS, ex_faddr, ex_load, ldA, ex_ext, ex_add64, add64A_un, ex_pick, ex_beq, ex_un, ex_len, lenA_sl, lenA_nil, lenA_str, lenA_own, lenRow_row, elA_own, elA_sl, elRow_row, ex_nilc, ex_build, ex_bslice, ex_fieldv, AOp.ro, AS.ev, AS.put, AS.fieldAddr, idxA_ptr, idxA_cptr, AS.peek, AS.poke, AS.blk, AS.setBlk, AV.nav, AV.upd, Blk.loc, Blk.cont, Blk.n, Blk.may, Blk.upd, AV.isAgg, AV.isTup, AV.sz, unVal, ownOk, fillAV, AV.sub, cvt_64j, cvt_64b, cvt_64w, cvt_8u, cvt_8w, bin_add64, bin_mul64, bin_sub64, bin_and51, bin_and32, bin_and1, bin_and8_1, bin_or64, bin_xor64, bin_or8, bin_shl64, bin_shl64j, bin_shr64, bin_shr64j, bin_shl8j, bin_shr8j, bin_quo64, bin_rem64, bin_quo32, bin_rem32, bin_addj, bin_subj, bin_quoj, bin_remj, bin_eqlj, bin_neqj, bin_lssj, bin_leqj, bin_gtrj, bin_geqj, bin_eql64, bin_lss64, bin_gtr64, bin_eql8, bin_rem8, hkB, gB, gA, hi, gA1, gA4, g1, g4, gl, hlt, gs, f0, f3, q6, hcp]; exact rfl) ?_
        refine wp_r (by simp [runPre, AOp.ex, AOp.ex0, ex_mov, ex_bin, binA_lit, ex_cvt, ex_iaddrA, ex_iaddrS, ex_faddr, ex_load, ldA, ex_ext, ex_add64, add64A_un, ex_pick, ex_beq, ex_un, ex_len, lenA_sl, lenA_nil, lenA_str, lenA_own, lenRow_row, elA_own, elA_sl, elRow_row, ex_nilc, ex_build, ex_bslice, ex_fieldv, AOp.ro, AS.ev, AS.put, AS.fieldAddr, idxA_ptr, idxA_cptr, AS.peek, AS.poke, AS.blk, AS.setBlk, AV.nav, AV.upd, Blk.loc, Blk.cont, Blk.n, Blk.may, Blk.upd, AV.isAgg, AV.isTup, AV.sz, unVal, ownOk, fillAV, AV.sub, cvt_64j, cvt_64b, cvt_64w, cvt_8u, cvt_8w, bin_add64, bin_mul64, bin_sub64, bin_and51, bin_and32, bin_and1, bin_and8_1, bin_or64, bin_xor64, bin_or8, bin_shl64, bin_shl64j, bin_shr64, bin_shr64j, bin_shl8j, bin_shr8j, bin_quo64, bin_rem64, bin_quo32, bin_rem32, bin_addj, bin_subj, bin_quoj, bin_remj, bin_eqlj, bin_neqj, bin_lssj, bin_leqj, bin_gtrj, bin_geqj, bin_eql64, bin_lss64, bin_gtr64, bin_eql8, bin_rem8, q5]; exact rfl) ?_
        exact Le.mk rfl (by simp [leT]) (by simp [leH, gs])
    · have hK := mulK_le a B i o
      have hkB : ¬ mulK a B i o < B.length := by omega
      rw [hend]
      generalize (mulC a B i o (mulK a B i o)).1 = o' at *
      generalize mulK a B i o = kk at *
      refine wp_seq' (wp_seq' (wp_r (by simp [runPre, AOp.ex, AOp.ex0, ex_mov, ex_bin, binA_lit, ex_cvt, ex_iaddrA, ex_iaddrS, ex_faddr, ex_load, ldA, ex_ext, ex_add64, add64A_un, ex_pick, ex_beq, ex_un, ex_len, lenA_sl, lenA_nil, lenA_str, lenA_own, lenRow_row, elA_own, elA_sl, elRow_row, ex_nilc, ex_build, ex_bslice, ex_fieldv, AOp.ro, AS.ev, AS.put, AS.fieldAddr, idxA_ptr, idxA_cptr, AS.peek, AS.poke, AS.blk, AS.setBlk, AV.nav, AV.upd, Blk.loc, Blk.cont, Blk.n, Blk.may, Blk.upd, AV.isAgg, AV.isTup, AV.sz, unVal, ownOk, fillAV, AV.sub, cvt_64j, cvt_64b, cvt_64w, cvt_8u, cvt_8w, bin_add64, bin_mul64, bin_sub64, bin_and51, bin_and32, bin_and1, bin_and8_1, bin_or64, bin_xor64, bin_or8, bin_shl64, bin_shl64j, bin_shr64, bin_shr64j, bin_shl8j, bin_shr8j, bin_quo64, bin_rem64, bin_quo32, bin_rem32, bin_addj, bin_subj, bin_quoj, bin_remj, bin_eqlj, bin_neqj, bin_lssj, bin_leqj, bin_gtrj, bin_geqj, bin_eql64, bin_lss64, bin_gtr64, bin_eql8, bin_rem8, hkB, gB]; exact rfl) (wp_cond_f (by simp [AS.ev]) (wp_exit' (if_hit rfl ?_)))))
      refine wp_r (by simp [runPre, AOp.ex, AOp.ex0, ex_mov, ex_bin, binA_lit, ex_cvt, ex_iaddrA, ex_iaddrS, ex_faddr, ex_load, ldA, ex_ext, ex_add64, add64A_un, ex_pick, ex_beq, ex_un, ex_len, lenA_sl, lenA_nil, lenA_str, lenA_own, lenRow_row, elA_own, elA_sl, elRow_row, ex_nilc, ex_build, ex_bslice, ex_fieldv, AOp.ro, AS.ev, AS.put, AS.fieldAddr, idxA_ptr, idxA_cptr, AS.peek, AS.poke, AS.blk, AS.setBlk, AV.nav, AV.upd, Blk.loc, Blk.cont, Blk.n, Blk.may, Blk.upd, AV.isAgg, AV.isTup, AV.sz, unVal, ownOk, fillAV, AV.sub, cvt_64j, cvt_64b, cvt_64w, cvt_8u, cvt_8w, bin_add64, bin_mul64, bin_sub64, bin_and51, bin_and32, bin_and1, bin_and8_1, bin_or64, bin_xor64, bin_or8, bin_shl64, bin_shl64j, bin_shr64, bin_shr64j, bin_shl8j, bin_shr8j, bin_quo64, bin_rem64, bin_quo32, bin_rem32, bin_addj, bin_subj, bin_quoj, bin_remj, bin_eqlj, bin_neqj, bin_lssj, bin_leqj, bin_gtrj, bin_geqj, bin_eql64, bin_lss64, bin_gtr64, bin_eql8, bin_rem8, q4]; exact rfl) ?_
      exact Le.mk rfl (by simp [leT]) (by simp [leH])
  · have hp : timesL A B = mulO A B A.length := rfl
    rw [hp]
    generalize mulO A B A.length = L at *
    refine wp_seq' (wp_seq' (wp_r (by simp [runPre, AOp.ex, AOp.ex0, ex_mov, ex_bin, binA_lit, ex_cvt, ex_iaddrA, ex_iaddrS, ex_faddr, ex_load, ldA, ex_ext, ex_add64, add64A_un, ex_pick, ex_beq, ex_un, ex_len, lenA_sl, lenA_nil, lenA_str, lenA_own, lenRow_row, elA_own, elA_sl, elRow_row, ex_nilc, ex_build, ex_bslice, ex_fieldv, AOp.ro, AS.ev, AS.put, AS.fieldAddr, idxA_ptr, idxA_cptr, AS.peek, AS.poke, AS.blk, AS.setBlk, AV.nav, AV.upd, Blk.loc, Blk.cont, Blk.n, Blk.may, Blk.upd, AV.isAgg, AV.isTup, AV.sz, unVal, ownOk, fillAV, AV.sub, cvt_64j, cvt_64b, cvt_64w, cvt_8u, cvt_8w, bin_add64, bin_mul64, bin_sub64, bin_and51, bin_and32, bin_and1, bin_and8_1, bin_or64, bin_xor64, bin_or8, bin_shl64, bin_shl64j, bin_shr64, bin_shr64j, bin_shl8j, bin_shr8j, bin_quo64, bin_rem64, bin_quo32, bin_rem32, bin_addj, bin_subj, bin_quoj, bin_remj, bin_eqlj, bin_neqj, bin_lssj, bin_leqj, bin_gtrj, bin_geqj, bin_eql64, bin_lss64, bin_gtr64, bin_eql8, bin_rem8, gA]; exact rfl) (wp_cond_f (by simp [AS.ev]) (wp_exit' (if_hit rfl ?_)))))
    repeat (first | (with_reducible apply wp_sr); focus (simp [runPre, AOp.ex, AOp.ex0, ex_mov, ex_bin, binA_lit, ex_cvt, ex_iaddrA, ex_iaddrS, ex_faddr, ex_load, ldA, ex_ext, ex_add64, add64A_un, ex_pick, ex_beq, ex_un, ex_len, lenA_sl, lenA_nil, lenA_str, lenA_own, lenRow_row, elA_own, elA_sl, elRow_row, ex_nilc, ex_build, ex_bslice, ex_fieldv, AOp.ro, AS.ev, AS.put, AS.fieldAddr, idxA_ptr, idxA_cptr, AS.peek, AS.poke, AS.blk, AS.setBlk, AV.nav, AV.upd, Blk.loc, Blk.cont, Blk.n, Blk.may, Blk.upd, AV.isAgg, AV.isTup, AV.sz, unVal, ownOk, fillAV, AV.sub, cvt_64j, cvt_64b, cvt_64w, cvt_8u, cvt_8w, bin_add64, bin_mul64, bin_sub64, bin_and51, bin_and32, bin_and1, bin_and8_1, bin_or64, bin_xor64, bin_or8, bin_shl64, bin_shl64j, bin_shr64, bin_shr64j, bin_shl8j, bin_shr8j, bin_quo64, bin_rem64, bin_quo32, bin_rem32, bin_addj, bin_subj, bin_quoj, bin_remj, bin_eqlj, bin_neqj, bin_lssj, bin_leqj, bin_gtrj, bin_geqj, bin_eql64, bin_lss64, bin_gtr64, bin_eql8, bin_rem8]; exact rfl) | (with_reducible apply wp_r); focus (simp [runPre, AOp.ex, AOp.ex0, ex_mov, ex_bin, binA_lit, ex_cvt, ex_iaddrA, ex_iaddrS, ex_faddr, ex_load, ldA, ex_ext, ex_add64, add64A_un, ex_pick, ex_beq, ex_un, ex_len, lenA_sl, lenA_nil, lenA_str, lenA_own, lenRow_row, elA_own, elA_sl, elRow_row, ex_nilc, ex_build, ex_bslice, ex_fieldv, AOp.ro, AS.ev, AS.put, AS.fieldAddr, idxA_ptr, idxA_cptr, AS.peek, AS.poke, AS.blk, AS.setBlk, AV.nav, AV.upd, Blk.loc, Blk.cont, Blk.n, Blk.may, Blk.upd, AV.isAgg, AV.isTup, AV.sz, unVal, ownOk, fillAV, AV.sub, cvt_64j, cvt_64b, cvt_64w, cvt_8u, cvt_8w, bin_add64, bin_mul64, bin_sub64, bin_and51, bin_and32, bin_and1, bin_and8_1, bin_or64, bin_xor64, bin_or8, bin_shl64, bin_shl64j, bin_shr64, bin_shr64j, bin_shl8j, bin_shr8j, bin_quo64, bin_rem64, bin_quo32, bin_rem32, bin_addj, bin_subj, bin_quoj, bin_remj, bin_eqlj, bin_neqj, bin_lssj, bin_leqj, bin_gtrj, bin_geqj, bin_eql64, bin_lss64, bin_gtr64, bin_eql8, bin_rem8]; exact rfl) | (with_reducible refine wp_seq' (wp_cond_t ?_ ?_)); focus (simp [AS.ev]; done) | (with_reducible refine wp_seq' (wp_cond_f ?_ ?_)); focus (simp [AS.ev]; done) | (with_reducible refine wp_cond_t ?_ ?_); focus (simp [AS.ev]; done) | (with_reducible refine wp_cond_f ?_ ?_); focus (simp [AS.ev]; done) | with_reducible refine wp_seq' ?_ | with_reducible refine wp_block' ?_ | with_reducible refine wp_skip' ?_ | with_reducible refine wp_exit' ?_ | with_reducible refine wp_ret' ?_ | with_reducible refine if_hit rfl ?_ | with_reducible refine loopN_succ ?_)
    refine fin_row (b := 16) (V := V) ?_ ?_
    · simp [AS.ev]
    · simp [AS.blk]
end Go.Cab

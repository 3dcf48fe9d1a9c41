/- References: Of, Plus, Times. -/
import Derived.Test.YtjkckdiepdbfeaaCabM5
set_option linter.unusedSimpArgs false
set_option linter.unusedVariables false
set_option linter.unusedSectionVars false
namespace Go.Cab
def fb27 : AC := (.seq (.reg [⟨(.some 1), .none, (.box 32 (.tmp 0)), [], .none⟩, ⟨(.some 2), .none, (.alloc 32 (.arr 1 (List.replicate 32 (.lit (bn 0))))), [], .none⟩]) (.seq (.reg [⟨(.some 3), .none, (.load .true 32 (.tmp 1)), [], .none⟩, ⟨(.some 4), .none, (.call 27 [(.tmp 3)]), [], .none⟩, ⟨(.some 5), .none, (.call 26 [(.tmp 4)]), [], .none⟩, ⟨(.some 6), .none, (.lcall 25 [(.tmp 5)]), [], .none⟩, ⟨.none, .none, (.store 32 (.tmp 2) (.tmp 6)), [], .none⟩]) .ret))
def fc27 : FC := ⟨1, 7, [(.cell 2 .true 32)], fb27⟩
theorem fc27_eq : compF Go.Proofs.Try.prog 12 = some fc27 := by kernel_rfl
def fb34 : AC := (.seq (.reg [⟨(.some 2), .none, (.box 32 (.tmp 0)), [], .none⟩, ⟨(.some 3), .none, (.box 32 (.tmp 1)), [], .none⟩, ⟨(.some 4), .none, (.alloc 32 (.arr 1 (List.replicate 32 (.lit (bn 0))))), [], .none⟩]) (.seq (.reg [⟨(.some 5), .none, (.load .true 32 (.tmp 2)), [], .none⟩, ⟨(.some 6), .none, (.callv 27 [(.tmp 5)]), [], .none⟩, ⟨(.some 7), .none, (.load .true 32 (.tmp 3)), [], .none⟩, ⟨(.some 8), .none, (.callv 27 [(.tmp 7)]), [], .none⟩, ⟨(.some 9), .none, (.callv 31 [(.tmp 6), (.tmp 8)]), [], .none⟩, ⟨(.some 10), .none, (.callv 26 [(.tmp 9)]), [], .none⟩, ⟨(.some 11), .none, (.lcall 25 [(.tmp 10)]), [], .none⟩, ⟨.none, .none, (.store 32 (.tmp 4) (.tmp 11)), [], .none⟩]) .ret))
def fc34 : FC := ⟨2, 12, [(.cell 4 .true 32)], fb34⟩
theorem fc34_eq : compF Go.Proofs.Try.prog 19 = some fc34 := by kernel_rfl
def fb30 : AC := (.seq (.reg [⟨(.some 2), .none, (.box 32 (.tmp 0)), [], .none⟩, ⟨(.some 3), .none, (.box 32 (.tmp 1)), [], .none⟩, ⟨(.some 4), .none, (.alloc 32 (.arr 1 (List.replicate 32 (.lit (bn 0))))), [], .none⟩]) (.seq (.reg [⟨(.some 5), .none, (.load .true 32 (.tmp 2)), [], .none⟩, ⟨(.some 6), .none, (.callv 27 [(.tmp 5)]), [], .none⟩, ⟨(.some 7), .none, (.load .true 32 (.tmp 3)), [], .none⟩, ⟨(.some 8), .none, (.callv 27 [(.tmp 7)]), [], .none⟩, ⟨(.some 9), .none, (.callv 28 [(.tmp 6), (.tmp 8)]), [], .none⟩, ⟨(.some 10), .none, (.callv 26 [(.tmp 9)]), [], .none⟩, ⟨(.some 11), .none, (.lcall 25 [(.tmp 10)]), [], .none⟩, ⟨.none, .none, (.store 32 (.tmp 4) (.tmp 11)), [], .none⟩]) .ret))
def fc30 : FC := ⟨2, 12, [(.cell 4 .true 32)], fb30⟩
theorem fc30_eq : compF Go.Proofs.Try.prog 15 = some fc30 := by kernel_rfl

theorem digitsOf_len (n : Nat) : (digitsOf n).length = 32 := by simp [digitsOf]

/-- The key of digits, reduced. -/
theorem key_rest {P : Program} (h75 : compF P 25 = some fc75) {A : List Nat} (hA : ∀ d ∈ A, d < 256) (hl : A.length < 1000) : PCall P 25 [.sl 1 (dl (restF A))] (.val (keyAV (valL A % pp))) := by
  obtain ⟨g1, g2, g3⟩ := restF_facts hA hl
  rw [← g2]
  exact key_call h75 _ g1 (by omega)

set_option maxHeartbeats 8000000 in
set_option maxRecDepth 20000 in
theorem of_call {P : Program} (h110 : compF P 33 = some fc110) (h78 : compF P 28 = some fc78) (h81 : compF P 31 = some fc81) (h76 : compF P 26 = some fc76) (h75 : compF P 25 = some fc75) (h77 : compF P 27 = some fc77) (h27 : compF P 12 = some fc27) (n : Nat) : PCall P 12 [keyAV n] (.val (keyAV (n % 2 ^ 255 % pp))) := by
  have hd := digits_call h77 n
  have hl := digitsOf_len n
  have hlt := digitsOf_lt n
  have hr := rest_call h110 h78 h81 h76 (digitsOf n) hlt (by omega)
  have hk := key_rest h75 hlt (by omega)
  rw [digits_val] at hk
  unfold keyAV at *
  generalize digitsOf n = A at *
  generalize restF A = R at *
  refine PCall.of h27 rfl ?_; show AC.wp _ fb27 (AS.init [.arr 1 (lst 32 fun j => .lit (bn (n / 2 ^ (8 * j) % 256)))] 1 7) (fun x s => match x with | .exit _ => False | _ => Fin [(.cell 2 .true 32)] s _); unfold fb27 AS.init
  refine wp_sg (areg_bx rfl (by simp [AS.ev, AV.sz, lst_len]) fun l1 => areg_al fun l2 => areg_nil ?_)
  refine wp_sg (areg_run 1 (by simp [runPre, AOp.ex, AOp.ex0, ex_mov, ex_bin, binA_lit, ex_cvt, ex_iaddrA, ex_iaddrS, ex_faddr, ex_load, ldA, ex_ext, ex_add64, add64A_un, ex_pick, ex_beq, ex_un, ex_len, lenA_sl, lenA_nil, lenA_str, lenA_own, lenRow_row, elA_own, elA_sl, elRow_row, ex_nilc, ex_build, ex_bslice, ex_fieldv, AOp.ro, AS.ev, AS.put, AS.fieldAddr, idxA_ptr, idxA_cptr, AS.peek, AS.poke, AS.blk, AS.setBlk, AV.nav, AV.upd, Blk.loc, Blk.cont, Blk.n, Blk.may, Blk.upd, AV.isAgg, AV.isTup, AV.sz, unVal, ownOk, fillAV, AV.sub, cvt_64j, cvt_64b, cvt_64w, cvt_8u, cvt_8w, bin_add64, bin_mul64, bin_sub64, bin_and51, bin_and32, bin_and1, bin_and8_1, bin_or64, bin_xor64, bin_or8, bin_shl64, bin_shl64j, bin_shr64, bin_shr64j, bin_shl8j, bin_shr8j, bin_quo64, bin_rem64, bin_quo32, bin_rem32, bin_addj, bin_subj, bin_quoj, bin_remj, bin_eqlj, bin_neqj, bin_lssj, bin_leqj, bin_gtrj, bin_geqj, bin_eql64, bin_lss64, bin_gtr64, bin_eql8, bin_rem8, lst_len]; exact rfl) (areg_cr (by simp [AS.ev, AS.coe] <;> exact rfl) hd fun V => ?_))
  refine areg_cs [4] _ (by simp [AS.seals, AS.seal1, AS.blk, AS.setBlk]; exact rfl) (by simp [AS.ev, AS.coe, AS.blk, tt] <;> exact rfl) hr ?_
  refine areg_lc (by simp [AS.ev, AS.lend, AS.put] <;> exact rfl) rfl hk ?_
  refine areg_end (by simp [runPre, AOp.ex, AOp.ex0, ex_mov, ex_bin, binA_lit, ex_cvt, ex_iaddrA, ex_iaddrS, ex_faddr, ex_load, ldA, ex_ext, ex_add64, add64A_un, ex_pick, ex_beq, ex_un, ex_len, lenA_sl, lenA_nil, lenA_str, lenA_own, lenRow_row, elA_own, elA_sl, elRow_row, ex_nilc, ex_build, ex_bslice, ex_fieldv, AOp.ro, AS.ev, AS.put, AS.fieldAddr, idxA_ptr, idxA_cptr, AS.peek, AS.poke, AS.blk, AS.setBlk, AV.nav, AV.upd, Blk.loc, Blk.cont, Blk.n, Blk.may, Blk.upd, AV.isAgg, AV.isTup, AV.sz, unVal, ownOk, fillAV, AV.sub, cvt_64j, cvt_64b, cvt_64w, cvt_8u, cvt_8w, bin_add64, bin_mul64, bin_sub64, bin_and51, bin_and32, bin_and1, bin_and8_1, bin_or64, bin_xor64, bin_or8, bin_shl64, bin_shl64j, bin_shr64, bin_shr64j, bin_shl8j, bin_shr8j, bin_quo64, bin_rem64, bin_quo32, bin_rem32, bin_addj, bin_subj, bin_quoj, bin_remj, bin_eqlj, bin_neqj, bin_lssj, bin_leqj, bin_gtrj, bin_geqj, bin_eql64, bin_lss64, bin_gtr64, bin_eql8, bin_rem8, lst_len]; exact rfl) ?_
  repeat (first | (with_reducible apply wp_sr); focus (simp [runPre, AOp.ex, AOp.ex0, ex_mov, ex_bin, binA_lit, ex_cvt, ex_iaddrA, ex_iaddrS, ex_faddr, ex_load, ldA, ex_ext, ex_add64, add64A_un, ex_pick, ex_beq, ex_un, ex_len, lenA_sl, lenA_nil, lenA_str, lenA_own, lenRow_row, elA_own, elA_sl, elRow_row, ex_nilc, ex_build, ex_bslice, ex_fieldv, AOp.ro, AS.ev, AS.put, AS.fieldAddr, idxA_ptr, idxA_cptr, AS.peek, AS.poke, AS.blk, AS.setBlk, AV.nav, AV.upd, Blk.loc, Blk.cont, Blk.n, Blk.may, Blk.upd, AV.isAgg, AV.isTup, AV.sz, unVal, ownOk, fillAV, AV.sub, cvt_64j, cvt_64b, cvt_64w, cvt_8u, cvt_8w, bin_add64, bin_mul64, bin_sub64, bin_and51, bin_and32, bin_and1, bin_and8_1, bin_or64, bin_xor64, bin_or8, bin_shl64, bin_shl64j, bin_shr64, bin_shr64j, bin_shl8j, bin_shr8j, bin_quo64, bin_rem64, bin_quo32, bin_rem32, bin_addj, bin_subj, bin_quoj, bin_remj, bin_eqlj, bin_neqj, bin_lssj, bin_leqj, bin_gtrj, bin_geqj, bin_eql64, bin_lss64, bin_gtr64, bin_eql8, bin_rem8, lst_len]; exact rfl) | (with_reducible apply wp_r); focus (simp [runPre, AOp.ex, AOp.ex0, ex_mov, ex_bin, binA_lit, ex_cvt, ex_iaddrA, ex_iaddrS, ex_faddr, ex_load, ldA, ex_ext, ex_add64, add64A_un, ex_pick, ex_beq, ex_un, ex_len, lenA_sl, lenA_nil, lenA_str, lenA_own, lenRow_row, elA_own, elA_sl, elRow_row, ex_nilc, ex_build, ex_bslice, ex_fieldv, AOp.ro, AS.ev, AS.put, AS.fieldAddr, idxA_ptr, idxA_cptr, AS.peek, AS.poke, AS.blk, AS.setBlk, AV.nav, AV.upd, Blk.loc, Blk.cont, Blk.n, Blk.may, Blk.upd, AV.isAgg, AV.isTup, AV.sz, unVal, ownOk, fillAV, AV.sub, cvt_64j, cvt_64b, cvt_64w, cvt_8u, cvt_8w, bin_add64, bin_mul64, bin_sub64, bin_and51, bin_and32, bin_and1, bin_and8_1, bin_or64, bin_xor64, bin_or8, bin_shl64, bin_shl64j, bin_shr64, bin_shr64j, bin_shl8j, bin_shr8j, bin_quo64, bin_rem64, bin_quo32, bin_rem32, bin_addj, bin_subj, bin_quoj, bin_remj, bin_eqlj, bin_neqj, bin_lssj, bin_leqj, bin_gtrj, bin_geqj, bin_eql64, bin_lss64, bin_gtr64, bin_eql8, bin_rem8, lst_len]; exact rfl) | (with_reducible refine wp_seq' (wp_cond_t ?_ ?_)); focus (simp [AS.ev]; done) | (with_reducible refine wp_seq' (wp_cond_f ?_ ?_)); focus (simp [AS.ev]; done) | (with_reducible refine wp_cond_t ?_ ?_); focus (simp [AS.ev]; done) | (with_reducible refine wp_cond_f ?_ ?_); focus (simp [AS.ev]; done) | with_reducible refine wp_seq' ?_ | with_reducible refine wp_block' ?_ | with_reducible refine wp_skip' ?_ | with_reducible refine wp_exit' ?_ | with_reducible refine wp_ret' ?_ | with_reducible refine if_hit rfl ?_ | with_reducible refine loopN_succ ?_)
  refine fin_cell (by simp [RVal, AS.coe, tt, AS.ev, AS.peek, AS.blk, Blk.loc, Blk.cont, Blk.n, AV.nav, AV.isAgg, AV.isTup, AS.put]) (by simp)
end Go.Cab

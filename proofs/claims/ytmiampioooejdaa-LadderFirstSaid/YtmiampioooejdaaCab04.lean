/- Part 4 of what the proof stands on: F1, B0, F4, M1. -/
import Derived.Test.YtmiampioooejdaaCab03
import Derived.Test.YtmiampioooejdaaProg
set_option linter.unusedSimpArgs false
set_option linter.unusedVariables false
set_option linter.unusedSectionVars false
/- Field: products of numbers; carry. -/
namespace Go.Cab
def fb113 : AC := (.seq (.reg [⟨(.some 4), .none, (.mov (.const (un 0))), [], .none⟩, ⟨(.some 5), .none, (.mov (.const (un 0))), [], .none⟩]) (.seq (.reg [⟨(.some 14), .none, (.mov (.tmp 0)), [], .none⟩, ⟨(.some 15), .none, (.bin .and (.tmp 14) (.const (un 4294967295))), [], .none⟩, ⟨(.some 6), .none, (.mov (.tmp 15)), [], .none⟩]) (.seq (.reg [⟨(.some 16), .none, (.mov (.tmp 0)), [], .none⟩, ⟨(.some 17), .none, (.bin .shr (.tmp 16) (.const (un 32))), [], .none⟩, ⟨(.some 7), .none, (.mov (.tmp 17)), [], .none⟩]) (.seq (.reg [⟨(.some 18), .none, (.mov (.tmp 1)), [], .none⟩, ⟨(.some 19), .none, (.bin .and (.tmp 18) (.const (un 4294967295))), [], .none⟩, ⟨(.some 8), .none, (.mov (.tmp 19)), [], .none⟩]) (.seq (.reg [⟨(.some 20), .none, (.mov (.tmp 1)), [], .none⟩, ⟨(.some 21), .none, (.bin .shr (.tmp 20) (.const (un 32))), [], .none⟩, ⟨(.some 9), .none, (.mov (.tmp 21)), [], .none⟩]) (.seq (.reg [⟨(.some 22), .none, (.mov (.tmp 6)), [], .none⟩, ⟨(.some 23), .none, (.mov (.tmp 8)), [], .none⟩, ⟨(.some 24), .none, (.bin .mul (.tmp 22) (.tmp 23)), [], .none⟩, ⟨(.some 10), .none, (.mov (.tmp 24)), [], .none⟩]) (.seq (.reg [⟨(.some 25), .none, (.mov (.tmp 7)), [], .none⟩, ⟨(.some 26), .none, (.mov (.tmp 8)), [], .none⟩, ⟨(.some 27), .none, (.bin .mul (.tmp 25) (.tmp 26)), [], .none⟩, ⟨(.some 28), .none, (.mov (.tmp 10)), [], .none⟩, ⟨(.some 29), .none, (.bin .shr (.tmp 28) (.const (un 32))), [], .none⟩, ⟨(.some 30), .none, (.bin .add (.tmp 27) (.tmp 29)), [], .none⟩, ⟨(.some 11), .none, (.mov (.tmp 30)), [], .none⟩]) (.seq (.reg [⟨(.some 31), .none, (.mov (.tmp 11)), [], .none⟩, ⟨(.some 32), .none, (.bin .and (.tmp 31) (.const (un 4294967295))), [], .none⟩, ⟨(.some 12), .none, (.mov (.tmp 32)), [], .none⟩]) (.seq (.reg [⟨(.some 33), .none, (.mov (.tmp 11)), [], .none⟩, ⟨(.some 34), .none, (.bin .shr (.tmp 33) (.const (un 32))), [], .none⟩, ⟨(.some 13), .none, (.mov (.tmp 34)), [], .none⟩]) (.seq (.reg [⟨(.some 35), .none, (.mov (.tmp 12)), [], .none⟩, ⟨(.some 36), .none, (.mov (.tmp 6)), [], .none⟩, ⟨(.some 37), .none, (.mov (.tmp 9)), [], .none⟩, ⟨(.some 38), .none, (.bin .mul (.tmp 36) (.tmp 37)), [], .none⟩, ⟨(.some 39), .none, (.bin .add (.tmp 35) (.tmp 38)), [], .none⟩, ⟨(.some 12), .none, (.mov (.tmp 39)), [], .none⟩]) (.seq (.reg [⟨(.some 40), .none, (.mov (.tmp 7)), [], .none⟩, ⟨(.some 41), .none, (.mov (.tmp 9)), [], .none⟩, ⟨(.some 42), .none, (.bin .mul (.tmp 40) (.tmp 41)), [], .none⟩, ⟨(.some 43), .none, (.mov (.tmp 13)), [], .none⟩, ⟨(.some 44), .none, (.bin .add (.tmp 42) (.tmp 43)), [], .none⟩, ⟨(.some 45), .none, (.mov (.tmp 12)), [], .none⟩, ⟨(.some 46), .none, (.bin .shr (.tmp 45) (.const (un 32))), [], .none⟩, ⟨(.some 47), .none, (.bin .add (.tmp 44) (.tmp 46)), [], .none⟩, ⟨(.some 4), .none, (.mov (.tmp 47)), [], .none⟩]) (.seq (.reg [⟨(.some 48), .none, (.mov (.tmp 0)), [], .none⟩, ⟨(.some 49), .none, (.mov (.tmp 1)), [], .none⟩, ⟨(.some 50), .none, (.bin .mul (.tmp 48) (.tmp 49)), [], .none⟩, ⟨(.some 5), .none, (.mov (.tmp 50)), [], .none⟩]) .ret))))))))))))
def fc113 : FC := ⟨2, 51, [(.tmp 4), (.tmp 5)], fb113⟩
theorem fc113_eq : compF Go.Proofs.Try.prog 42 = some fc113 := by kernel_rfl
def fb111 : AC := (.seq (.reg [⟨(.some 10), .none, (.mov (.tmp 1)), [], .none⟩, ⟨(.some 11), .none, (.mov (.tmp 2)), [], .none⟩, ⟨(.some 12), .none, (.call 42 [(.tmp 10), (.tmp 11)]), [], .none⟩, ⟨(.some 9), .none, (.mov (.tmp 12)), [], .none⟩, ⟨(.some 13), .none, (.ext (.tmp 9) 0), [], .none⟩, ⟨(.some 14), .none, (.ext (.tmp 9) 1), [], .none⟩, ⟨(.some 6), .none, (.mov (.tmp 13)), [], .none⟩, ⟨(.some 7), .none, (.mov (.tmp 14)), [], .none⟩]) (.seq (.reg [⟨(.some 8), .none, (.mov (.const (un 0))), [], .none⟩]) (.seq (.reg [⟨(.some 16), .none, (.mov (.tmp 0)), [], .none⟩, ⟨(.some 17), .none, (.mov (.tmp 0)), [], .none⟩, ⟨(.some 18), .none, (.nilc (.tmp 17)), [], .none⟩, ⟨(.some 19), .none, (.faddr 1 1 (.tmp 18)), [], .none⟩, ⟨(.some 20), .none, (.load .false 1 (.tmp 19)), [], .none⟩, ⟨(.some 21), .none, (.mov (.tmp 7)), [], .none⟩, ⟨(.some 22), .none, (.add64 (.tmp 20) (.tmp 21) (.const (un 0))), [], .none⟩, ⟨(.some 15), .none, (.mov (.tmp 22)), [], .none⟩, ⟨(.some 23), .none, (.ext (.tmp 15) 0), [], .none⟩, ⟨(.some 24), .none, (.ext (.tmp 15) 1), [], .none⟩, ⟨(.some 25), .none, (.nilc (.tmp 16)), [], .none⟩, ⟨(.some 26), .none, (.faddr 1 1 (.tmp 25)), [], .none⟩, ⟨.none, .none, (.store 1 (.tmp 26) (.tmp 23)), [], .none⟩, ⟨(.some 8), .none, (.mov (.tmp 24)), [], .none⟩]) (.reg [⟨(.some 28), .none, (.mov (.tmp 0)), [], .none⟩, ⟨(.some 29), .none, (.mov (.tmp 0)), [], .none⟩, ⟨(.some 30), .none, (.nilc (.tmp 29)), [], .none⟩, ⟨(.some 31), .none, (.faddr 0 0 (.tmp 30)), [], .none⟩, ⟨(.some 32), .none, (.load .false 1 (.tmp 31)), [], .none⟩, ⟨(.some 33), .none, (.mov (.tmp 6)), [], .none⟩, ⟨(.some 34), .none, (.mov (.tmp 8)), [], .none⟩, ⟨(.some 35), .none, (.add64 (.tmp 32) (.tmp 33) (.tmp 34)), [], .none⟩, ⟨(.some 27), .none, (.mov (.tmp 35)), [], .none⟩, ⟨(.some 36), .none, (.ext (.tmp 27) 0), [], .none⟩, ⟨(.some 37), .none, (.ext (.tmp 27) 1), [], .none⟩, ⟨(.some 38), .none, (.nilc (.tmp 28)), [], .none⟩, ⟨(.some 39), .none, (.faddr 0 0 (.tmp 38)), [], .none⟩, ⟨.none, .none, (.store 1 (.tmp 39) (.tmp 36)), [], .none⟩]))))
def fc111 : FC := ⟨3, 40, [], fb111⟩
theorem fc111_eq : compF Go.Proofs.Try.prog 40 = some fc111 := by kernel_rfl
def fb79 : AC := (.seq (.reg [⟨(.some 1), .none, (.box 5 (.tmp 0)), [], .none⟩, ⟨(.some 2), .none, (.alloc 5 (.st [5] [(.arr 1 (List.replicate 5 (.lit (un 0))))])), [], .none⟩]) (.seq (.reg [⟨(.some 3), .none, (.mov (.const (un 0))), [], .none⟩]) (.seq (.seq (.reg [⟨(.some 5), .none, (.mov (.const (jn 0))), [], .none⟩]) (.block 0 (.loop (.seq (.reg [⟨(.some 6), .none, (.bin .lss (.tmp 5) (.const (jn 5))), [], .none⟩]) (.seq (.cond (.tmp 6) .skip (.exit 0)) (.seq (.block 1 (.seq (.reg [⟨(.some 7), .none, (.mov (.tmp 5)), [], .none⟩, ⟨(.some 4), .none, (.mov (.tmp 7)), [], .none⟩]) (.seq (.reg [⟨(.some 8), .none, (.mov (.tmp 4)), [], .none⟩, ⟨(.some 9), .none, (.faddr 0 0 (.tmp 1)), [], .none⟩, ⟨(.some 10), .none, (.iaddrA 5 1 (.tmp 9) (.tmp 8)), [], .none⟩, ⟨(.some 11), .none, (.load .false 1 (.tmp 10)), [], .none⟩, ⟨(.some 12), .none, (.mov (.tmp 3)), [], .none⟩, ⟨(.some 13), .none, (.bin .add (.tmp 11) (.tmp 12)), [], .none⟩, ⟨(.some 14), .none, (.faddr 0 0 (.tmp 1)), [], .none⟩, ⟨(.some 15), .none, (.iaddrA 5 1 (.tmp 14) (.tmp 8)), [], .none⟩, ⟨.none, .none, (.store 1 (.tmp 15) (.tmp 13)), [], .none⟩]) (.seq (.reg [⟨(.some 16), .none, (.mov (.tmp 4)), [], .none⟩, ⟨(.some 17), .none, (.faddr 0 0 (.tmp 1)), [], .none⟩, ⟨(.some 18), .none, (.iaddrA 5 1 (.tmp 17) (.tmp 16)), [], .none⟩, ⟨(.some 19), .none, (.load .false 1 (.tmp 18)), [], .none⟩, ⟨(.some 20), .none, (.bin .shr (.tmp 19) (.const (un 51))), [], .none⟩, ⟨(.some 3), .none, (.mov (.tmp 20)), [], .none⟩]) (.reg [⟨(.some 21), .none, (.mov (.tmp 4)), [], .none⟩, ⟨(.some 22), .none, (.faddr 0 0 (.tmp 1)), [], .none⟩, ⟨(.some 23), .none, (.iaddrA 5 1 (.tmp 22) (.tmp 21)), [], .none⟩, ⟨(.some 24), .none, (.load .false 1 (.tmp 23)), [], .none⟩, ⟨(.some 25), .none, (.bin .and (.tmp 24) (.const (un 2251799813685247))), [], .none⟩, ⟨(.some 26), .none, (.faddr 0 0 (.tmp 1)), [], .none⟩, ⟨(.some 27), .none, (.iaddrA 5 1 (.tmp 26) (.tmp 21)), [], .none⟩, ⟨.none, .none, (.store 1 (.tmp 27) (.tmp 25)), [], .none⟩]))))) (.reg [⟨(.some 28), .none, (.bin .add (.tmp 5) (.const (jn 1))), [], .none⟩, ⟨(.some 5), .none, (.mov (.tmp 28)), [], .none⟩]))))))) (.seq (.reg [⟨(.some 29), .none, (.faddr 0 0 (.tmp 1)), [], .none⟩, ⟨(.some 30), .none, (.iaddrA 5 1 (.tmp 29) (.const (jn 0))), [], .none⟩, ⟨(.some 31), .none, (.load .false 1 (.tmp 30)), [], .none⟩, ⟨(.some 32), .none, (.mov (.tmp 3)), [], .none⟩, ⟨(.some 33), .none, (.bin .mul (.const (un 19)) (.tmp 32)), [], .none⟩, ⟨(.some 34), .none, (.bin .add (.tmp 31) (.tmp 33)), [], .none⟩, ⟨(.some 35), .none, (.faddr 0 0 (.tmp 1)), [], .none⟩, ⟨(.some 36), .none, (.iaddrA 5 1 (.tmp 35) (.const (jn 0))), [], .none⟩, ⟨.none, .none, (.store 1 (.tmp 36) (.tmp 34)), [], .none⟩]) (.seq (.reg [⟨(.some 37), .none, (.load .true 5 (.tmp 1)), [], .none⟩, ⟨.none, .none, (.store 5 (.tmp 2) (.tmp 37)), [], .none⟩]) .ret)))))
def fc79 : FC := ⟨1, 38, [(.cell 2 .true 5)], fb79⟩
theorem fc79_eq : compF Go.Proofs.Try.prog 30 = some fc79 := by kernel_rfl

def elem (a b c d e : Nat) : AV := .st [5] [.arr 1 [.lit (un a), .lit (un b), .lit (un c), .lit (un d), .lit (un e)]]

theorem mul_hi {x y : Nat} (hx : x < 18446744073709551616) (hy : y < 18446744073709551616) :
    (x / 4294967296 * (y / 4294967296) + (x / 4294967296 * (y % 4294967296) + x % 4294967296 * (y % 4294967296) / 4294967296) / 4294967296 +
      ((x / 4294967296 * (y % 4294967296) + x % 4294967296 * (y % 4294967296) / 4294967296) % 4294967296 + x % 4294967296 * (y / 4294967296)) / 4294967296) = x * y / 18446744073709551616 := by
  have ex := Nat.div_add_mod x 4294967296
  have ey := Nat.div_add_mod y 4294967296
  have hx0 : x % 4294967296 < 4294967296 := Nat.mod_lt _ (by decide)
  have hy0 : y % 4294967296 < 4294967296 := Nat.mod_lt _ (by decide)
  generalize x / 4294967296 = x1 at *
  generalize y / 4294967296 = y1 at *
  generalize x % 4294967296 = x0 at *
  generalize y % 4294967296 = y0 at *
  subst ex ey
  have e : (4294967296 * x1 + x0) * (4294967296 * y1 + y0) = 18446744073709551616 * (x1 * y1) + 4294967296 * (x1 * y0) + 4294967296 * (x0 * y1) + x0 * y0 := by
    grind
  rw [e]
  generalize x1 * y1 = p
  generalize x1 * y0 = q
  generalize x0 * y1 = r
  generalize x0 * y0 = s
  omega

theorem mul_hi' {x y : Nat} (hx : x < 18446744073709551616) (hy : y < 18446744073709551616) :
    (x / 4294967296 * (y / 4294967296) + (x / 4294967296 * (y % 4294967296) + x % 4294967296 * (y % 4294967296) % 18446744073709551616 / 4294967296) % 18446744073709551616 / 4294967296 +
      ((x / 4294967296 * (y % 4294967296) + x % 4294967296 * (y % 4294967296) % 18446744073709551616 / 4294967296) % 4294967296 + x % 4294967296 * (y / 4294967296)) % 18446744073709551616 / 4294967296) % 18446744073709551616 = x * y / 18446744073709551616 := by
  rw [← mul_hi hx hy]
  have h1 : x / 4294967296 ≤ 4294967295 := by omega
  have h2 : y / 4294967296 ≤ 4294967295 := by omega
  have h3 : x % 4294967296 ≤ 4294967295 := by omega
  have h4 : y % 4294967296 ≤ 4294967295 := by omega
  have p1 := Nat.mul_le_mul h1 h2
  have p2 := Nat.mul_le_mul h1 h4
  have p3 := Nat.mul_le_mul h3 h2
  have p4 := Nat.mul_le_mul h3 h4
  generalize x / 4294967296 * (y / 4294967296) = p at *
  generalize x / 4294967296 * (y % 4294967296) = q at *
  generalize x % 4294967296 * (y / 4294967296) = r at *
  generalize x % 4294967296 * (y % 4294967296) = s at *
  have e1 : s % 18446744073709551616 = s := Nat.mod_eq_of_lt (by omega)
  rw [e1]
  have e2 : (q + s / 4294967296) % 18446744073709551616 = q + s / 4294967296 := Nat.mod_eq_of_lt (by omega)
  rw [e2]
  have e3 : ((q + s / 4294967296) % 4294967296 + r) % 18446744073709551616 = (q + s / 4294967296) % 4294967296 + r := Nat.mod_eq_of_lt (by omega)
  rw [e3]
  exact Nat.mod_eq_of_lt (by omega)

set_option maxHeartbeats 4000000 in
set_option maxRecDepth 20000 in
theorem mul64_call {P : Program} (h113 : compF P 42 = some fc113) (x y : Nat) (hx : x < 18446744073709551616) (hy : y < 18446744073709551616) :
    PCall P 42 [.lit (un x), .lit (un y)] (.val (.tup [.lit (un (x * y / 18446744073709551616)), .lit (un (x * y % 18446744073709551616))])) := by
  refine PCall.of h113 rfl ?_; show AC.wp _ fb113 (AS.init [.lit (un x), .lit (un y)] 2 51) (fun x s => match x with | .exit _ => False | _ => Fin [(.tmp 4), (.tmp 5)] s _); unfold fb113 AS.init
  repeat (first | (with_reducible apply wp_sr); focus (simp [runPre, AOp.ex, AOp.ex0, ex_mov, ex_bin, binA_lit, ex_cvt, ex_iaddrA, ex_iaddrS, ex_faddr, ex_load, ldA, ex_ext, ex_add64, add64A_un, ex_pick, ex_beq, ex_un, ex_len, lenA_sl, lenA_nil, lenA_str, lenA_own, lenRow_row, elA_own, elA_sl, elRow_row, ex_nilc, ex_build, ex_bslice, ex_fieldv, AOp.ro, AS.ev, AS.put, AS.fieldAddr, idxA_ptr, idxA_cptr, AS.peek, AS.poke, AS.blk, AS.setBlk, AV.nav, AV.upd, Blk.loc, Blk.cont, Blk.n, Blk.may, Blk.upd, AV.isAgg, AV.isTup, AV.sz, unVal, ownOk, fillAV, AV.sub, cvt_64j, cvt_64b, cvt_64w, cvt_8u, cvt_8w, bin_add64, bin_mul64, bin_sub64, bin_and51, bin_and32, bin_and1, bin_and8_1, bin_or64, bin_xor64, bin_or8, bin_shl64, bin_shl64j, bin_shr64, bin_shr64j, bin_shl8j, bin_shr8j, bin_quo64, bin_rem64, bin_quo32, bin_rem32, bin_addj, bin_subj, bin_quoj, bin_remj, bin_eqlj, bin_neqj, bin_lssj, bin_leqj, bin_gtrj, bin_geqj, bin_eql64, bin_lss64, bin_gtr64, bin_eql8, bin_rem8]; exact rfl) | (with_reducible apply wp_r); focus (simp [runPre, AOp.ex, AOp.ex0, ex_mov, ex_bin, binA_lit, ex_cvt, ex_iaddrA, ex_iaddrS, ex_faddr, ex_load, ldA, ex_ext, ex_add64, add64A_un, ex_pick, ex_beq, ex_un, ex_len, lenA_sl, lenA_nil, lenA_str, lenA_own, lenRow_row, elA_own, elA_sl, elRow_row, ex_nilc, ex_build, ex_bslice, ex_fieldv, AOp.ro, AS.ev, AS.put, AS.fieldAddr, idxA_ptr, idxA_cptr, AS.peek, AS.poke, AS.blk, AS.setBlk, AV.nav, AV.upd, Blk.loc, Blk.cont, Blk.n, Blk.may, Blk.upd, AV.isAgg, AV.isTup, AV.sz, unVal, ownOk, fillAV, AV.sub, cvt_64j, cvt_64b, cvt_64w, cvt_8u, cvt_8w, bin_add64, bin_mul64, bin_sub64, bin_and51, bin_and32, bin_and1, bin_and8_1, bin_or64, bin_xor64, bin_or8, bin_shl64, bin_shl64j, bin_shr64, bin_shr64j, bin_shl8j, bin_shr8j, bin_quo64, bin_rem64, bin_quo32, bin_rem32, bin_addj, bin_subj, bin_quoj, bin_remj, bin_eqlj, bin_neqj, bin_lssj, bin_leqj, bin_gtrj, bin_geqj, bin_eql64, bin_lss64, bin_gtr64, bin_eql8, bin_rem8]; exact rfl) | (with_reducible refine wp_seq' (wp_cond_t ?_ ?_)); focus (simp [AS.ev]; done) | (with_reducible refine wp_seq' (wp_cond_f ?_ ?_)); focus (simp [AS.ev]; done) | (with_reducible refine wp_cond_t ?_ ?_); focus (simp [AS.ev]; done) | (with_reducible refine wp_cond_f ?_ ?_); focus (simp [AS.ev]; done) | with_reducible refine wp_seq' ?_ | with_reducible refine wp_block' ?_ | with_reducible refine wp_skip' ?_ | with_reducible refine wp_exit' ?_ | with_reducible refine wp_ret' ?_ | with_reducible refine if_hit rfl ?_ | with_reducible refine loopN_succ ?_)
  refine fin_tup (by simp [RVals, RVal, AS.coe, AS.ev, un_inj]; exact mul_hi' hx hy) (by simp)

theorem icall_ret {P : Prop} (h : P) : P := h

set_option maxHeartbeats 4000000 in
set_option maxRecDepth 20000 in
theorem wadd_call {P : Program} (h113 : compF P 42 = some fc113) (h111 : compF P 40 = some fc111) (hi lo x y : Nat) (hx : x < 18446744073709551616) (hy : y < 18446744073709551616) (hh : hi < 18446744073709551616) (hl : lo < 18446744073709551616)
    (hb : hi * 18446744073709551616 + lo + x * y < 340282366920938463463374607431768211456) :
    ICall P 40 2 (.st [1, 1] [.lit (un hi), .lit (un lo)]) [.lit (un x), .lit (un y)] (.tup []) (.st [1, 1] [.lit (un ((hi * 18446744073709551616 + lo + x * y) / 18446744073709551616)), .lit (un ((hi * 18446744073709551616 + lo + x * y) % 18446744073709551616))]) := by
  refine ICall.of h111 rfl fun l => ?_
  show AC.wp P fb111 (AS.init1 l 2 (.st [1, 1] [.lit (un hi), .lit (un lo)]) [.lit (un x), .lit (un y)] 3 40) (fun x s => match x with | .exit _ => False | _ => Fin [] s _ ∧ _)
  have hc : (lo + x * y % 18446744073709551616) / 18446744073709551616 ≤ 1 := by omega
  unfold fb111 AS.init1
  refine wp_sg (areg_run 2 (by simp [runPre, AOp.ex, AOp.ex0, ex_mov, ex_bin, binA_lit, ex_cvt, ex_iaddrA, ex_iaddrS, ex_faddr, ex_load, ldA, ex_ext, ex_add64, add64A_un, ex_pick, ex_beq, ex_un, ex_len, lenA_sl, lenA_nil, lenA_str, lenA_own, lenRow_row, elA_own, elA_sl, elRow_row, ex_nilc, ex_build, ex_bslice, ex_fieldv, AOp.ro, AS.ev, AS.put, AS.fieldAddr, idxA_ptr, idxA_cptr, AS.peek, AS.poke, AS.blk, AS.setBlk, AV.nav, AV.upd, Blk.loc, Blk.cont, Blk.n, Blk.may, Blk.upd, AV.isAgg, AV.isTup, AV.sz, unVal, ownOk, fillAV, AV.sub, cvt_64j, cvt_64b, cvt_64w, cvt_8u, cvt_8w, bin_add64, bin_mul64, bin_sub64, bin_and51, bin_and32, bin_and1, bin_and8_1, bin_or64, bin_xor64, bin_or8, bin_shl64, bin_shl64j, bin_shr64, bin_shr64j, bin_shl8j, bin_shr8j, bin_quo64, bin_rem64, bin_quo32, bin_rem32, bin_addj, bin_subj, bin_quoj, bin_remj, bin_eqlj, bin_neqj, bin_lssj, bin_leqj, bin_gtrj, bin_geqj, bin_eql64, bin_lss64, bin_gtr64, bin_eql8, bin_rem8]; exact rfl) (areg_ca (by simp [AS.coe, AS.ev]; done) (mul64_call h113 x y hx hy) ?_))
  refine areg_end (by simp [runPre, AOp.ex, AOp.ex0, ex_mov, ex_bin, binA_lit, ex_cvt, ex_iaddrA, ex_iaddrS, ex_faddr, ex_load, ldA, ex_ext, ex_add64, add64A_un, ex_pick, ex_beq, ex_un, ex_len, lenA_sl, lenA_nil, lenA_str, lenA_own, lenRow_row, elA_own, elA_sl, elRow_row, ex_nilc, ex_build, ex_bslice, ex_fieldv, AOp.ro, AS.ev, AS.put, AS.fieldAddr, idxA_ptr, idxA_cptr, AS.peek, AS.poke, AS.blk, AS.setBlk, AV.nav, AV.upd, Blk.loc, Blk.cont, Blk.n, Blk.may, Blk.upd, AV.isAgg, AV.isTup, AV.sz, unVal, ownOk, fillAV, AV.sub, cvt_64j, cvt_64b, cvt_64w, cvt_8u, cvt_8w, bin_add64, bin_mul64, bin_sub64, bin_and51, bin_and32, bin_and1, bin_and8_1, bin_or64, bin_xor64, bin_or8, bin_shl64, bin_shl64j, bin_shr64, bin_shr64j, bin_shl8j, bin_shr8j, bin_quo64, bin_rem64, bin_quo32, bin_rem32, bin_addj, bin_subj, bin_quoj, bin_remj, bin_eqlj, bin_neqj, bin_lssj, bin_leqj, bin_gtrj, bin_geqj, bin_eql64, bin_lss64, bin_gtr64, bin_eql8, bin_rem8]; exact rfl) ?_
  repeat (first | (with_reducible apply wp_sr); focus (simp [runPre, AOp.ex, AOp.ex0, ex_mov, ex_bin, binA_lit, ex_cvt, ex_iaddrA, ex_iaddrS, ex_faddr, ex_load, ldA, ex_ext, ex_add64, add64A_un, ex_pick, ex_beq, ex_un, ex_len, lenA_sl, lenA_nil, lenA_str, lenA_own, lenRow_row, elA_own, elA_sl, elRow_row, ex_nilc, ex_build, ex_bslice, ex_fieldv, AOp.ro, AS.ev, AS.put, AS.fieldAddr, idxA_ptr, idxA_cptr, AS.peek, AS.poke, AS.blk, AS.setBlk, AV.nav, AV.upd, Blk.loc, Blk.cont, Blk.n, Blk.may, Blk.upd, AV.isAgg, AV.isTup, AV.sz, unVal, ownOk, fillAV, AV.sub, cvt_64j, cvt_64b, cvt_64w, cvt_8u, cvt_8w, bin_add64, bin_mul64, bin_sub64, bin_and51, bin_and32, bin_and1, bin_and8_1, bin_or64, bin_xor64, bin_or8, bin_shl64, bin_shl64j, bin_shr64, bin_shr64j, bin_shl8j, bin_shr8j, bin_quo64, bin_rem64, bin_quo32, bin_rem32, bin_addj, bin_subj, bin_quoj, bin_remj, bin_eqlj, bin_neqj, bin_lssj, bin_leqj, bin_gtrj, bin_geqj, bin_eql64, bin_lss64, bin_gtr64, bin_eql8, bin_rem8, add64A_un _ _ _ hc]; exact rfl) | (with_reducible apply wp_r); focus (simp [runPre, AOp.ex, AOp.ex0, ex_mov, ex_bin, binA_lit, ex_cvt, ex_iaddrA, ex_iaddrS, ex_faddr, ex_load, ldA, ex_ext, ex_add64, add64A_un, ex_pick, ex_beq, ex_un, ex_len, lenA_sl, lenA_nil, lenA_str, lenA_own, lenRow_row, elA_own, elA_sl, elRow_row, ex_nilc, ex_build, ex_bslice, ex_fieldv, AOp.ro, AS.ev, AS.put, AS.fieldAddr, idxA_ptr, idxA_cptr, AS.peek, AS.poke, AS.blk, AS.setBlk, AV.nav, AV.upd, Blk.loc, Blk.cont, Blk.n, Blk.may, Blk.upd, AV.isAgg, AV.isTup, AV.sz, unVal, ownOk, fillAV, AV.sub, cvt_64j, cvt_64b, cvt_64w, cvt_8u, cvt_8w, bin_add64, bin_mul64, bin_sub64, bin_and51, bin_and32, bin_and1, bin_and8_1, bin_or64, bin_xor64, bin_or8, bin_shl64, bin_shl64j, bin_shr64, bin_shr64j, bin_shl8j, bin_shr8j, bin_quo64, bin_rem64, bin_quo32, bin_rem32, bin_addj, bin_subj, bin_quoj, bin_remj, bin_eqlj, bin_neqj, bin_lssj, bin_leqj, bin_gtrj, bin_geqj, bin_eql64, bin_lss64, bin_gtr64, bin_eql8, bin_rem8, add64A_un _ _ _ hc]; exact rfl) | (with_reducible refine wp_seq' (wp_cond_t ?_ ?_)); focus (simp [AS.ev]; done) | (with_reducible refine wp_seq' (wp_cond_f ?_ ?_)); focus (simp [AS.ev]; done) | (with_reducible refine wp_cond_t ?_ ?_); focus (simp [AS.ev]; done) | (with_reducible refine wp_cond_f ?_ ?_); focus (simp [AS.ev]; done) | with_reducible refine wp_seq' ?_ | with_reducible refine wp_block' ?_ | with_reducible refine wp_skip' ?_ | with_reducible refine wp_exit' ?_ | with_reducible refine wp_ret' ?_ | with_reducible refine if_hit rfl ?_ | with_reducible refine loopN_succ ?_)
  refine ⟨⟨[], [], rfl, rfl, by simp⟩, ?_⟩
  simp only [AS.blk, List.getElem?_cons_zero, Option.join_some, Option.some.injEq, Blk.box.injEq, AV.st.injEq, List.cons.injEq, AV.lit.injEq, un_inj, true_and, and_true]
  generalize x * y = z at *
  constructor <;> omega

/-! ### carry -/

/-- Where the limbs stand. -/
def val5 (a b c d e : Nat) : Nat := a + 2251799813685248 * b + 5070602400912917605986812821504 * c + 11417981541647679048466287755595961091061972992 * d + 25711008708143844408671393477458601640355247900524685364822016 * e

def cy2 (a b : Nat) : Nat := b + a / 2251799813685248
def cy3 (a b c : Nat) : Nat := c + cy2 a b / 2251799813685248
def cy4 (a b c d : Nat) : Nat := d + cy3 a b c / 2251799813685248
def cy5 (a b c d e : Nat) : Nat := e + cy4 a b c d / 2251799813685248

/-- What carry comes to. -/
def carried (a b c d e : Nat) : AV := elem (a % 2251799813685248 + 19 * (cy5 a b c d e / 2251799813685248)) (cy2 a b % 2251799813685248) (cy3 a b c % 2251799813685248) (cy4 a b c d % 2251799813685248) (cy5 a b c d e % 2251799813685248)

theorem carry_nums {a b c d e : Nat} (ha : a < 9223372036854775808) (hb : b < 9223372036854775808) (hc : c < 9223372036854775808) (hd : d < 9223372036854775808) (he : e < 9223372036854775808) :
    a % 18446744073709551616 = a ∧ (b + a / 2251799813685248) % 18446744073709551616 = cy2 a b ∧ (c + cy2 a b / 2251799813685248) % 18446744073709551616 = cy3 a b c ∧
    (d + cy3 a b c / 2251799813685248) % 18446744073709551616 = cy4 a b c d ∧ (e + cy4 a b c d / 2251799813685248) % 18446744073709551616 = cy5 a b c d e ∧
    (a % 2251799813685248 + 19 * (cy5 a b c d e / 2251799813685248)) % 18446744073709551616 = a % 2251799813685248 + 19 * (cy5 a b c d e / 2251799813685248) := by
  have h2 : cy2 a b < 9223372036854775808 + 4096 := by unfold cy2; omega
  have h3 : cy3 a b c < 9223372036854775808 + 4097 := by unfold cy3; omega
  have h4 : cy4 a b c d < 9223372036854775808 + 4097 := by unfold cy4; omega
  have h5 : cy5 a b c d e < 9223372036854775808 + 4097 := by unfold cy5; omega
  refine ⟨by omega, ?_, ?_, ?_, ?_, by omega⟩
  · rw [← cy2]; omega
  · rw [← cy3]; omega
  · rw [← cy4]; omega
  · rw [← cy5]; omega

set_option maxHeartbeats 4000000 in
set_option maxRecDepth 20000 in
theorem carry_call {P : Program} (h79 : compF P 30 = some fc79) {a b c d e : Nat} (ha : a < 9223372036854775808) (hb : b < 9223372036854775808) (hc : c < 9223372036854775808) (hd : d < 9223372036854775808) (he : e < 9223372036854775808) :
    PCall P 30 [elem a b c d e] (.val (carried a b c d e)) := by
  obtain ⟨e1, e2, e3, e4, e5, e6⟩ := carry_nums ha hb hc hd he
  unfold elem
  refine PCall.of h79 rfl ?_; show AC.wp _ fb79 (AS.init [.st [5] [.arr 1 [.lit (un a), .lit (un b), .lit (un c), .lit (un d), .lit (un e)]]] 1 38) (fun x s => match x with | .exit _ => False | _ => Fin [(.cell 2 .true 5)] s _); unfold fb79 AS.init
  refine wp_sg (areg_bx rfl rfl fun l1 => areg_al fun l2 => areg_nil ?_)
  refine wp_sr (by simp [runPre, AOp.ex, AOp.ex0, ex_mov, ex_bin, binA_lit, ex_cvt, ex_iaddrA, ex_iaddrS, ex_faddr, ex_load, ldA, ex_ext, ex_add64, add64A_un, ex_pick, ex_beq, ex_un, ex_len, lenA_sl, lenA_nil, lenA_str, lenA_own, lenRow_row, elA_own, elA_sl, elRow_row, ex_nilc, ex_build, ex_bslice, ex_fieldv, AOp.ro, AS.ev, AS.put, AS.fieldAddr, idxA_ptr, idxA_cptr, AS.peek, AS.poke, AS.blk, AS.setBlk, AV.nav, AV.upd, Blk.loc, Blk.cont, Blk.n, Blk.may, Blk.upd, AV.isAgg, AV.isTup, AV.sz, unVal, ownOk, fillAV, AV.sub, cvt_64j, cvt_64b, cvt_64w, cvt_8u, cvt_8w, bin_add64, bin_mul64, bin_sub64, bin_and51, bin_and32, bin_and1, bin_and8_1, bin_or64, bin_xor64, bin_or8, bin_shl64, bin_shl64j, bin_shr64, bin_shr64j, bin_shl8j, bin_shr8j, bin_quo64, bin_rem64, bin_quo32, bin_rem32, bin_addj, bin_subj, bin_quoj, bin_remj, bin_eqlj, bin_neqj, bin_lssj, bin_leqj, bin_gtrj, bin_geqj, bin_eql64, bin_lss64, bin_gtr64, bin_eql8, bin_rem8]; exact rfl) ?_
  refine wp_seq' (wp_seq' (wp_r (by simp [runPre, AOp.ex, AOp.ex0, ex_mov, ex_bin, binA_lit, ex_cvt, ex_iaddrA, ex_iaddrS, ex_faddr, ex_load, ldA, ex_ext, ex_add64, add64A_un, ex_pick, ex_beq, ex_un, ex_len, lenA_sl, lenA_nil, lenA_str, lenA_own, lenRow_row, elA_own, elA_sl, elRow_row, ex_nilc, ex_build, ex_bslice, ex_fieldv, AOp.ro, AS.ev, AS.put, AS.fieldAddr, idxA_ptr, idxA_cptr, AS.peek, AS.poke, AS.blk, AS.setBlk, AV.nav, AV.upd, Blk.loc, Blk.cont, Blk.n, Blk.may, Blk.upd, AV.isAgg, AV.isTup, AV.sz, unVal, ownOk, fillAV, AV.sub, cvt_64j, cvt_64b, cvt_64w, cvt_8u, cvt_8w, bin_add64, bin_mul64, bin_sub64, bin_and51, bin_and32, bin_and1, bin_and8_1, bin_or64, bin_xor64, bin_or8, bin_shl64, bin_shl64j, bin_shr64, bin_shr64j, bin_shl8j, bin_shr8j, bin_quo64, bin_rem64, bin_quo32, bin_rem32, bin_addj, bin_subj, bin_quoj, bin_remj, bin_eqlj, bin_neqj, bin_lssj, bin_leqj, bin_gtrj, bin_geqj, bin_eql64, bin_lss64, bin_gtr64, bin_eql8, bin_rem8]; exact rfl) (wp_block' (wp_loopN 6 ?_))))
  repeat (first | (with_reducible apply wp_sr); focus (simp [runPre, AOp.ex, AOp.ex0, ex_mov, ex_bin, binA_lit, ex_cvt, ex_iaddrA, ex_iaddrS, ex_faddr, ex_load, ldA, ex_ext, ex_add64, add64A_un, ex_pick, ex_beq, ex_un, ex_len, lenA_sl, lenA_nil, lenA_str, lenA_own, lenRow_row, elA_own, elA_sl, elRow_row, ex_nilc, ex_build, ex_bslice, ex_fieldv, AOp.ro, AS.ev, AS.put, AS.fieldAddr, idxA_ptr, idxA_cptr, AS.peek, AS.poke, AS.blk, AS.setBlk, AV.nav, AV.upd, Blk.loc, Blk.cont, Blk.n, Blk.may, Blk.upd, AV.isAgg, AV.isTup, AV.sz, unVal, ownOk, fillAV, AV.sub, cvt_64j, cvt_64b, cvt_64w, cvt_8u, cvt_8w, bin_add64, bin_mul64, bin_sub64, bin_and51, bin_and32, bin_and1, bin_and8_1, bin_or64, bin_xor64, bin_or8, bin_shl64, bin_shl64j, bin_shr64, bin_shr64j, bin_shl8j, bin_shr8j, bin_quo64, bin_rem64, bin_quo32, bin_rem32, bin_addj, bin_subj, bin_quoj, bin_remj, bin_eqlj, bin_neqj, bin_lssj, bin_leqj, bin_gtrj, bin_geqj, bin_eql64, bin_lss64, bin_gtr64, bin_eql8, bin_rem8, e1, e2, e3, e4, e5]; exact rfl) | (with_reducible apply wp_r); focus (simp [runPre, AOp.ex, AOp.ex0, ex_mov, ex_bin, binA_lit, ex_cvt, ex_iaddrA, ex_iaddrS, ex_faddr, ex_load, ldA, ex_ext, ex_add64, add64A_un, ex_pick, ex_beq, ex_un, ex_len, lenA_sl, lenA_nil, lenA_str, lenA_own, lenRow_row, elA_own, elA_sl, elRow_row, ex_nilc, ex_build, ex_bslice, ex_fieldv, AOp.ro, AS.ev, AS.put, AS.fieldAddr, idxA_ptr, idxA_cptr, AS.peek, AS.poke, AS.blk, AS.setBlk, AV.nav, AV.upd, Blk.loc, Blk.cont, Blk.n, Blk.may, Blk.upd, AV.isAgg, AV.isTup, AV.sz, unVal, ownOk, fillAV, AV.sub, cvt_64j, cvt_64b, cvt_64w, cvt_8u, cvt_8w, bin_add64, bin_mul64, bin_sub64, bin_and51, bin_and32, bin_and1, bin_and8_1, bin_or64, bin_xor64, bin_or8, bin_shl64, bin_shl64j, bin_shr64, bin_shr64j, bin_shl8j, bin_shr8j, bin_quo64, bin_rem64, bin_quo32, bin_rem32, bin_addj, bin_subj, bin_quoj, bin_remj, bin_eqlj, bin_neqj, bin_lssj, bin_leqj, bin_gtrj, bin_geqj, bin_eql64, bin_lss64, bin_gtr64, bin_eql8, bin_rem8, e1, e2, e3, e4, e5]; exact rfl) | (with_reducible refine wp_seq' (wp_cond_t ?_ ?_)); focus (simp [AS.ev]; done) | (with_reducible refine wp_seq' (wp_cond_f ?_ ?_)); focus (simp [AS.ev]; done) | (with_reducible refine wp_cond_t ?_ ?_); focus (simp [AS.ev]; done) | (with_reducible refine wp_cond_f ?_ ?_); focus (simp [AS.ev]; done) | with_reducible refine wp_seq' ?_ | with_reducible refine wp_block' ?_ | with_reducible refine wp_skip' ?_ | with_reducible refine wp_exit' ?_ | with_reducible refine wp_ret' ?_ | with_reducible refine if_hit rfl ?_ | with_reducible refine loopN_succ ?_)
  refine fin_cell (by simp [RVal, AS.coe, tt, AS.ev, AS.peek, AS.blk, Blk.loc, Blk.cont, Blk.n, AV.nav, AV.isAgg, AV.isTup, carried, elem, e6]) (by simp [carried, elem])
end Go.Cab

/- Digits in base 2^w, bit by bit. -/
namespace Go.Cab

/-- The list of f 0, f 1, .., f (n - 1). -/
def lst (n : Nat) (f : Nat → AV) : List AV := (List.range n).map f

theorem lst_get {n j : Nat} (f : Nat → AV) (h : j < n) : (lst n f)[j]? = some (f j) := by
  simp [lst, h]
theorem lst_getD {n j : Nat} (f : Nat → AV) (d : AV) (h : j < n) : ((lst n f)[j]?).getD d = f j := by
  rw [lst_get f h]; rfl
theorem lst_len (n : Nat) (f : Nat → AV) : (lst n f).length = n := by simp [lst]
theorem lst_set {n j : Nat} {f g : Nat → AV} {v : AV} (hv : v = g j) (h : ∀ k, k < n → k ≠ j → f k = g k) : (lst n f).set j v = lst n g := by
  apply List.ext_getElem?
  intro k
  rw [List.getElem?_set]
  by_cases hk : j = k
  · subst hk
    simp only [if_true, lst_len]
    by_cases hn : j < n
    · rw [if_pos hn, lst_get g hn, hv]
    · rw [if_neg hn]; simp [lst, hn]
  · rw [if_neg hk]
    by_cases hn : k < n
    · rw [lst_get f hn, lst_get g hn, h k hn (Ne.symm hk)]
    · simp [lst, hn]

theorem bit51 (n i j : Nat) : n % 2 ^ (i + 1) / 2 ^ (51 * j) % 2 ^ 51 = (n % 2 ^ i / 2 ^ (51 * j) % 2 ^ 51) ||| (if j = i / 51 then (n / 2 ^ i % 2) * 2 ^ (i % 51) else 0) := by
  apply Nat.eq_of_testBit_eq
  intro t
  rw [Nat.testBit_or, Nat.testBit_mod_two_pow, Nat.testBit_mod_two_pow, Nat.testBit_div_two_pow, Nat.testBit_div_two_pow, Nat.testBit_mod_two_pow, Nat.testBit_mod_two_pow]
  split
  · rename_i hj
    rw [← Nat.toNat_testBit, ← Nat.shiftLeft_eq, Nat.testBit_shiftLeft]
    by_cases ht : t = i % 51
    · have e : t + 51 * j = i := by omega
      have h1 : t < 51 := by omega
      have h3 : t ≥ i % 51 := by omega
      have h4 : t - i % 51 = 0 := by omega
      rw [e, h4]
      simp [h1, h3]
      cases n.testBit i <;> simp
    · have h2 : (t ≥ i % 51 → ((n.testBit i).toNat.testBit (t - i % 51)) = false) := by
        intro h
        have : t - i % 51 = (t - i % 51 - 1) + 1 := by omega
        rw [this]
        cases n.testBit i <;> simp [Nat.testBit_succ]
      have h5 : (decide (t ≥ i % 51) && (n.testBit i).toNat.testBit (t - i % 51)) = false := by
        by_cases h : t ≥ i % 51
        · simp [h2 h]
        · simp [h]
      rw [h5, Bool.or_false]
      by_cases h1 : t < 51
      · have h6 : t + 51 * j < i + 1 ↔ t + 51 * j < i := by omega
        simp [h1, h6]
      · simp [h1]
  · rename_i hj
    rw [Nat.zero_testBit, Bool.or_false]
    by_cases h1 : t < 51
    · have h6 : t + 51 * j < i + 1 ↔ t + 51 * j < i := by omega
      simp [h1, h6]
    · simp [h1]

theorem bit8 (n i j : Nat) : n % 2 ^ (i + 1) / 2 ^ (8 * j) % 2 ^ 8 = (n % 2 ^ i / 2 ^ (8 * j) % 2 ^ 8) ||| (if j = i / 8 then (n / 2 ^ i % 2) * 2 ^ (i % 8) else 0) := by
  apply Nat.eq_of_testBit_eq
  intro t
  rw [Nat.testBit_or, Nat.testBit_mod_two_pow, Nat.testBit_mod_two_pow, Nat.testBit_div_two_pow, Nat.testBit_div_two_pow, Nat.testBit_mod_two_pow, Nat.testBit_mod_two_pow]
  split
  · rename_i hj
    rw [← Nat.toNat_testBit, ← Nat.shiftLeft_eq, Nat.testBit_shiftLeft]
    by_cases ht : t = i % 8
    · have e : t + 8 * j = i := by omega
      have h1 : t < 8 := by omega
      have h3 : t ≥ i % 8 := by omega
      have h4 : t - i % 8 = 0 := by omega
      rw [e, h4]
      simp [h1, h3]
      cases n.testBit i <;> simp
    · have h2 : (t ≥ i % 8 → ((n.testBit i).toNat.testBit (t - i % 8)) = false) := by
        intro h
        have : t - i % 8 = (t - i % 8 - 1) + 1 := by omega
        rw [this]
        cases n.testBit i <;> simp [Nat.testBit_succ]
      have h5 : (decide (t ≥ i % 8) && (n.testBit i).toNat.testBit (t - i % 8)) = false := by
        by_cases h : t ≥ i % 8
        · simp [h2 h]
        · simp [h]
      rw [h5, Bool.or_false]
      by_cases h1 : t < 8
      · have h6 : t + 8 * j < i + 1 ↔ t + 8 * j < i := by omega
        simp [h1, h6]
      · simp [h1]
  · rename_i hj
    rw [Nat.zero_testBit, Bool.or_false]
    by_cases h1 : t < 8
    · have h6 : t + 8 * j < i + 1 ↔ t + 8 * j < i := by omega
      simp [h1, h6]
    · simp [h1]


theorem digit_bit8 (n i : Nat) : n / 2 ^ (8 * (i / 8)) % 2 ^ 8 / 2 ^ (i % 8) % 2 = n / 2 ^ i % 2 := by
  rw [← Nat.toNat_testBit, ← Nat.toNat_testBit, Nat.testBit_mod_two_pow, Nat.testBit_div_two_pow]
  have h1 : i % 8 < 8 := by omega
  have h2 : i % 8 + 8 * (i / 8) = i := by omega
  rw [h2]; simp [h1]
theorem digit_bit51 (n i : Nat) : n / 2 ^ (51 * (i / 51)) % 2 ^ 51 / 2 ^ (i % 51) % 2 = n / 2 ^ i % 2 := by
  rw [← Nat.toNat_testBit, ← Nat.toNat_testBit, Nat.testBit_mod_two_pow, Nat.testBit_div_two_pow]
  have h1 : i % 51 < 51 := by omega
  have h2 : i % 51 + 51 * (i / 51) = i := by omega
  rw [h2]; simp [h1]

end Go.Cab

/- Field: From, Bytes. -/
namespace Go.Cab
def fb25 : AC := (.seq (.reg [⟨(.some 1), .none, (.box 32 (.tmp 0)), [], .none⟩, ⟨(.some 2), .none, (.alloc 5 (.st [5] [(.arr 1 (List.replicate 5 (.lit (un 0))))])), [], .none⟩]) (.seq (.reg [⟨(.some 3), .none, (.alloc 5 (.st [5] [(.arr 1 (List.replicate 5 (.lit (un 0))))])), [], .none⟩]) (.seq (.seq (.reg [⟨(.some 5), .none, (.mov (.const (jn 0))), [], .none⟩]) (.block 0 (.loop (.seq (.reg [⟨(.some 6), .none, (.bin .lss (.tmp 5) (.const (jn 255))), [], .none⟩]) (.seq (.cond (.tmp 6) .skip (.exit 0)) (.seq (.block 1 (.seq (.reg [⟨(.some 7), .none, (.mov (.tmp 5)), [], .none⟩, ⟨(.some 4), .none, (.mov (.tmp 7)), [], .none⟩]) (.reg [⟨(.some 8), .none, (.mov (.tmp 4)), [], .none⟩, ⟨(.some 9), .none, (.bin .quo (.tmp 8) (.const (jn 51))), [], .none⟩, ⟨(.some 10), .none, (.faddr 0 0 (.tmp 3)), [], .none⟩, ⟨(.some 11), .none, (.iaddrA 5 1 (.tmp 10) (.tmp 9)), [], .none⟩, ⟨(.some 12), .none, (.load .false 1 (.tmp 11)), [], .none⟩, ⟨(.some 13), .none, (.mov (.tmp 4)), [], .none⟩, ⟨(.some 14), .none, (.bin .quo (.tmp 13) (.const (jn 8))), [], .none⟩, ⟨(.some 15), .none, (.iaddrA 32 1 (.tmp 1) (.tmp 14)), [], .none⟩, ⟨(.some 16), .none, (.load .false 1 (.tmp 15)), [], .none⟩, ⟨(.some 17), .none, (.mov (.tmp 4)), [], .none⟩, ⟨(.some 18), .none, (.bin .rem (.tmp 17) (.const (jn 8))), [], .none⟩, ⟨(.some 19), .none, (.bin .shr (.tmp 16) (.tmp 18)), [], .none⟩, ⟨(.some 20), .none, (.bin .and (.tmp 19) (.const (bn 1))), [], .none⟩, ⟨(.some 21), .none, (.cvt .u64 (.tmp 20)), [], .none⟩, ⟨(.some 22), .none, (.mov (.tmp 4)), [], .none⟩, ⟨(.some 23), .none, (.bin .rem (.tmp 22) (.const (jn 51))), [], .none⟩, ⟨(.some 24), .none, (.bin .shl (.tmp 21) (.tmp 23)), [], .none⟩, ⟨(.some 25), .none, (.bin .or (.tmp 12) (.tmp 24)), [], .none⟩, ⟨(.some 26), .none, (.faddr 0 0 (.tmp 3)), [], .none⟩, ⟨(.some 27), .none, (.iaddrA 5 1 (.tmp 26) (.tmp 9)), [], .none⟩, ⟨.none, .none, (.store 1 (.tmp 27) (.tmp 25)), [], .none⟩]))) (.reg [⟨(.some 28), .none, (.bin .add (.tmp 5) (.const (jn 1))), [], .none⟩, ⟨(.some 5), .none, (.mov (.tmp 28)), [], .none⟩]))))))) (.seq (.reg [⟨(.some 29), .none, (.load .true 5 (.tmp 3)), [], .none⟩, ⟨.none, .none, (.store 5 (.tmp 2) (.tmp 29)), [], .none⟩]) .ret))))
def fc25 : FC := ⟨1, 30, [(.cell 2 .true 5)], fb25⟩
theorem fc25_eq : compF Go.Proofs.Try.prog 10 = some fc25 := by kernel_rfl
def fb26 : AC := (.seq (.reg [⟨(.some 1), .none, (.box 5 (.tmp 0)), [], .none⟩, ⟨(.some 2), .none, (.alloc 32 (.arr 1 (List.replicate 32 (.lit (bn 0))))), [], .none⟩]) (.seq (.reg [⟨(.some 5), .none, (.load .true 5 (.tmp 1)), [], .none⟩, ⟨(.some 6), .none, (.call 20 [(.tmp 5)]), [], .none⟩, ⟨.none, .none, (.store 5 (.tmp 1) (.tmp 6)), [], .none⟩]) (.seq (.reg [⟨(.some 3), .none, (.alloc 32 (.arr 1 (List.replicate 32 (.lit (bn 0))))), [], .none⟩]) (.seq (.seq (.reg [⟨(.some 7), .none, (.mov (.const (jn 0))), [], .none⟩]) (.block 0 (.loop (.seq (.reg [⟨(.some 8), .none, (.bin .lss (.tmp 7) (.const (jn 255))), [], .none⟩]) (.seq (.cond (.tmp 8) .skip (.exit 0)) (.seq (.block 1 (.seq (.reg [⟨(.some 9), .none, (.mov (.tmp 7)), [], .none⟩, ⟨(.some 4), .none, (.mov (.tmp 9)), [], .none⟩]) (.reg [⟨(.some 10), .none, (.mov (.tmp 4)), [], .none⟩, ⟨(.some 11), .none, (.bin .quo (.tmp 10) (.const (jn 8))), [], .none⟩, ⟨(.some 12), .none, (.iaddrA 32 1 (.tmp 3) (.tmp 11)), [], .none⟩, ⟨(.some 13), .none, (.load .false 1 (.tmp 12)), [], .none⟩, ⟨(.some 14), .none, (.mov (.tmp 4)), [], .none⟩, ⟨(.some 15), .none, (.bin .quo (.tmp 14) (.const (jn 51))), [], .none⟩, ⟨(.some 16), .none, (.faddr 0 0 (.tmp 1)), [], .none⟩, ⟨(.some 17), .none, (.iaddrA 5 1 (.tmp 16) (.tmp 15)), [], .none⟩, ⟨(.some 18), .none, (.load .false 1 (.tmp 17)), [], .none⟩, ⟨(.some 19), .none, (.mov (.tmp 4)), [], .none⟩, ⟨(.some 20), .none, (.bin .rem (.tmp 19) (.const (jn 51))), [], .none⟩, ⟨(.some 21), .none, (.bin .shr (.tmp 18) (.tmp 20)), [], .none⟩, ⟨(.some 22), .none, (.bin .and (.tmp 21) (.const (un 1))), [], .none⟩, ⟨(.some 23), .none, (.cvt .u8 (.tmp 22)), [], .none⟩, ⟨(.some 24), .none, (.mov (.tmp 4)), [], .none⟩, ⟨(.some 25), .none, (.bin .rem (.tmp 24) (.const (jn 8))), [], .none⟩, ⟨(.some 26), .none, (.bin .shl (.tmp 23) (.tmp 25)), [], .none⟩, ⟨(.some 27), .none, (.bin .or (.tmp 13) (.tmp 26)), [], .none⟩, ⟨(.some 28), .none, (.iaddrA 32 1 (.tmp 3) (.tmp 11)), [], .none⟩, ⟨.none, .none, (.store 1 (.tmp 28) (.tmp 27)), [], .none⟩]))) (.reg [⟨(.some 29), .none, (.bin .add (.tmp 7) (.const (jn 1))), [], .none⟩, ⟨(.some 7), .none, (.mov (.tmp 29)), [], .none⟩]))))))) (.seq (.reg [⟨(.some 30), .none, (.load .true 32 (.tmp 3)), [], .none⟩, ⟨.none, .none, (.store 32 (.tmp 2) (.tmp 30)), [], .none⟩]) .ret)))))
def fc26 : FC := ⟨1, 31, [(.cell 2 .true 32)], fb26⟩
theorem fc26_eq : compF Go.Proofs.Try.prog 11 = some fc26 := by kernel_rfl

/-- The key of a number. -/
def keyAV (n : Nat) : AV := .arr 1 (lst 32 fun j => .lit (bn (n / 2 ^ (8 * j) % 256)))
/-- The element of a number. -/
def elAV (n : Nat) : AV := .st [5] [.arr 1 (lst 5 fun j => .lit (un (n / 2 ^ (51 * j) % 2251799813685248)))]

theorem from_nums (n i : Nat) (hi : i < 255) :
    min (i % 8) 8 = i % 8 ∧ min (i % 51) 64 = i % 51 ∧ n / 2 ^ (8 * (i / 8)) % 256 / 2 ^ (i % 8) % 2 = n / 2 ^ i % 2 ∧ n / 2 ^ i % 2 % 18446744073709551616 = n / 2 ^ i % 2 ∧
    n / 2 ^ i % 2 * 2 ^ (i % 51) % 18446744073709551616 = n / 2 ^ i % 2 * 2 ^ (i % 51) ∧
    (n % 2 ^ i / 2 ^ (51 * (i / 51)) % 2251799813685248 ||| n / 2 ^ i % 2 * 2 ^ (i % 51)) % 18446744073709551616 = n % 2 ^ (i + 1) / 2 ^ (51 * (i / 51)) % 2251799813685248 ∧
    (lst 5 fun j => AV.lit (un (n % 2 ^ i / 2 ^ (51 * j) % 2251799813685248))).set (i / 51) (.lit (un (n % 2 ^ (i + 1) / 2 ^ (51 * (i / 51)) % 2251799813685248))) = lst 5 fun j => AV.lit (un (n % 2 ^ (i + 1) / 2 ^ (51 * j) % 2251799813685248)) := by
  have hb : n / 2 ^ i % 2 < 2 := Nat.mod_lt _ (by decide)
  refine ⟨by omega, by omega, digit_bit8 n i, by omega, ?_, ?_, ?_⟩
  · have : 2 ^ (i % 51) ≤ 2 ^ 50 := Nat.pow_le_pow_right (by decide) (by omega)
    have h2 : n / 2 ^ i % 2 * 2 ^ (i % 51) ≤ 1 * 2 ^ 50 := Nat.mul_le_mul (by omega) this
    exact Nat.mod_eq_of_lt (Nat.lt_of_le_of_lt h2 (by decide))
  · have := bit51 n i (i / 51)
    rw [if_pos rfl] at this
    rw [show (2251799813685248 : Nat) = 2 ^ 51 by decide, ← this]
    exact Nat.mod_eq_of_lt (Nat.lt_trans (Nat.mod_lt _ (by decide)) (by decide))
  · refine lst_set rfl fun k hk hne => ?_
    have := bit51 n i k
    rw [if_neg hne, Nat.or_zero] at this
    rw [show (2251799813685248 : Nat) = 2 ^ 51 by decide, this]

set_option maxHeartbeats 4000000 in
set_option maxRecDepth 20000 in
theorem from_call {P : Program} (h25 : compF P 10 = some fc25) (n : Nat) : PCall P 10 [keyAV n] (.val (elAV (n % 2 ^ 255))) := by
  unfold keyAV elAV
  refine PCall.of h25 rfl ?_; show AC.wp _ fb25 (AS.init [.arr 1 (lst 32 fun j => .lit (bn (n / 2 ^ (8 * j) % 256)))] 1 30) (fun x s => match x with | .exit _ => False | _ => Fin [(.cell 2 .true 5)] s _); unfold fb25 AS.init
  refine wp_sg (areg_bx rfl (by simp [AS.ev, AV.sz, lst_len]) fun l1 => areg_al fun l2 => areg_nil ?_)
  refine wp_sg (areg_al' (z' := .st [5] [.arr 1 (lst 5 fun j => .lit (un (n % 2 ^ 0 / 2 ^ (51 * j) % 2251799813685248)))]) (by rw [Nat.pow_zero, Nat.mod_one]; rfl) fun l3 => areg_nil ?_)
  refine wp_seq' (wp_seq' (wp_r (by simp [runPre, AOp.ex, AOp.ex0, ex_mov, ex_bin, binA_lit, ex_cvt, ex_iaddrA, ex_iaddrS, ex_faddr, ex_load, ldA, ex_ext, ex_add64, add64A_un, ex_pick, ex_beq, ex_un, ex_len, lenA_sl, lenA_nil, lenA_str, lenA_own, lenRow_row, elA_own, elA_sl, elRow_row, ex_nilc, ex_build, ex_bslice, ex_fieldv, AOp.ro, AS.ev, AS.put, AS.fieldAddr, idxA_ptr, idxA_cptr, AS.peek, AS.poke, AS.blk, AS.setBlk, AV.nav, AV.upd, Blk.loc, Blk.cont, Blk.n, Blk.may, Blk.upd, AV.isAgg, AV.isTup, AV.sz, unVal, ownOk, fillAV, AV.sub, cvt_64j, cvt_64b, cvt_64w, cvt_8u, cvt_8w, bin_add64, bin_mul64, bin_sub64, bin_and51, bin_and32, bin_and1, bin_and8_1, bin_or64, bin_xor64, bin_or8, bin_shl64, bin_shl64j, bin_shr64, bin_shr64j, bin_shl8j, bin_shr8j, bin_quo64, bin_rem64, bin_quo32, bin_rem32, bin_addj, bin_subj, bin_quoj, bin_remj, bin_eqlj, bin_neqj, bin_lssj, bin_leqj, bin_gtrj, bin_geqj, bin_eql64, bin_lss64, bin_gtr64, bin_eql8, bin_rem8, -Nat.pow_zero]; exact rfl) (wp_block' (wp_loop_to 255 (fun i => ⟨0, [.arr 1 (lst 32 fun j => .lit (bn (n / 2 ^ (8 * j) % 256))), .ptr 1 l1 0 [], .ptr 2 l2 0 [], .ptr 3 l3 0 [], .any, .lit (jn i)] ++ List.replicate 24 .any, [none, some (.box l1 32 (.arr 1 (lst 32 fun j => .lit (bn (n / 2 ^ (8 * j) % 256))))), some (.box l2 5 (.st [5] [.arr 1 (List.replicate 5 (.lit (un 0)))])), some (.box l3 5 (.st [5] [.arr 1 (lst 5 fun j => .lit (un (n % 2 ^ i / 2 ^ (51 * j) % 2251799813685248)))]))] ++ List.replicate 26 none⟩) ?_ ?_ ?_))))
  · exact Le.mk rfl (by simp [leT]) (by simp [leH])
  · intro i hi
    have q1 : i / 51 < 5 := by omega
    have q2 : i / 8 < 32 := by omega
    have q3 : i < 9223372036854775808 := by omega
    have q4 : i + 1 < 9223372036854775808 := by omega
    obtain ⟨m1, m2, e1, e2, e3, e4, e5⟩ := from_nums n i hi
    refine wp_sr (by simp [runPre, AOp.ex, AOp.ex0, ex_mov, ex_bin, binA_lit, ex_cvt, ex_iaddrA, ex_iaddrS, ex_faddr, ex_load, ldA, ex_ext, ex_add64, add64A_un, ex_pick, ex_beq, ex_un, ex_len, lenA_sl, lenA_nil, lenA_str, lenA_own, lenRow_row, elA_own, elA_sl, elRow_row, ex_nilc, ex_build, ex_bslice, ex_fieldv, AOp.ro, AS.ev, AS.put, AS.fieldAddr, idxA_ptr, idxA_cptr, AS.peek, AS.poke, AS.blk, AS.setBlk, AV.nav, AV.upd, Blk.loc, Blk.cont, Blk.n, Blk.may, Blk.upd, AV.isAgg, AV.isTup, AV.sz, unVal, ownOk, fillAV, AV.sub, cvt_64j, cvt_64b, cvt_64w, cvt_8u, cvt_8w, bin_add64, bin_mul64, bin_sub64, bin_and51, bin_and32, bin_and1, bin_and8_1, bin_or64, bin_xor64, bin_or8, bin_shl64, bin_shl64j, bin_shr64, bin_shr64j, bin_shl8j, bin_shr8j, bin_quo64, bin_rem64, bin_quo32, bin_rem32, bin_addj, bin_subj, bin_quoj, bin_remj, bin_eqlj, bin_neqj, bin_lssj, bin_leqj, bin_gtrj, bin_geqj, bin_eql64, bin_lss64, bin_gtr64, bin_eql8, bin_rem8, hi]; exact rfl) ?_
    refine wp_seq' (wp_cond_t (by simp [AS.ev]) (wp_skip' ?_))
    refine wp_seq' (wp_block' (wp_sr (by simp [runPre, AOp.ex, AOp.ex0, ex_mov, ex_bin, binA_lit, ex_cvt, ex_iaddrA, ex_iaddrS, ex_faddr, ex_load, ldA, ex_ext, ex_add64, add64A_un, ex_pick, ex_beq, ex_un, ex_len, lenA_sl, lenA_nil, lenA_str, lenA_own, lenRow_row, elA_own, elA_sl, elRow_row, ex_nilc, ex_build, ex_bslice, ex_fieldv, AOp.ro, AS.ev, AS.put, AS.fieldAddr, idxA_ptr, idxA_cptr, AS.peek, AS.poke, AS.blk, AS.setBlk, AV.nav, AV.upd, Blk.loc, Blk.cont, Blk.n, Blk.may, Blk.upd, AV.isAgg, AV.isTup, AV.sz, unVal, ownOk, fillAV, AV.sub, cvt_64j, cvt_64b, cvt_64w, cvt_8u, cvt_8w, bin_add64, bin_mul64, bin_sub64, bin_and51, bin_and32, bin_and1, bin_and8_1, bin_or64, bin_xor64, bin_or8, bin_shl64, bin_shl64j, bin_shr64, bin_shr64j, bin_shl8j, bin_shr8j, bin_quo64, bin_rem64, bin_quo32, bin_rem32, bin_addj, bin_subj, bin_quoj, bin_remj, bin_eqlj, bin_neqj, bin_lssj, bin_leqj, bin_gtrj, bin_geqj, bin_eql64, bin_lss64, bin_gtr64, bin_eql8, bin_rem8]; exact rfl) (wp_r (by simp [runPre, AOp.ex, AOp.ex0, ex_mov, ex_bin, binA_lit, ex_cvt, ex_iaddrA, ex_iaddrS, ex_faddr, ex_load, ldA, ex_ext, ex_add64, add64A_un, ex_pick, ex_beq, ex_un, ex_len, lenA_sl, lenA_nil, lenA_str, lenA_own, lenRow_row, elA_own, elA_sl, elRow_row, ex_nilc, ex_build, ex_bslice, ex_fieldv, AOp.ro, AS.ev, AS.put, AS.fieldAddr, idxA_ptr, idxA_cptr, AS.peek, AS.poke, AS.blk, AS.setBlk, AV.nav, AV.upd, Blk.loc, Blk.cont, Blk.n, Blk.may, Blk.upd, AV.isAgg, AV.isTup, AV.sz, unVal, ownOk, fillAV, AV.sub, cvt_64j, cvt_64b, cvt_64w, cvt_8u, cvt_8w, bin_add64, bin_mul64, bin_sub64, bin_and51, bin_and32, bin_and1, bin_and8_1, bin_or64, bin_xor64, bin_or8, bin_shl64, bin_shl64j, bin_shr64, bin_shr64j, bin_shl8j, bin_shr8j, bin_quo64, bin_rem64, bin_quo32, bin_rem32, bin_addj, bin_subj, bin_quoj, bin_remj, bin_eqlj, bin_neqj, bin_lssj, bin_leqj, bin_gtrj, bin_geqj, bin_eql64, bin_lss64, bin_gtr64, bin_eql8, bin_rem8, q1, q2, q3, lst_get, lst_getD, m1, m2, e1, e2, e3, e4, e5]; exact rfl) ?_)))
    refine wp_r (by simp [runPre, AOp.ex, AOp.ex0, ex_mov, ex_bin, binA_lit, ex_cvt, ex_iaddrA, ex_iaddrS, ex_faddr, ex_load, ldA, ex_ext, ex_add64, add64A_un, ex_pick, ex_beq, ex_un, ex_len, lenA_sl, lenA_nil, lenA_str, lenA_own, lenRow_row, elA_own, elA_sl, elRow_row, ex_nilc, ex_build, ex_bslice, ex_fieldv, AOp.ro, AS.ev, AS.put, AS.fieldAddr, idxA_ptr, idxA_cptr, AS.peek, AS.poke, AS.blk, AS.setBlk, AV.nav, AV.upd, Blk.loc, Blk.cont, Blk.n, Blk.may, Blk.upd, AV.isAgg, AV.isTup, AV.sz, unVal, ownOk, fillAV, AV.sub, cvt_64j, cvt_64b, cvt_64w, cvt_8u, cvt_8w, bin_add64, bin_mul64, bin_sub64, bin_and51, bin_and32, bin_and1, bin_and8_1, bin_or64, bin_xor64, bin_or8, bin_shl64, bin_shl64j, bin_shr64, bin_shr64j, bin_shl8j, bin_shr8j, bin_quo64, bin_rem64, bin_quo32, bin_rem32, bin_addj, bin_subj, bin_quoj, bin_remj, bin_eqlj, bin_neqj, bin_lssj, bin_leqj, bin_gtrj, bin_geqj, bin_eql64, bin_lss64, bin_gtr64, bin_eql8, bin_rem8, q4]; exact rfl) ?_
    exact Le.mk rfl (by simp [leT]) (by simp [leH])
  · refine wp_sr (by simp [runPre, AOp.ex, AOp.ex0, ex_mov, ex_bin, binA_lit, ex_cvt, ex_iaddrA, ex_iaddrS, ex_faddr, ex_load, ldA, ex_ext, ex_add64, add64A_un, ex_pick, ex_beq, ex_un, ex_len, lenA_sl, lenA_nil, lenA_str, lenA_own, lenRow_row, elA_own, elA_sl, elRow_row, ex_nilc, ex_build, ex_bslice, ex_fieldv, AOp.ro, AS.ev, AS.put, AS.fieldAddr, idxA_ptr, idxA_cptr, AS.peek, AS.poke, AS.blk, AS.setBlk, AV.nav, AV.upd, Blk.loc, Blk.cont, Blk.n, Blk.may, Blk.upd, AV.isAgg, AV.isTup, AV.sz, unVal, ownOk, fillAV, AV.sub, cvt_64j, cvt_64b, cvt_64w, cvt_8u, cvt_8w, bin_add64, bin_mul64, bin_sub64, bin_and51, bin_and32, bin_and1, bin_and8_1, bin_or64, bin_xor64, bin_or8, bin_shl64, bin_shl64j, bin_shr64, bin_shr64j, bin_shl8j, bin_shr8j, bin_quo64, bin_rem64, bin_quo32, bin_rem32, bin_addj, bin_subj, bin_quoj, bin_remj, bin_eqlj, bin_neqj, bin_lssj, bin_leqj, bin_gtrj, bin_geqj, bin_eql64, bin_lss64, bin_gtr64, bin_eql8, bin_rem8]; exact rfl) ?_
    refine wp_seq' (wp_cond_f (by simp [AS.ev]) (wp_exit' (if_hit rfl ?_)))
    repeat (first | (with_reducible apply wp_sr); focus (simp [runPre, AOp.ex, AOp.ex0, ex_mov, ex_bin, binA_lit, ex_cvt, ex_iaddrA, ex_iaddrS, ex_faddr, ex_load, ldA, ex_ext, ex_add64, add64A_un, ex_pick, ex_beq, ex_un, ex_len, lenA_sl, lenA_nil, lenA_str, lenA_own, lenRow_row, elA_own, elA_sl, elRow_row, ex_nilc, ex_build, ex_bslice, ex_fieldv, AOp.ro, AS.ev, AS.put, AS.fieldAddr, idxA_ptr, idxA_cptr, AS.peek, AS.poke, AS.blk, AS.setBlk, AV.nav, AV.upd, Blk.loc, Blk.cont, Blk.n, Blk.may, Blk.upd, AV.isAgg, AV.isTup, AV.sz, unVal, ownOk, fillAV, AV.sub, cvt_64j, cvt_64b, cvt_64w, cvt_8u, cvt_8w, bin_add64, bin_mul64, bin_sub64, bin_and51, bin_and32, bin_and1, bin_and8_1, bin_or64, bin_xor64, bin_or8, bin_shl64, bin_shl64j, bin_shr64, bin_shr64j, bin_shl8j, bin_shr8j, bin_quo64, bin_rem64, bin_quo32, bin_rem32, bin_addj, bin_subj, bin_quoj, bin_remj, bin_eqlj, bin_neqj, bin_lssj, bin_leqj, bin_gtrj, bin_geqj, bin_eql64, bin_lss64, bin_gtr64, bin_eql8, bin_rem8, lst_len]; exact rfl) | (with_reducible apply wp_r); focus (simp [runPre, AOp.ex, AOp.ex0, ex_mov, ex_bin, binA_lit, ex_cvt, ex_iaddrA, ex_iaddrS, ex_faddr, ex_load, ldA, ex_ext, ex_add64, add64A_un, ex_pick, ex_beq, ex_un, ex_len, lenA_sl, lenA_nil, lenA_str, lenA_own, lenRow_row, elA_own, elA_sl, elRow_row, ex_nilc, ex_build, ex_bslice, ex_fieldv, AOp.ro, AS.ev, AS.put, AS.fieldAddr, idxA_ptr, idxA_cptr, AS.peek, AS.poke, AS.blk, AS.setBlk, AV.nav, AV.upd, Blk.loc, Blk.cont, Blk.n, Blk.may, Blk.upd, AV.isAgg, AV.isTup, AV.sz, unVal, ownOk, fillAV, AV.sub, cvt_64j, cvt_64b, cvt_64w, cvt_8u, cvt_8w, bin_add64, bin_mul64, bin_sub64, bin_and51, bin_and32, bin_and1, bin_and8_1, bin_or64, bin_xor64, bin_or8, bin_shl64, bin_shl64j, bin_shr64, bin_shr64j, bin_shl8j, bin_shr8j, bin_quo64, bin_rem64, bin_quo32, bin_rem32, bin_addj, bin_subj, bin_quoj, bin_remj, bin_eqlj, bin_neqj, bin_lssj, bin_leqj, bin_gtrj, bin_geqj, bin_eql64, bin_lss64, bin_gtr64, bin_eql8, bin_rem8, lst_len]; exact rfl) | (with_reducible refine wp_seq' (wp_cond_t ?_ ?_)); focus (simp [AS.ev]; done) | (with_reducible refine wp_seq' (wp_cond_f ?_ ?_)); focus (simp [AS.ev]; done) | (with_reducible refine wp_cond_t ?_ ?_); focus (simp [AS.ev]; done) | (with_reducible refine wp_cond_f ?_ ?_); focus (simp [AS.ev]; done) | with_reducible refine wp_seq' ?_ | with_reducible refine wp_block' ?_ | with_reducible refine wp_skip' ?_ | with_reducible refine wp_exit' ?_ | with_reducible refine wp_ret' ?_ | with_reducible refine if_hit rfl ?_ | with_reducible refine loopN_succ ?_)
    refine fin_cell (by simp [RVal, AS.coe, tt, AS.ev, AS.peek, AS.blk, Blk.loc, Blk.cont, Blk.n, AV.nav, AV.isAgg, AV.isTup]) (by simp)

theorem bytes_nums (n i : Nat) (hi : i < 255) :
    min (i % 8) 8 = i % 8 ∧ min (i % 51) 64 = i % 51 ∧ n / 2 ^ (51 * (i / 51)) % 2251799813685248 / 2 ^ (i % 51) % 2 = n / 2 ^ i % 2 ∧ n / 2 ^ i % 2 % 256 = n / 2 ^ i % 2 ∧
    n / 2 ^ i % 2 * 2 ^ (i % 8) % 256 = n / 2 ^ i % 2 * 2 ^ (i % 8) ∧
    (n % 2 ^ i / 2 ^ (8 * (i / 8)) % 256 ||| n / 2 ^ i % 2 * 2 ^ (i % 8)) % 256 = n % 2 ^ (i + 1) / 2 ^ (8 * (i / 8)) % 256 ∧
    (lst 32 fun j => AV.lit (bn (n % 2 ^ i / 2 ^ (8 * j) % 256))).set (i / 8) (.lit (bn (n % 2 ^ (i + 1) / 2 ^ (8 * (i / 8)) % 256))) = lst 32 fun j => AV.lit (bn (n % 2 ^ (i + 1) / 2 ^ (8 * j) % 256)) := by
  have hb : n / 2 ^ i % 2 < 2 := Nat.mod_lt _ (by decide)
  refine ⟨by omega, by omega, digit_bit51 n i, by omega, ?_, ?_, ?_⟩
  · have : 2 ^ (i % 8) ≤ 2 ^ 7 := Nat.pow_le_pow_right (by decide) (by omega)
    have h2 : n / 2 ^ i % 2 * 2 ^ (i % 8) ≤ 1 * 2 ^ 7 := Nat.mul_le_mul (by omega) this
    exact Nat.mod_eq_of_lt (Nat.lt_of_le_of_lt h2 (by decide))
  · have := bit8 n i (i / 8)
    rw [if_pos rfl] at this
    rw [show (256 : Nat) = 2 ^ 8 by decide, ← this]
    exact Nat.mod_eq_of_lt (Nat.mod_lt _ (by decide))
  · refine lst_set rfl fun k hk hne => ?_
    have := bit8 n i k
    rw [if_neg hne, Nat.or_zero] at this
    rw [show (256 : Nat) = 2 ^ 8 by decide, this]

set_option maxHeartbeats 4000000 in
set_option maxRecDepth 20000 in
theorem bytes_call {P : Program} (h26 : compF P 11 = some fc26) (n : Nat) {v : AV} {a b c d e : Nat} (hv : v = elem a b c d e) (h74 : PCall P 20 [v] (.val (elAV n))) : PCall P 11 [v] (.val (keyAV (n % 2 ^ 255))) := by
  subst hv
  unfold keyAV
  unfold elAV elem at h74
  unfold elem
  refine PCall.of h26 rfl ?_; show AC.wp _ fb26 (AS.init [.st [5] [.arr 1 [.lit (un a), .lit (un b), .lit (un c), .lit (un d), .lit (un e)]]] 1 31) (fun x s => match x with | .exit _ => False | _ => Fin [(.cell 2 .true 32)] s _); unfold fb26 AS.init
  refine wp_sg (areg_bx rfl rfl fun l1 => areg_al fun l2 => areg_nil ?_)
  refine wp_sg (areg_run 1 (by simp [runPre, AOp.ex, AOp.ex0, ex_mov, ex_bin, binA_lit, ex_cvt, ex_iaddrA, ex_iaddrS, ex_faddr, ex_load, ldA, ex_ext, ex_add64, add64A_un, ex_pick, ex_beq, ex_un, ex_len, lenA_sl, lenA_nil, lenA_str, lenA_own, lenRow_row, elA_own, elA_sl, elRow_row, ex_nilc, ex_build, ex_bslice, ex_fieldv, AOp.ro, AS.ev, AS.put, AS.fieldAddr, idxA_ptr, idxA_cptr, AS.peek, AS.poke, AS.blk, AS.setBlk, AV.nav, AV.upd, Blk.loc, Blk.cont, Blk.n, Blk.may, Blk.upd, AV.isAgg, AV.isTup, AV.sz, unVal, ownOk, fillAV, AV.sub, cvt_64j, cvt_64b, cvt_64w, cvt_8u, cvt_8w, bin_add64, bin_mul64, bin_sub64, bin_and51, bin_and32, bin_and1, bin_and8_1, bin_or64, bin_xor64, bin_or8, bin_shl64, bin_shl64j, bin_shr64, bin_shr64j, bin_shl8j, bin_shr8j, bin_quo64, bin_rem64, bin_quo32, bin_rem32, bin_addj, bin_subj, bin_quoj, bin_remj, bin_eqlj, bin_neqj, bin_lssj, bin_leqj, bin_gtrj, bin_geqj, bin_eql64, bin_lss64, bin_gtr64, bin_eql8, bin_rem8]; exact rfl) (areg_ca (by simp [AS.coe, AS.ev]) h74 (areg_end (by simp [runPre, AOp.ex, AOp.ex0, ex_mov, ex_bin, binA_lit, ex_cvt, ex_iaddrA, ex_iaddrS, ex_faddr, ex_load, ldA, ex_ext, ex_add64, add64A_un, ex_pick, ex_beq, ex_un, ex_len, lenA_sl, lenA_nil, lenA_str, lenA_own, lenRow_row, elA_own, elA_sl, elRow_row, ex_nilc, ex_build, ex_bslice, ex_fieldv, AOp.ro, AS.ev, AS.put, AS.fieldAddr, idxA_ptr, idxA_cptr, AS.peek, AS.poke, AS.blk, AS.setBlk, AV.nav, AV.upd, Blk.loc, Blk.cont, Blk.n, Blk.may, Blk.upd, AV.isAgg, AV.isTup, AV.sz, unVal, ownOk, fillAV, AV.sub, cvt_64j, cvt_64b, cvt_64w, cvt_8u, cvt_8w, bin_add64, bin_mul64, bin_sub64, bin_and51, bin_and32, bin_and1, bin_and8_1, bin_or64, bin_xor64, bin_or8, bin_shl64, bin_shl64j, bin_shr64, bin_shr64j, bin_shl8j, bin_shr8j, bin_quo64, bin_rem64, bin_quo32, bin_rem32, bin_addj, bin_subj, bin_quoj, bin_remj, bin_eqlj, bin_neqj, bin_lssj, bin_leqj, bin_gtrj, bin_geqj, bin_eql64, bin_lss64, bin_gtr64, bin_eql8, bin_rem8]; exact rfl) ?_)))
  refine wp_sg (areg_al' (z' := .arr 1 (lst 32 fun j => .lit (bn (n % 2 ^ 0 / 2 ^ (8 * j) % 256)))) (by rw [Nat.pow_zero, Nat.mod_one]; rfl) fun l3 => areg_nil ?_)
  refine wp_seq' (wp_seq' (wp_r (by simp [runPre, AOp.ex, AOp.ex0, ex_mov, ex_bin, binA_lit, ex_cvt, ex_iaddrA, ex_iaddrS, ex_faddr, ex_load, ldA, ex_ext, ex_add64, add64A_un, ex_pick, ex_beq, ex_un, ex_len, lenA_sl, lenA_nil, lenA_str, lenA_own, lenRow_row, elA_own, elA_sl, elRow_row, ex_nilc, ex_build, ex_bslice, ex_fieldv, AOp.ro, AS.ev, AS.put, AS.fieldAddr, idxA_ptr, idxA_cptr, AS.peek, AS.poke, AS.blk, AS.setBlk, AV.nav, AV.upd, Blk.loc, Blk.cont, Blk.n, Blk.may, Blk.upd, AV.isAgg, AV.isTup, AV.sz, unVal, ownOk, fillAV, AV.sub, cvt_64j, cvt_64b, cvt_64w, cvt_8u, cvt_8w, bin_add64, bin_mul64, bin_sub64, bin_and51, bin_and32, bin_and1, bin_and8_1, bin_or64, bin_xor64, bin_or8, bin_shl64, bin_shl64j, bin_shr64, bin_shr64j, bin_shl8j, bin_shr8j, bin_quo64, bin_rem64, bin_quo32, bin_rem32, bin_addj, bin_subj, bin_quoj, bin_remj, bin_eqlj, bin_neqj, bin_lssj, bin_leqj, bin_gtrj, bin_geqj, bin_eql64, bin_lss64, bin_gtr64, bin_eql8, bin_rem8, -Nat.pow_zero]; exact rfl) (wp_block' (wp_loop_to 255 (fun i => ⟨0, [.any, .ptr 1 l1 0 [], .ptr 2 l2 0 [], .ptr 3 l3 0 [], .any, .any, .any, .lit (jn i)] ++ List.replicate 23 .any, [none, some (.box l1 5 (.st [5] [.arr 1 (lst 5 fun j => .lit (un (n / 2 ^ (51 * j) % 2251799813685248)))])), some (.box l2 32 (.arr 1 (List.replicate 32 (.lit (bn 0))))), some (.box l3 32 (.arr 1 (lst 32 fun j => .lit (bn (n % 2 ^ i / 2 ^ (8 * j) % 256)))))] ++ List.replicate 27 none⟩) ?_ ?_ ?_))))
  · exact Le.mk rfl (by simp [leT]) (by simp [leH])
  · intro i hi
    have q1 : i / 51 < 5 := by omega
    have q2 : i / 8 < 32 := by omega
    have q3 : i < 9223372036854775808 := by omega
    have q4 : i + 1 < 9223372036854775808 := by omega
    obtain ⟨m1, m2, e1, e2, e3, e4, e5⟩ := bytes_nums n i hi
    refine wp_sr (by simp [runPre, AOp.ex, AOp.ex0, ex_mov, ex_bin, binA_lit, ex_cvt, ex_iaddrA, ex_iaddrS, ex_faddr, ex_load, ldA, ex_ext, ex_add64, add64A_un, ex_pick, ex_beq, ex_un, ex_len, lenA_sl, lenA_nil, lenA_str, lenA_own, lenRow_row, elA_own, elA_sl, elRow_row, ex_nilc, ex_build, ex_bslice, ex_fieldv, AOp.ro, AS.ev, AS.put, AS.fieldAddr, idxA_ptr, idxA_cptr, AS.peek, AS.poke, AS.blk, AS.setBlk, AV.nav, AV.upd, Blk.loc, Blk.cont, Blk.n, Blk.may, Blk.upd, AV.isAgg, AV.isTup, AV.sz, unVal, ownOk, fillAV, AV.sub, cvt_64j, cvt_64b, cvt_64w, cvt_8u, cvt_8w, bin_add64, bin_mul64, bin_sub64, bin_and51, bin_and32, bin_and1, bin_and8_1, bin_or64, bin_xor64, bin_or8, bin_shl64, bin_shl64j, bin_shr64, bin_shr64j, bin_shl8j, bin_shr8j, bin_quo64, bin_rem64, bin_quo32, bin_rem32, bin_addj, bin_subj, bin_quoj, bin_remj, bin_eqlj, bin_neqj, bin_lssj, bin_leqj, bin_gtrj, bin_geqj, bin_eql64, bin_lss64, bin_gtr64, bin_eql8, bin_rem8, hi]; exact rfl) ?_
    refine wp_seq' (wp_cond_t (by simp [AS.ev]) (wp_skip' ?_))
    refine wp_seq' (wp_block' (wp_sr (by simp [runPre, AOp.ex, AOp.ex0, ex_mov, ex_bin, binA_lit, ex_cvt, ex_iaddrA, ex_iaddrS, ex_faddr, ex_load, ldA, ex_ext, ex_add64, add64A_un, ex_pick, ex_beq, ex_un, ex_len, lenA_sl, lenA_nil, lenA_str, lenA_own, lenRow_row, elA_own, elA_sl, elRow_row, ex_nilc, ex_build, ex_bslice, ex_fieldv, AOp.ro, AS.ev, AS.put, AS.fieldAddr, idxA_ptr, idxA_cptr, AS.peek, AS.poke, AS.blk, AS.setBlk, AV.nav, AV.upd, Blk.loc, Blk.cont, Blk.n, Blk.may, Blk.upd, AV.isAgg, AV.isTup, AV.sz, unVal, ownOk, fillAV, AV.sub, cvt_64j, cvt_64b, cvt_64w, cvt_8u, cvt_8w, bin_add64, bin_mul64, bin_sub64, bin_and51, bin_and32, bin_and1, bin_and8_1, bin_or64, bin_xor64, bin_or8, bin_shl64, bin_shl64j, bin_shr64, bin_shr64j, bin_shl8j, bin_shr8j, bin_quo64, bin_rem64, bin_quo32, bin_rem32, bin_addj, bin_subj, bin_quoj, bin_remj, bin_eqlj, bin_neqj, bin_lssj, bin_leqj, bin_gtrj, bin_geqj, bin_eql64, bin_lss64, bin_gtr64, bin_eql8, bin_rem8]; exact rfl) (wp_r (by simp [runPre, AOp.ex, AOp.ex0, ex_mov, ex_bin, binA_lit, ex_cvt, ex_iaddrA, ex_iaddrS, ex_faddr, ex_load, ldA, ex_ext, ex_add64, add64A_un, ex_pick, ex_beq, ex_un, ex_len, lenA_sl, lenA_nil, lenA_str, lenA_own, lenRow_row, elA_own, elA_sl, elRow_row, ex_nilc, ex_build, ex_bslice, ex_fieldv, AOp.ro, AS.ev, AS.put, AS.fieldAddr, idxA_ptr, idxA_cptr, AS.peek, AS.poke, AS.blk, AS.setBlk, AV.nav, AV.upd, Blk.loc, Blk.cont, Blk.n, Blk.may, Blk.upd, AV.isAgg, AV.isTup, AV.sz, unVal, ownOk, fillAV, AV.sub, cvt_64j, cvt_64b, cvt_64w, cvt_8u, cvt_8w, bin_add64, bin_mul64, bin_sub64, bin_and51, bin_and32, bin_and1, bin_and8_1, bin_or64, bin_xor64, bin_or8, bin_shl64, bin_shl64j, bin_shr64, bin_shr64j, bin_shl8j, bin_shr8j, bin_quo64, bin_rem64, bin_quo32, bin_rem32, bin_addj, bin_subj, bin_quoj, bin_remj, bin_eqlj, bin_neqj, bin_lssj, bin_leqj, bin_gtrj, bin_geqj, bin_eql64, bin_lss64, bin_gtr64, bin_eql8, bin_rem8, q1, q2, q3, lst_get, lst_getD, m1, m2, e1, e2, e3, e4, e5]; exact rfl) ?_)))
    refine wp_r (by simp [runPre, AOp.ex, AOp.ex0, ex_mov, ex_bin, binA_lit, ex_cvt, ex_iaddrA, ex_iaddrS, ex_faddr, ex_load, ldA, ex_ext, ex_add64, add64A_un, ex_pick, ex_beq, ex_un, ex_len, lenA_sl, lenA_nil, lenA_str, lenA_own, lenRow_row, elA_own, elA_sl, elRow_row, ex_nilc, ex_build, ex_bslice, ex_fieldv, AOp.ro, AS.ev, AS.put, AS.fieldAddr, idxA_ptr, idxA_cptr, AS.peek, AS.poke, AS.blk, AS.setBlk, AV.nav, AV.upd, Blk.loc, Blk.cont, Blk.n, Blk.may, Blk.upd, AV.isAgg, AV.isTup, AV.sz, unVal, ownOk, fillAV, AV.sub, cvt_64j, cvt_64b, cvt_64w, cvt_8u, cvt_8w, bin_add64, bin_mul64, bin_sub64, bin_and51, bin_and32, bin_and1, bin_and8_1, bin_or64, bin_xor64, bin_or8, bin_shl64, bin_shl64j, bin_shr64, bin_shr64j, bin_shl8j, bin_shr8j, bin_quo64, bin_rem64, bin_quo32, bin_rem32, bin_addj, bin_subj, bin_quoj, bin_remj, bin_eqlj, bin_neqj, bin_lssj, bin_leqj, bin_gtrj, bin_geqj, bin_eql64, bin_lss64, bin_gtr64, bin_eql8, bin_rem8, q4]; exact rfl) ?_
    exact Le.mk rfl (by simp [leT]) (by simp [leH])
  · refine wp_sr (by simp [runPre, AOp.ex, AOp.ex0, ex_mov, ex_bin, binA_lit, ex_cvt, ex_iaddrA, ex_iaddrS, ex_faddr, ex_load, ldA, ex_ext, ex_add64, add64A_un, ex_pick, ex_beq, ex_un, ex_len, lenA_sl, lenA_nil, lenA_str, lenA_own, lenRow_row, elA_own, elA_sl, elRow_row, ex_nilc, ex_build, ex_bslice, ex_fieldv, AOp.ro, AS.ev, AS.put, AS.fieldAddr, idxA_ptr, idxA_cptr, AS.peek, AS.poke, AS.blk, AS.setBlk, AV.nav, AV.upd, Blk.loc, Blk.cont, Blk.n, Blk.may, Blk.upd, AV.isAgg, AV.isTup, AV.sz, unVal, ownOk, fillAV, AV.sub, cvt_64j, cvt_64b, cvt_64w, cvt_8u, cvt_8w, bin_add64, bin_mul64, bin_sub64, bin_and51, bin_and32, bin_and1, bin_and8_1, bin_or64, bin_xor64, bin_or8, bin_shl64, bin_shl64j, bin_shr64, bin_shr64j, bin_shl8j, bin_shr8j, bin_quo64, bin_rem64, bin_quo32, bin_rem32, bin_addj, bin_subj, bin_quoj, bin_remj, bin_eqlj, bin_neqj, bin_lssj, bin_leqj, bin_gtrj, bin_geqj, bin_eql64, bin_lss64, bin_gtr64, bin_eql8, bin_rem8]; exact rfl) ?_
    refine wp_seq' (wp_cond_f (by simp [AS.ev]) (wp_exit' (if_hit rfl ?_)))
    repeat (first | (with_reducible apply wp_sr); focus (simp [runPre, AOp.ex, AOp.ex0, ex_mov, ex_bin, binA_lit, ex_cvt, ex_iaddrA, ex_iaddrS, ex_faddr, ex_load, ldA, ex_ext, ex_add64, add64A_un, ex_pick, ex_beq, ex_un, ex_len, lenA_sl, lenA_nil, lenA_str, lenA_own, lenRow_row, elA_own, elA_sl, elRow_row, ex_nilc, ex_build, ex_bslice, ex_fieldv, AOp.ro, AS.ev, AS.put, AS.fieldAddr, idxA_ptr, idxA_cptr, AS.peek, AS.poke, AS.blk, AS.setBlk, AV.nav, AV.upd, Blk.loc, Blk.cont, Blk.n, Blk.may, Blk.upd, AV.isAgg, AV.isTup, AV.sz, unVal, ownOk, fillAV, AV.sub, cvt_64j, cvt_64b, cvt_64w, cvt_8u, cvt_8w, bin_add64, bin_mul64, bin_sub64, bin_and51, bin_and32, bin_and1, bin_and8_1, bin_or64, bin_xor64, bin_or8, bin_shl64, bin_shl64j, bin_shr64, bin_shr64j, bin_shl8j, bin_shr8j, bin_quo64, bin_rem64, bin_quo32, bin_rem32, bin_addj, bin_subj, bin_quoj, bin_remj, bin_eqlj, bin_neqj, bin_lssj, bin_leqj, bin_gtrj, bin_geqj, bin_eql64, bin_lss64, bin_gtr64, bin_eql8, bin_rem8, lst_len]; exact rfl) | (with_reducible apply wp_r); focus (simp [runPre, AOp.ex, AOp.ex0, ex_mov, ex_bin, binA_lit, ex_cvt, ex_iaddrA, ex_iaddrS, ex_faddr, ex_load, ldA, ex_ext, ex_add64, add64A_un, ex_pick, ex_beq, ex_un, ex_len, lenA_sl, lenA_nil, lenA_str, lenA_own, lenRow_row, elA_own, elA_sl, elRow_row, ex_nilc, ex_build, ex_bslice, ex_fieldv, AOp.ro, AS.ev, AS.put, AS.fieldAddr, idxA_ptr, idxA_cptr, AS.peek, AS.poke, AS.blk, AS.setBlk, AV.nav, AV.upd, Blk.loc, Blk.cont, Blk.n, Blk.may, Blk.upd, AV.isAgg, AV.isTup, AV.sz, unVal, ownOk, fillAV, AV.sub, cvt_64j, cvt_64b, cvt_64w, cvt_8u, cvt_8w, bin_add64, bin_mul64, bin_sub64, bin_and51, bin_and32, bin_and1, bin_and8_1, bin_or64, bin_xor64, bin_or8, bin_shl64, bin_shl64j, bin_shr64, bin_shr64j, bin_shl8j, bin_shr8j, bin_quo64, bin_rem64, bin_quo32, bin_rem32, bin_addj, bin_subj, bin_quoj, bin_remj, bin_eqlj, bin_neqj, bin_lssj, bin_leqj, bin_gtrj, bin_geqj, bin_eql64, bin_lss64, bin_gtr64, bin_eql8, bin_rem8, lst_len]; exact rfl) | (with_reducible refine wp_seq' (wp_cond_t ?_ ?_)); focus (simp [AS.ev]; done) | (with_reducible refine wp_seq' (wp_cond_f ?_ ?_)); focus (simp [AS.ev]; done) | (with_reducible refine wp_cond_t ?_ ?_); focus (simp [AS.ev]; done) | (with_reducible refine wp_cond_f ?_ ?_); focus (simp [AS.ev]; done) | with_reducible refine wp_seq' ?_ | with_reducible refine wp_block' ?_ | with_reducible refine wp_skip' ?_ | with_reducible refine wp_exit' ?_ | with_reducible refine wp_ret' ?_ | with_reducible refine if_hit rfl ?_ | with_reducible refine loopN_succ ?_)
    refine fin_cell (by simp [RVal, AS.coe, tt, AS.ev, AS.peek, AS.blk, Blk.loc, Blk.cont, Blk.n, AV.nav, AV.isAgg, AV.isTup]) (by simp)
end Go.Cab

/- Five limbs: what they come to. -/
namespace Go.Cab

/-- The modulus. -/
def pp : Nat := 57896044618658097711785492504343953926634992332820282019728792003956564819949

structure L5 where
  a : Nat
  b : Nat
  c : Nat
  d : Nat
  e : Nat

def L5.av (l : L5) : AV := elem l.a l.b l.c l.d l.e
def L5.val (l : L5) : Nat := val5 l.a l.b l.c l.d l.e
def L5.lim (l : L5) (n : Nat) : Prop := l.a < n ∧ l.b < n ∧ l.c < n ∧ l.d < n ∧ l.e < n
/-- Limbs below 2^52. -/
def L5.ok (l : L5) : Prop := l.lim 4503599627370496
/-- Limbs as carry leaves them. -/
def L5.fine (l : L5) : Prop := l.a < 2251799813763072 ∧ l.b < 2251799813685248 ∧ l.c < 2251799813685248 ∧ l.d < 2251799813685248 ∧ l.e < 2251799813685248

theorem L5.fine.ok {l : L5} (h : l.fine) : l.ok := by
  unfold L5.fine at h; unfold L5.ok L5.lim; omega

def L5.carry (l : L5) : L5 := ⟨l.a % 2251799813685248 + 19 * (cy5 l.a l.b l.c l.d l.e / 2251799813685248), cy2 l.a l.b % 2251799813685248, cy3 l.a l.b l.c % 2251799813685248, cy4 l.a l.b l.c l.d % 2251799813685248, cy5 l.a l.b l.c l.d l.e % 2251799813685248⟩

theorem L5.carry_fine {l : L5} (h : l.lim 9223372036854775808) : l.carry.fine := by
  obtain ⟨a, b, c, d, e⟩ := l
  simp only [L5.lim] at h
  simp only [L5.fine, L5.carry, cy5, cy4, cy3, cy2]
  omega

theorem ripple (a b c d e : Nat) : val5 a b c d e = val5 (a % 2251799813685248) (cy2 a b % 2251799813685248) (cy3 a b c % 2251799813685248) (cy4 a b c d % 2251799813685248) (cy5 a b c d e % 2251799813685248) + 57896044618658097711785492504343953926634992332820282019728792003956564819968 * (cy5 a b c d e / 2251799813685248) := by
  have h1 := Nat.div_add_mod a 2251799813685248
  have h2 := Nat.div_add_mod (cy2 a b) 2251799813685248
  have h3 := Nat.div_add_mod (cy3 a b c) 2251799813685248
  have h4 := Nat.div_add_mod (cy4 a b c d) 2251799813685248
  have h5 := Nat.div_add_mod (cy5 a b c d e) 2251799813685248
  have e2 : cy2 a b = b + a / 2251799813685248 := rfl
  have e3 : cy3 a b c = c + cy2 a b / 2251799813685248 := rfl
  have e4 : cy4 a b c d = d + cy3 a b c / 2251799813685248 := rfl
  have e5 : cy5 a b c d e = e + cy4 a b c d / 2251799813685248 := rfl
  unfold val5
  generalize cy5 a b c d e / 2251799813685248 = q5 at *
  generalize cy5 a b c d e % 2251799813685248 = r5 at *
  generalize cy4 a b c d / 2251799813685248 = q4 at *
  generalize cy4 a b c d % 2251799813685248 = r4 at *
  generalize cy3 a b c / 2251799813685248 = q3 at *
  generalize cy3 a b c % 2251799813685248 = r3 at *
  generalize cy2 a b / 2251799813685248 = q2 at *
  generalize cy2 a b % 2251799813685248 = r2 at *
  generalize a / 2251799813685248 = q1 at *
  generalize a % 2251799813685248 = r1 at *
  omega

theorem L5.carry_val (l : L5) : l.val = l.carry.val + pp * (cy5 l.a l.b l.c l.d l.e / 2251799813685248) := by
  have h := ripple l.a l.b l.c l.d l.e
  simp only [L5.val, L5.carry]
  unfold val5 at *
  unfold pp
  omega

theorem L5.carry_mod (l : L5) : l.carry.val % pp = l.val % pp := by
  rw [l.carry_val, Nat.add_mul_mod_self_left]

theorem carry_L {P : Program} (h79 : compF P 30 = some fc79) {l : L5} (h : l.lim 9223372036854775808) : PCall P 30 [l.av] (.val l.carry.av) :=
  carry_call h79 h.1 h.2.1 h.2.2.1 h.2.2.2.1 h.2.2.2.2

theorem L5.ok.lim63 {l : L5} (h : l.ok) : l.lim 9223372036854775808 := by
  unfold L5.ok L5.lim at *; omega

/-- The limbs of a number. -/
def L5.of (n : Nat) : L5 := ⟨n % 2251799813685248, n / 2251799813685248 % 2251799813685248, n / 5070602400912917605986812821504 % 2251799813685248, n / 11417981541647679048466287755595961091061972992 % 2251799813685248, n / 25711008708143844408671393477458601640355247900524685364822016 % 2251799813685248⟩

theorem L5.of_av (n : Nat) : (L5.of n).av = elAV n := by
  have e0 : n / 2 ^ (51 * 0) = n := by simp
  show elem _ _ _ _ _ = .st [5] [.arr 1 [.lit (un (n / 2 ^ (51 * 0) % 2251799813685248)), .lit (un (n / 2 ^ (51 * 1) % 2251799813685248)), .lit (un (n / 2 ^ (51 * 2) % 2251799813685248)), .lit (un (n / 2 ^ (51 * 3) % 2251799813685248)), .lit (un (n / 2 ^ (51 * 4) % 2251799813685248))]]
  rw [e0]
  rfl

theorem L5.of_fine (n : Nat) : (L5.of n).fine := by
  unfold L5.fine L5.of; simp only; omega

theorem L5.of_val {n : Nat} (h : n < 57896044618658097711785492504343953926634992332820282019728792003956564819968) : (L5.of n).val = n := by
  unfold L5.val L5.of val5; simp only; omega

theorem of_val5 {a b c d e : Nat} (ha : a < 2251799813685248) (hb : b < 2251799813685248) (hc : c < 2251799813685248) (hd : d < 2251799813685248) (he : e < 2251799813685248) : L5.of (val5 a b c d e) = ⟨a, b, c, d, e⟩ := by
  unfold L5.of val5
  simp only [L5.mk.injEq]
  omega

theorem val5_lt {a b c d e : Nat} (ha : a < 2251799813685248) (hb : b < 2251799813685248) (hc : c < 2251799813685248) (hd : d < 2251799813685248) (he : e < 2251799813685248) : val5 a b c d e < 57896044618658097711785492504343953926634992332820282019728792003956564819968 := by
  unfold val5; omega

theorem prod_val (a0 a1 a2 a3 a4 b0 b1 b2 b3 b4 : Nat) : val5 a0 a1 a2 a3 a4 * val5 b0 b1 b2 b3 b4 =
    val5 (a0 * b0 + a1 * (b4 * 19) + a2 * (b3 * 19) + a3 * (b2 * 19) + a4 * (b1 * 19)) (a0 * b1 + a1 * b0 + a2 * (b4 * 19) + a3 * (b3 * 19) + a4 * (b2 * 19)) (a0 * b2 + a1 * b1 + a2 * b0 + a3 * (b4 * 19) + a4 * (b3 * 19)) (a0 * b3 + a1 * b2 + a2 * b1 + a3 * b0 + a4 * (b4 * 19)) (a0 * b4 + a1 * b3 + a2 * b2 + a3 * b1 + a4 * b0)
    + pp * (a1 * b4 + a2 * b3 + a3 * b2 + a4 * b1 + 2251799813685248 * (a2 * b4 + a3 * b3 + a4 * b2) + 5070602400912917605986812821504 * (a3 * b4 + a4 * b3) + 11417981541647679048466287755595961091061972992 * (a4 * b4)) := by
  unfold val5 pp
  grind

def L5.sums (l m : L5) : L5 :=
  ⟨l.a * m.a + l.b * (m.e * 19) + l.c * (m.d * 19) + l.d * (m.c * 19) + l.e * (m.b * 19), l.a * m.b + l.b * m.a + l.c * (m.e * 19) + l.d * (m.d * 19) + l.e * (m.c * 19),
   l.a * m.c + l.b * m.b + l.c * m.a + l.d * (m.e * 19) + l.e * (m.d * 19), l.a * m.d + l.b * m.c + l.c * m.b + l.d * m.a + l.e * (m.e * 19), l.a * m.e + l.b * m.d + l.c * m.c + l.d * m.b + l.e * m.a⟩

/-- A product, reduced. -/
def L5.red (n : L5) : L5 :=
  ⟨(n.a % 2251799813685248 + cy5 n.a n.b n.c n.d n.e / 2251799813685248 * 19) % 2251799813685248, cy2 n.a n.b % 2251799813685248 + (n.a % 2251799813685248 + cy5 n.a n.b n.c n.d n.e / 2251799813685248 * 19) / 2251799813685248, cy3 n.a n.b n.c % 2251799813685248, cy4 n.a n.b n.c n.d % 2251799813685248, cy5 n.a n.b n.c n.d n.e % 2251799813685248⟩
def L5.mul (l m : L5) : L5 := (l.sums m).red

theorem L5.red_val (n : L5) : n.val = n.red.val + pp * (cy5 n.a n.b n.c n.d n.e / 2251799813685248) := by
  have h := ripple n.a n.b n.c n.d n.e
  simp only [L5.val, L5.red]
  have h6 := Nat.div_add_mod (n.a % 2251799813685248 + cy5 n.a n.b n.c n.d n.e / 2251799813685248 * 19) 2251799813685248
  unfold val5 at *
  unfold pp
  omega

theorem L5.mul_mod (l m : L5) : (l.mul m).val % pp = l.val * m.val % pp := by
  have h := prod_val l.a l.b l.c l.d l.e m.a m.b m.c m.d m.e
  have h2 := L5.red_val (l.sums m)
  have e : l.val * m.val = (l.sums m).val + pp * (l.b * m.e + l.c * m.d + l.d * m.c + l.e * m.b + 2251799813685248 * (l.c * m.e + l.d * m.d + l.e * m.c) + 5070602400912917605986812821504 * (l.d * m.e + l.e * m.d) + 11417981541647679048466287755595961091061972992 * (l.e * m.e)) := h
  rw [e, h2, Nat.add_mul_mod_self_left, Nat.add_mul_mod_self_left]
  rfl

theorem L5.red_ok {n : L5} (h : n.lim 2596148429267413814265248164610048) : n.red.ok := by
  obtain ⟨a, b, c, d, e⟩ := n
  simp only [L5.lim] at h
  simp only [L5.ok, L5.lim, L5.red, cy5, cy4, cy3, cy2]
  refine ⟨by omega, ?_, by omega, by omega, by omega⟩
  omega

theorem L5.sums_lim {l m : L5} (hl : l.ok) (hm : m.ok) : (l.sums m).lim 2596148429267413814265248164610048 := by
  obtain ⟨a0, a1, a2, a3, a4⟩ := l
  obtain ⟨b0, b1, b2, b3, b4⟩ := m
  simp only [L5.ok, L5.lim] at hl hm
  have pr : ∀ x y : Nat, x < 4503599627370496 → y < 85568392920039424 → x * y < 385365782469381738054997774434304 := fun x y hx hy => by
    have := Nat.mul_lt_mul'' hx hy
    exact this
  obtain ⟨h0, h1, h2, h3, h4⟩ := hl
  obtain ⟨k0, k1, k2, k3, k4⟩ := hm
  simp only [L5.lim, L5.sums]
  have p := fun x (hx : x < 4503599627370496) => (⟨pr x b0 hx (by omega), pr x b1 hx (by omega), pr x b2 hx (by omega), pr x b3 hx (by omega), pr x b4 hx (by omega), pr x (b1 * 19) hx (by omega), pr x (b2 * 19) hx (by omega), pr x (b3 * 19) hx (by omega), pr x (b4 * 19) hx (by omega)⟩ : _ ∧ _ ∧ _ ∧ _ ∧ _ ∧ _ ∧ _ ∧ _ ∧ _)
  have q0 := p a0 h0
  have q1 := p a1 h1
  have q2 := p a2 h2
  have q3 := p a3 h3
  have q4 := p a4 h4
  omega

theorem L5.mul_ok {l m : L5} (hl : l.ok) (hm : m.ok) : (l.mul m).ok := L5.red_ok (L5.sums_lim hl hm)

def L5.add (l m : L5) : L5 := ⟨l.a + m.a, l.b + m.b, l.c + m.c, l.d + m.d, l.e + m.e⟩
def L5.plus (l m : L5) : L5 := (l.add m).carry
theorem L5.add_lim {l m : L5} (hl : l.ok) (hm : m.ok) : (l.add m).lim 9223372036854775808 := by
  unfold L5.ok L5.lim at *; simp only [L5.add]; omega
theorem L5.plus_ok {l m : L5} (hl : l.ok) (hm : m.ok) : (l.plus m).ok := (L5.carry_fine (L5.add_lim hl hm)).ok
theorem L5.add_val (l m : L5) : (l.add m).val = l.val + m.val := by
  simp only [L5.val, L5.add]; unfold val5; omega
theorem L5.plus_mod (l m : L5) : (l.plus m).val % pp = (l.val + m.val) % pp := by
  unfold L5.plus; rw [L5.carry_mod, L5.add_val]

/-- Twice the modulus is added, and the other one, carried, is taken away. -/
def L5.take (l m : L5) : L5 := ⟨l.a + (4503599627370458 - m.a), l.b + (4503599627370494 - m.b), l.c + (4503599627370494 - m.c), l.d + (4503599627370494 - m.d), l.e + (4503599627370494 - m.e)⟩
def L5.minus (l m : L5) : L5 := (l.take m.carry).carry
theorem L5.take_lim {l m : L5} (hl : l.ok) : (l.take m).lim 9223372036854775808 := by
  unfold L5.ok L5.lim at *; simp only [L5.take]; omega
theorem L5.minus_ok {l m : L5} (hl : l.ok) : (l.minus m).ok := (L5.carry_fine (L5.take_lim hl)).ok
theorem L5.take_val {l m : L5} (hm : m.fine) : (l.take m).val + m.val = l.val + 2 * pp := by
  unfold L5.fine at hm
  simp only [L5.val, L5.take]; unfold val5 pp; omega
theorem L5.minus_mod (l m : L5) (hm : m.ok) : ((l.minus m).val + m.val) % pp = l.val % pp := by
  have h1 : (l.minus m).val % pp = (l.take m.carry).val % pp := L5.carry_mod _
  have h2 := L5.take_val (l := l) (L5.carry_fine hm.lim63)
  have h3 := m.carry_mod
  rw [Nat.add_mod, h1, ← h3, ← Nat.add_mod, h2, Nat.mul_comm, Nat.add_mul_mod_self_left]

/-- What least comes to. -/
theorem least_nums {l : L5} (hl : l.ok) : ∃ a b c d e, l.carry.carry = ⟨a, b, c, d, e⟩ ∧ a < 2251799813685248 ∧ b < 2251799813685248 ∧ c < 2251799813685248 ∧ d < 2251799813685248 ∧ e < 2251799813685248 := by
  have h1 := L5.carry_fine hl.lim63
  generalize l.carry = m at *
  refine ⟨_, _, _, _, _, rfl, ?_⟩
  obtain ⟨a, b, c, d, e⟩ := m
  simp only [L5.fine] at h1
  simp only [cy5, cy4, cy3, cy2]
  omega
end Go.Cab

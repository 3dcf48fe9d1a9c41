/- Field: the calls at this program; numbers that are alike modulo the modulus. -/
import Derived.Test.YtjkckdiepdbfeaaCabB1
set_option linter.unusedSimpArgs false
set_option linter.unusedVariables false
set_option linter.unusedSectionVars false
namespace Go.Cab

/-- A struct of one field. -/
theorem one_field {o : Option TypeDesc} (h : (match o with | some (.struct fs) => (match fs.toList with | [fd] => fd.type == 27 && fd.offset == 0 && fd.name != "_" | _ => false) | _ => false) = true) :
    ∃ fd : Field, o = some (.struct #[fd]) ∧ fd.type = 27 ∧ fd.offset = 0 ∧ (fd.name != "_") = true := by
  split at h
  · rename_i fs
    split at h
    · rename_i fd e
      simp only [Bool.and_eq_true, beq_iff_eq] at h
      refine ⟨fd, ?_, h.1.1, h.1.2, h.2⟩
      congr 2
      exact Array.ext' e
    · cases h
  · cases h

theorem eqe {m n : Nat} (hm : m < 2 ^ 255) (hn : n < 2 ^ 255) : EqAV Go.Proofs.Try.prog 29 (elAV m) (elAV n) (decide (m = n)) := by
  obtain ⟨fd, h1, h2, h3, h4⟩ := one_field (o := Go.Proofs.Try.prog.underlying 29) (by kernel_rfl)
  exact eq_elem (P := Go.Proofs.Try.prog) h1 h2 h3 h4 (by kernel_rfl) (by kernel_rfl) (by kernel_rfl) (by kernel_rfl) (by kernel_rfl) hm hn

theorem pp255 (n : Nat) : n % pp < 2 ^ 255 := Nat.lt_trans (pp_lt n) (by decide)

set_option maxHeartbeats 8000000 in
set_option maxRecDepth 20000 in
theorem is_P {l m : L5} (hl : l.ok) (hm : m.ok) : PCall Go.Proofs.Try.prog 18 [l.av, m.av] (.val (.lit (.bool (decide (l.val % pp = m.val % pp))))) := by
  have h1 := least_L fc79_eq fc74_eq hl
  have h2 := least_L fc79_eq fc74_eq hm
  have e1 := eqe (pp255 l.val) (pp255 m.val)
  generalize l.val % pp = x at *
  generalize m.val % pp = y at *
  simp only [L5.av, elem] at h1 h2 ⊢
  unfold elAV at *
  have h33 := fc33_eq
  refine PCall.of h33 rfl ?_; show AC.wp _ fb33 (AS.init [.st [5] [.arr 1 [.lit (un l.a), .lit (un l.b), .lit (un l.c), .lit (un l.d), .lit (un l.e)]], .st [5] [.arr 1 [.lit (un m.a), .lit (un m.b), .lit (un m.c), .lit (un m.d), .lit (un m.e)]]] 2 10) (fun x s => match x with | .exit _ => False | _ => Fin [(.tmp 4)] s _); unfold fb33 AS.init
  refine wp_sg (areg_bx rfl rfl fun l1 => areg_bx rfl rfl fun l2 => areg_end (by simp [runPre, AOp.ex, AOp.ex0, ex_mov, ex_bin, binA_lit, ex_cvt, ex_iaddrA, ex_iaddrS, ex_faddr, ex_load, ldA, ex_ext, ex_add64, add64A_un, ex_pick, ex_beq, ex_un, ex_len, lenA_sl, lenA_nil, lenA_str, lenA_own, lenRow_row, elA_own, elA_sl, elRow_row, ex_nilc, ex_build, ex_bslice, ex_fieldv, AOp.ro, AS.ev, AS.put, AS.fieldAddr, idxA_ptr, idxA_cptr, AS.peek, AS.poke, AS.blk, AS.setBlk, AV.nav, AV.upd, Blk.loc, Blk.cont, Blk.n, Blk.may, Blk.upd, AV.isAgg, AV.isTup, AV.sz, unVal, ownOk, fillAV, AV.sub, cvt_64j, cvt_64b, cvt_64w, cvt_8u, cvt_8w, bin_add64, bin_mul64, bin_sub64, bin_and51, bin_and32, bin_and1, bin_and8_1, bin_or64, bin_xor64, bin_or8, bin_shl64, bin_shl64j, bin_shr64, bin_shr64j, bin_shl8j, bin_shr8j, bin_quo64, bin_rem64, bin_quo32, bin_rem32, bin_addj, bin_subj, bin_quoj, bin_remj, bin_eqlj, bin_neqj, bin_lssj, bin_leqj, bin_gtrj, bin_geqj, bin_eql64, bin_lss64, bin_gtr64, bin_eql8, bin_rem8]; exact rfl) ?_)
  refine wp_sg (areg_run 1 (by simp [runPre, AOp.ex, AOp.ex0, ex_mov, ex_bin, binA_lit, ex_cvt, ex_iaddrA, ex_iaddrS, ex_faddr, ex_load, ldA, ex_ext, ex_add64, add64A_un, ex_pick, ex_beq, ex_un, ex_len, lenA_sl, lenA_nil, lenA_str, lenA_own, lenRow_row, elA_own, elA_sl, elRow_row, ex_nilc, ex_build, ex_bslice, ex_fieldv, AOp.ro, AS.ev, AS.put, AS.fieldAddr, idxA_ptr, idxA_cptr, AS.peek, AS.poke, AS.blk, AS.setBlk, AV.nav, AV.upd, Blk.loc, Blk.cont, Blk.n, Blk.may, Blk.upd, AV.isAgg, AV.isTup, AV.sz, unVal, ownOk, fillAV, AV.sub, cvt_64j, cvt_64b, cvt_64w, cvt_8u, cvt_8w, bin_add64, bin_mul64, bin_sub64, bin_and51, bin_and32, bin_and1, bin_and8_1, bin_or64, bin_xor64, bin_or8, bin_shl64, bin_shl64j, bin_shr64, bin_shr64j, bin_shl8j, bin_shr8j, bin_quo64, bin_rem64, bin_quo32, bin_rem32, bin_addj, bin_subj, bin_quoj, bin_remj, bin_eqlj, bin_neqj, bin_lssj, bin_leqj, bin_gtrj, bin_geqj, bin_eql64, bin_lss64, bin_gtr64, bin_eql8, bin_rem8]; exact rfl) (areg_cv (by simp [AS.ev, AS.coe] <;> exact rfl) h1 (areg_run 1 (by simp [runPre, AOp.ex, AOp.ex0, ex_mov, ex_bin, binA_lit, ex_cvt, ex_iaddrA, ex_iaddrS, ex_faddr, ex_load, ldA, ex_ext, ex_add64, add64A_un, ex_pick, ex_beq, ex_un, ex_len, lenA_sl, lenA_nil, lenA_str, lenA_own, lenRow_row, elA_own, elA_sl, elRow_row, ex_nilc, ex_build, ex_bslice, ex_fieldv, AOp.ro, AS.ev, AS.put, AS.fieldAddr, idxA_ptr, idxA_cptr, AS.peek, AS.poke, AS.blk, AS.setBlk, AV.nav, AV.upd, Blk.loc, Blk.cont, Blk.n, Blk.may, Blk.upd, AV.isAgg, AV.isTup, AV.sz, unVal, ownOk, fillAV, AV.sub, cvt_64j, cvt_64b, cvt_64w, cvt_8u, cvt_8w, bin_add64, bin_mul64, bin_sub64, bin_and51, bin_and32, bin_and1, bin_and8_1, bin_or64, bin_xor64, bin_or8, bin_shl64, bin_shl64j, bin_shr64, bin_shr64j, bin_shl8j, bin_shr8j, bin_quo64, bin_rem64, bin_quo32, bin_rem32, bin_addj, bin_subj, bin_quoj, bin_remj, bin_eqlj, bin_neqj, bin_lssj, bin_leqj, bin_gtrj, bin_geqj, bin_eql64, bin_lss64, bin_gtr64, bin_eql8, bin_rem8]; exact rfl) (areg_cv (by simp [AS.ev, AS.coe] <;> exact rfl) h2 ?_))))
  refine areg_eq (by simp [AS.ev, AS.put] <;> exact rfl) (by simp [AS.ev, AS.put] <;> exact rfl) e1 rfl rfl ?_
  refine areg_end (by simp [runPre, AOp.ex, AOp.ex0, ex_mov, ex_bin, binA_lit, ex_cvt, ex_iaddrA, ex_iaddrS, ex_faddr, ex_load, ldA, ex_ext, ex_add64, add64A_un, ex_pick, ex_beq, ex_un, ex_len, lenA_sl, lenA_nil, lenA_str, lenA_own, lenRow_row, elA_own, elA_sl, elRow_row, ex_nilc, ex_build, ex_bslice, ex_fieldv, AOp.ro, AS.ev, AS.put, AS.fieldAddr, idxA_ptr, idxA_cptr, AS.peek, AS.poke, AS.blk, AS.setBlk, AV.nav, AV.upd, Blk.loc, Blk.cont, Blk.n, Blk.may, Blk.upd, AV.isAgg, AV.isTup, AV.sz, unVal, ownOk, fillAV, AV.sub, cvt_64j, cvt_64b, cvt_64w, cvt_8u, cvt_8w, bin_add64, bin_mul64, bin_sub64, bin_and51, bin_and32, bin_and1, bin_and8_1, bin_or64, bin_xor64, bin_or8, bin_shl64, bin_shl64j, bin_shr64, bin_shr64j, bin_shl8j, bin_shr8j, bin_quo64, bin_rem64, bin_quo32, bin_rem32, bin_addj, bin_subj, bin_quoj, bin_remj, bin_eqlj, bin_neqj, bin_lssj, bin_leqj, bin_gtrj, bin_geqj, bin_eql64, bin_lss64, bin_gtr64, bin_eql8, bin_rem8]; exact rfl) ?_
  repeat (first | (with_reducible apply wp_sr); focus (simp [runPre, AOp.ex, AOp.ex0, ex_mov, ex_bin, binA_lit, ex_cvt, ex_iaddrA, ex_iaddrS, ex_faddr, ex_load, ldA, ex_ext, ex_add64, add64A_un, ex_pick, ex_beq, ex_un, ex_len, lenA_sl, lenA_nil, lenA_str, lenA_own, lenRow_row, elA_own, elA_sl, elRow_row, ex_nilc, ex_build, ex_bslice, ex_fieldv, AOp.ro, AS.ev, AS.put, AS.fieldAddr, idxA_ptr, idxA_cptr, AS.peek, AS.poke, AS.blk, AS.setBlk, AV.nav, AV.upd, Blk.loc, Blk.cont, Blk.n, Blk.may, Blk.upd, AV.isAgg, AV.isTup, AV.sz, unVal, ownOk, fillAV, AV.sub, cvt_64j, cvt_64b, cvt_64w, cvt_8u, cvt_8w, bin_add64, bin_mul64, bin_sub64, bin_and51, bin_and32, bin_and1, bin_and8_1, bin_or64, bin_xor64, bin_or8, bin_shl64, bin_shl64j, bin_shr64, bin_shr64j, bin_shl8j, bin_shr8j, bin_quo64, bin_rem64, bin_quo32, bin_rem32, bin_addj, bin_subj, bin_quoj, bin_remj, bin_eqlj, bin_neqj, bin_lssj, bin_leqj, bin_gtrj, bin_geqj, bin_eql64, bin_lss64, bin_gtr64, bin_eql8, bin_rem8]; exact rfl) | (with_reducible apply wp_r); focus (simp [runPre, AOp.ex, AOp.ex0, ex_mov, ex_bin, binA_lit, ex_cvt, ex_iaddrA, ex_iaddrS, ex_faddr, ex_load, ldA, ex_ext, ex_add64, add64A_un, ex_pick, ex_beq, ex_un, ex_len, lenA_sl, lenA_nil, lenA_str, lenA_own, lenRow_row, elA_own, elA_sl, elRow_row, ex_nilc, ex_build, ex_bslice, ex_fieldv, AOp.ro, AS.ev, AS.put, AS.fieldAddr, idxA_ptr, idxA_cptr, AS.peek, AS.poke, AS.blk, AS.setBlk, AV.nav, AV.upd, Blk.loc, Blk.cont, Blk.n, Blk.may, Blk.upd, AV.isAgg, AV.isTup, AV.sz, unVal, ownOk, fillAV, AV.sub, cvt_64j, cvt_64b, cvt_64w, cvt_8u, cvt_8w, bin_add64, bin_mul64, bin_sub64, bin_and51, bin_and32, bin_and1, bin_and8_1, bin_or64, bin_xor64, bin_or8, bin_shl64, bin_shl64j, bin_shr64, bin_shr64j, bin_shl8j, bin_shr8j, bin_quo64, bin_rem64, bin_quo32, bin_rem32, bin_addj, bin_subj, bin_quoj, bin_remj, bin_eqlj, bin_neqj, bin_lssj, bin_leqj, bin_gtrj, bin_geqj, bin_eql64, bin_lss64, bin_gtr64, bin_eql8, bin_rem8]; exact rfl) | (with_reducible refine wp_seq' (wp_cond_t ?_ ?_)); focus (simp [AS.ev]; done) | (with_reducible refine wp_seq' (wp_cond_f ?_ ?_)); focus (simp [AS.ev]; done) | (with_reducible refine wp_cond_t ?_ ?_); focus (simp [AS.ev]; done) | (with_reducible refine wp_cond_f ?_ ?_); focus (simp [AS.ev]; done) | with_reducible refine wp_seq' ?_ | with_reducible refine wp_block' ?_ | with_reducible refine wp_skip' ?_ | with_reducible refine wp_exit' ?_ | with_reducible refine wp_ret' ?_ | with_reducible refine if_hit rfl ?_ | with_reducible refine loopN_succ ?_)
  refine fin_tmp (by simp [RVal, AS.coe, tt, AS.ev] <;> exact rfl) (by simp)

theorem from_P (n : Nat) : PCall Go.Proofs.Try.prog 10 [keyAV n] (.val (L5.of (n % 2 ^ 255)).av) := from_L fc25_eq n
theorem plus_P {l : L5} (hl : l.ok) (ls : List L5) (hls : ∀ m ∈ ls, m.ok) (hn : ls.length < 9223372036854775807) : PCall Go.Proofs.Try.prog 22 [l.av, .sl 5 (ls.map L5.av)] (.val (ls.foldl L5.plus l).av) := plus_L fc79_eq fc37_eq hl ls hls hn
theorem times_P {l : L5} (hl : l.ok) (ls : List L5) (hls : ∀ m ∈ ls, m.ok) (hn : ls.length < 9223372036854775807) : PCall Go.Proofs.Try.prog 16 [l.av, .sl 5 (ls.map L5.av)] (.val (ls.foldl L5.tim l.carry).av) := times_L fc113_eq fc111_eq fc80_eq fc79_eq fc31_eq hl ls hls hn
theorem minus_P {l m : L5} (hl : l.ok) (hm : m.ok) : PCall Go.Proofs.Try.prog 21 [l.av, m.av] (.val (l.minus m).av) := minus_L fc79_eq fc36_eq hl hm
theorem product_P {l m : L5} (hl : l.ok) (hm : m.ok) : PCall Go.Proofs.Try.prog 30 [l.av, m.av] (.val (l.mul m).av) := product_L fc113_eq fc111_eq fc80_eq hl hm
theorem choose_P (sw : Bool) {l m : L5} (hl : l.ok) (hm : m.ok) : PCall Go.Proofs.Try.prog 23 [.lit (.bool sw), l.av, m.av] (.val (.tup [if sw then m.av else l.av, if sw then l.av else m.av])) := choose_L fc38_eq sw hl hm
theorem rplus_P (m n : Nat) : PCall Go.Proofs.Try.prog 19 [keyAV m, keyAV n] (.val (keyAV ((m % 2 ^ 255 + n % 2 ^ 255) % pp))) := rplus_call fc110_eq fc78_eq fc81_eq fc76_eq fc75_eq fc77_eq fc34_eq m n
theorem rtimes_P (m n : Nat) : PCall Go.Proofs.Try.prog 15 [keyAV m, keyAV n] (.val (keyAV ((m % 2 ^ 255) * (n % 2 ^ 255) % pp))) := rtimes_call fc110_eq fc78_eq fc81_eq fc76_eq fc75_eq fc77_eq fc30_eq m n

theorem mem1 {m : L5} (h : m.ok) : ∀ x ∈ [m], x.ok := by intro x hx; simp at hx; rw [hx]; exact h
theorem mem2 {m n : L5} (h : m.ok) (k : n.ok) : ∀ x ∈ [m, n], x.ok := by
  intro x hx; simp at hx
  rcases hx with rfl | rfl
  · exact h
  · exact k
theorem plus1_P {l m : L5} (hl : l.ok) (hm : m.ok) : PCall Go.Proofs.Try.prog 22 [l.av, .sl 5 [m.av]] (.val (l.plus m).av) := plus_P hl [m] (mem1 hm) (by simp)
theorem plus2_P {l m n : L5} (hl : l.ok) (hm : m.ok) (hn : n.ok) : PCall Go.Proofs.Try.prog 22 [l.av, .sl 5 [m.av, n.av]] (.val ((l.plus m).plus n).av) := plus_P hl [m, n] (mem2 hm hn) (by simp)
theorem times1_P {l m : L5} (hl : l.ok) (hm : m.ok) : PCall Go.Proofs.Try.prog 16 [l.av, .sl 5 [m.av]] (.val (l.carry.tim m).av) := times_P hl [m] (mem1 hm) (by simp)
theorem times2_P {l m n : L5} (hl : l.ok) (hm : m.ok) (hn : n.ok) : PCall Go.Proofs.Try.prog 16 [l.av, .sl 5 [m.av, n.av]] (.val ((l.carry.tim m).tim n).av) := times_P hl [m, n] (mem2 hm hn) (by simp)
theorem L5.ok.carry {l : L5} (h : l.ok) : l.carry.ok := (L5.carry_fine h.lim63).ok
theorem from_ok (n : Nat) : (L5.of (n % 2 ^ 255)).ok := of_ok _
theorem from_val (n : Nat) : (L5.of (n % 2 ^ 255)).val = n % 2 ^ 255 := L5.of_val (Nat.mod_lt _ (by decide))

/-- Alike modulo the modulus. -/
def E (a b : Nat) : Prop := a % pp = b % pp
theorem E.rfl' (a : Nat) : E a a := rfl
theorem E.symm {a b : Nat} (h : E a b) : E b a := Eq.symm h
theorem E.trans {a b c : Nat} (h : E a b) (k : E b c) : E a c := Eq.trans h k
theorem E.of {a b : Nat} (h : a = b) : E a b := by rw [h]; exact rfl
theorem E.mod (a : Nat) : E (a % pp) a := Nat.mod_mod a pp
theorem E.add {a b c d : Nat} (h : E a b) (k : E c d) : E (a + c) (b + d) := by
  unfold E at *; rw [Nat.add_mod, h, k, ← Nat.add_mod]
theorem E.mul {a b c d : Nat} (h : E a b) (k : E c d) : E (a * c) (b * d) := by
  unfold E at *; rw [Nat.mul_mod, h, k, ← Nat.mul_mod]
theorem E.cancel {a b c : Nat} (h : E (a + c) (b + c)) : E a b := by
  unfold E pp at *; omega
theorem E_plus (l m : L5) : E (l.plus m).val (l.val + m.val) := L5.plus_mod l m
theorem E_tim (l m : L5) : E (l.tim m).val (l.val * m.val) := L5.tim_mod l m
theorem E_mul (l m : L5) : E (l.mul m).val (l.val * m.val) := L5.mul_mod l m
theorem E_carry (l : L5) : E l.carry.val l.val := L5.carry_mod l
theorem E_minus (l m : L5) (hm : m.ok) : E ((l.minus m).val + m.val) l.val := L5.minus_mod l m hm
end Go.Cab

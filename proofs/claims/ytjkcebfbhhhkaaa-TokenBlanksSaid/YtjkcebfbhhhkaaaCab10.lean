/- Part 10 of what the proof stands on: TA. -/
import Derived.Test.YtjkcebfbhhhkaaaCab09
set_option linter.unusedSimpArgs false
set_option linter.unnecessarySimpa false
set_option linter.unusedVariables false
set_option linter.unusedSectionVars false
/- Token: Cut. -/
-- TEXTS
namespace Go.Cab
def fb311 : AC := (.seq (.reg [⟨(.some 2), .none, (.mov (.const (.slice .none 0 0))), [], .none⟩, ⟨(.some 3), .none, (.mov (.const (jn 0))), [], .none⟩, ⟨(.some 4), .none, (.mov (.const (jn 0))), [], .none⟩]) (.seq (.seq (.reg [⟨(.some 8), .none, (.mov (.tmp 0)), [], .none⟩, ⟨(.some 9), .none, (.len .true (.tmp 8)), [], .none⟩, ⟨(.some 10), .none, (.bin .gtr (.tmp 9) (.const (jn 4000))), [], .none⟩]) (.cond (.tmp 10) (.seq (.reg [⟨(.some 2), .none, (.mov (.const (.slice .none 0 0))), [], .none⟩, ⟨(.some 3), .none, (.mov (.const (jn 0))), [], .none⟩, ⟨(.some 4), .none, (.mov (.const (jn 24))), [], .none⟩]) .ret) .skip)) (.seq (.reg [⟨(.some 11), .none, (.mov (.tmp 0)), [], .none⟩, ⟨(.some 12), .none, (.build (.st [1, 1, 1] [(.lit (tx [])), (.lit (jn 0)), (.lit (.slice .none 0 0))]) [(0, (.tmp 11))]), [], .none⟩, ⟨(.some 13), .none, (.box 3 (.tmp 12)), [], .none⟩, ⟨(.some 5), .none, (.mov (.tmp 13)), [], .none⟩]) (.seq (.seq (.reg [⟨(.some 14), .none, (.mov (.tmp 5)), [], .none⟩, ⟨(.some 15), .none, (.icall 9 (.tmp 14) []), [], .none⟩]) (.block 0 (.loop (.seq (.seq (.reg [⟨(.some 16), .none, (.mov (.tmp 5)), [], .none⟩, ⟨(.some 17), .none, (.nilc (.tmp 16)), [], .none⟩, ⟨(.some 18), .none, (.faddr 1 1 (.tmp 17)), [], .none⟩, ⟨(.some 19), .none, (.load .false 1 (.tmp 18)), [], .none⟩, ⟨(.some 20), .none, (.mov (.tmp 0)), [], .none⟩, ⟨(.some 21), .none, (.len .true (.tmp 20)), [], .none⟩, ⟨(.some 22), .none, (.bin .lss (.tmp 19) (.tmp 21)), [], .none⟩]) (.cond (.tmp 22) .skip (.exit 0))) (.seq (.block 1 (.seq (.reg [⟨(.some 25), .none, (.mov (.tmp 5)), [], .none⟩, ⟨(.some 26), .none, (.nilc (.tmp 25)), [], .none⟩, ⟨(.some 27), .none, (.faddr 1 1 (.tmp 26)), [], .none⟩, ⟨(.some 28), .none, (.load .false 1 (.tmp 27)), [], .none⟩, ⟨(.some 6), .none, (.mov (.tmp 28)), [], .none⟩]) (.seq (.reg [⟨(.some 29), .none, (.mov (.tmp 5)), [], .none⟩, ⟨(.some 30), .none, (.icall 10 (.tmp 29) []), [], .none⟩, ⟨(.some 7), .none, (.mov (.tmp 30)), [], .none⟩]) (.seq (.reg [⟨(.some 31), .none, (.mov (.tmp 7)), [], .none⟩, ⟨(.some 32), .none, (.bin .neq (.tmp 31) (.const (jn 0))), [], .none⟩]) (.cond (.tmp 32) (.seq (.reg [⟨(.some 33), .none, (.mov (.tmp 6)), [], .none⟩, ⟨(.some 34), .none, (.mov (.tmp 7)), [], .none⟩, ⟨(.some 2), .none, (.mov (.const (.slice .none 0 0))), [], .none⟩, ⟨(.some 3), .none, (.mov (.tmp 33)), [], .none⟩, ⟨(.some 4), .none, (.mov (.tmp 34)), [], .none⟩]) .ret) .skip))))) (.reg [⟨(.some 23), .none, (.mov (.tmp 5)), [], .none⟩, ⟨(.some 24), .none, (.icall 9 (.tmp 23) []), [], .none⟩])))))) (.seq (.reg [⟨(.some 35), .none, (.mov (.tmp 5)), [], .none⟩, ⟨(.some 36), .none, (.nilc (.tmp 35)), [], .none⟩, ⟨(.some 37), .none, (.faddr 2 2 (.tmp 36)), [], .none⟩, ⟨(.some 38), .none, (.load .false 1 (.tmp 37)), [], .none⟩, ⟨(.some 2), .none, (.mov (.tmp 38)), [], .none⟩, ⟨(.some 3), .none, (.mov (.const (jn 0))), [], .none⟩, ⟨(.some 4), .none, (.mov (.const (jn 0))), [], .none⟩]) .ret)))))
def fc311 : FC := ⟨1, 39, [(.tmp 2), (.tmp 3), (.tmp 4)], fb311⟩
theorem fc311_eq : compF Go.Proofs.Try.prog 6 = some fc311 := by kernel_rfl

theorem textR_len : ∀ (n : Nat) (acc l out rest : List UInt8), l.length ≤ n → textR acc l = .inr (out, rest) → rest.length < l.length
  | 0, acc, l, out, rest, hn, h => by
    have : l = [] := List.eq_nil_of_length_eq_zero (by omega)
    subst this; rw [textR] at h; cases h
  | n + 1, acc, [], out, rest, hn, h => by rw [textR] at h; cases h
  | n + 1, acc, b :: t, out, rest, hn, h => by
    rw [textR] at h
    simp only [List.length_cons] at hn ⊢
    split at h
    · cases h; omega
    · split at h
      · split at h
        · cases h
        · cases h
        · have := textR_len n _ _ _ _ (by rw [List.length_drop]; omega) h
          rw [List.length_drop] at this; omega
      · split at h
        · cases h
        · have := textR_len n _ _ _ _ (by omega) h
          omega

theorem oneO_tok {s : List UInt8} {i i' : Nat} {t : Tok} (h : oneO s i = .tok t i') : i < i' ∧ i' ≤ s.length := by
  unfold oneO at h
  split at h
  · cases h
  · rename_i b hb
    have hi : i < s.length := (List.getElem?_eq_some_iff.1 hb).1
    obtain ⟨a, ha, hd, hy⟩ := drop_at hi
    have hab : a = b := Option.some.inj (ha.symm.trans hb)
    subst hab
    have hrun : ∀ p : Nat → Bool, p 0 = false → p a.toNat = true → 0 < runN p (s.drop i) ∧ i + runN p (s.drop i) ≤ s.length := fun p h0 hp => by
      rw [← hy] at hp
      have h1 := (runN_step h0 hp).2
      have h2 := runN_le p (s.drop i)
      rw [List.length_drop] at h2
      omega
    split at h
    · rename_i hl
      have := hrun isLD (by decide) (by simp [isLD, hl])
      unfold nameO at h
      split at h
      · cases h
      · cases h; omega
    · split at h
      · rename_i hg
        have := hrun isDig (by decide) hg
        unfold numberO at h
        split at h
        · cases h
        · split at h
          · cases h
          · cases h; omega
      · split at h
        · unfold textO at h
          split at h
          · cases h
          · rename_i out rest hr
            have := textR_len _ _ _ _ _ (Nat.le_refl _) hr
            rw [List.length_drop] at this
            split at h
            · cases h
            · cases h; omega
        · split at h
          · cases h; omega
          · cases h

/-- The tokens, from a byte on; or where an error is, and which. -/
def cutW (s : List UInt8) (k : Nat) (ts : List Tok) : (Nat × Nat) ⊕ List Tok :=
  if h0 : k < s.length then
    match oneO s k with
    | .err e => .inl (k, e)
    | .tok t i' => if h : k < i' then cutW s (i' + skipN false (s.drop i')) (ts ++ [t]) else .inr []
  else .inr ts
termination_by s.length - k

def cutB : (Nat × Nat) ⊕ List Tok → List AV
  | .inl (k, e) => [.lit (.slice none 0 0), .lit (jn k), .lit (jn e)]
  | .inr ts => [.sl 4 (toksA ts), .lit (jn 0), .lit (jn 0)]
def cutA (s : List UInt8) : List AV :=
  if 4000 < s.length then [.lit (.slice none 0 0), .lit (jn 0), .lit (jn 24)] else cutB (cutW s (skipN false s) [])

theorem oneO_err {s : List UInt8} {i e : Nat} (h : oneO s i = .err e) : e ≠ 0 := by
  unfold oneO at h
  split at h
  · cases h; decide
  · have htx : ∀ (n : Nat) (acc l : List UInt8) (e : Nat), l.length ≤ n → textR acc l = .inl e → e ≠ 0 := by
      intro n
      induction n with
      | zero =>
        intro acc l e hn h
        have : l = [] := List.eq_nil_of_length_eq_zero (by omega)
        subst this; rw [textR] at h; cases h; decide
      | succ n ih =>
        intro acc l e hn h
        cases l with
        | nil => rw [textR] at h; cases h; decide
        | cons b t =>
          rw [textR] at h
          simp only [List.length_cons] at hn
          split at h
          · cases h
          · split at h
            · split at h
              · cases h; decide
              · cases h; decide
              · exact ih _ _ _ (by rw [List.length_drop]; omega) h
            · split at h
              · cases h; decide
              · exact ih _ _ _ (by omega) h
    unfold nameO numberO textO at h
    split at h
    · split at h
      · cases h; decide
      · cases h
    · split at h
      · split at h
        · cases h; decide
        · split at h
          · cases h; decide
          · cases h
      · split at h
        · split at h
          · cases h
            rename_i hr
            exact htx _ _ _ _ (Nat.le_refl _) hr
          · split at h
            · cases h; decide
            · cases h
        · split at h
          · cases h
          · cases h; decide

def cutS (s : List UInt8) (l : Nat × Nat) (x : Nat × List Tok × Value) : AS :=
  ⟨0, [.lit (tx s), .any, .lit (.slice none 0 0), .lit (jn 0), .lit (jn 0), .ptr 13 l 0 []] ++ List.replicate 33 .any, [some (rbk x.2.2 x.2.1)] ++ List.replicate 12 none ++ [some (cbk l s x.1 0 x.2.2)] ++ List.replicate 25 none⟩

set_option maxHeartbeats 8000000 in
theorem cut_call (s : List UInt8) : PCall Go.Proofs.Try.prog 6 [.lit (tx s)] (.val (.tup (cutA s))) := by
  have h311 := fc311_eq
  refine PCall.of h311 rfl ?_; show AC.wp _ fb311 (AS.init [.lit (tx s)] 1 39) (fun x s => match x with | .exit _ => False | _ => Fin [(.tmp 2), (.tmp 3), (.tmp 4)] s _); unfold fb311 AS.init
  refine wp_sr (by simp [runPre, AOp.ex, AOp.ex0, ex_mov, ex_bin, binA_lit, ex_cvt, ex_iaddrA, ex_iaddrS, ex_faddr, ex_load, ldA, ex_ext, ex_add64, add64A_un, ex_pick, ex_beq, ex_un, ex_len, lenA_sl, lenA_nil, lenA_str, lenA_own, lenRow_row, elA_own, elA_sl, elRow_row, ex_nilc, ex_build, ex_bslice, ex_fieldv, AOp.ro, AS.ev, AS.put, AS.fieldAddr, idxA_ptr, idxA_cptr, AS.peek, AS.poke, AS.blk, AS.setBlk, AV.nav, AV.upd, Blk.loc, Blk.cont, Blk.n, Blk.may, Blk.upd, AV.isAgg, AV.isTup, AV.sz, unVal, ownOk, fillAV, AV.sub, cvt_64j, cvt_64b, cvt_64w, cvt_8u, cvt_8w, bin_add64, bin_mul64, bin_sub64, bin_and51, bin_and32, bin_and1, bin_and8_1, bin_or64, bin_xor64, bin_or8, bin_shl64, bin_shl64j, bin_shr64, bin_shr64j, bin_shl8j, bin_shr8j, bin_quo64, bin_rem64, bin_quo32, bin_rem32, bin_addj, bin_subj, bin_quoj, bin_remj, bin_eqlj, bin_neqj, bin_lssj, bin_leqj, bin_gtrj, bin_geqj, bin_eql64, bin_lss64, bin_gtr64, bin_eql8, bin_rem8, lenA_tx, ex_prim, primA_some, AS.lits, prim_ix, prim_sub, prim_sub2, prim_min, prim_ib, ex_b2s, textOf_eq, textA_sl, textA_nil, lend_own, lendRow_row, lend_sl, lend_lit, bin_adds, bin_eqls, bin_neqs, bin_geq8, bin_leq8, bin_lss8, bin_gtr8, bin_neq8, bin_sub8, bin_quo8, bin_add8, bin_mulj, cvt_j8, cvt_8j]; exact rfl) ?_
  by_cases h4 : 4000 < s.length
  · have e : cutA s = [.lit (.slice none 0 0), .lit (jn 0), .lit (jn 24)] := by unfold cutA; rw [if_pos h4]
    rw [e]
    refine wp_seq' (wp_seq' (wp_r (by simp [runPre, AOp.ex, AOp.ex0, ex_mov, ex_bin, binA_lit, ex_cvt, ex_iaddrA, ex_iaddrS, ex_faddr, ex_load, ldA, ex_ext, ex_add64, add64A_un, ex_pick, ex_beq, ex_un, ex_len, lenA_sl, lenA_nil, lenA_str, lenA_own, lenRow_row, elA_own, elA_sl, elRow_row, ex_nilc, ex_build, ex_bslice, ex_fieldv, AOp.ro, AS.ev, AS.put, AS.fieldAddr, idxA_ptr, idxA_cptr, AS.peek, AS.poke, AS.blk, AS.setBlk, AV.nav, AV.upd, Blk.loc, Blk.cont, Blk.n, Blk.may, Blk.upd, AV.isAgg, AV.isTup, AV.sz, unVal, ownOk, fillAV, AV.sub, cvt_64j, cvt_64b, cvt_64w, cvt_8u, cvt_8w, bin_add64, bin_mul64, bin_sub64, bin_and51, bin_and32, bin_and1, bin_and8_1, bin_or64, bin_xor64, bin_or8, bin_shl64, bin_shl64j, bin_shr64, bin_shr64j, bin_shl8j, bin_shr8j, bin_quo64, bin_rem64, bin_quo32, bin_rem32, bin_addj, bin_subj, bin_quoj, bin_remj, bin_eqlj, bin_neqj, bin_lssj, bin_leqj, bin_gtrj, bin_geqj, bin_eql64, bin_lss64, bin_gtr64, bin_eql8, bin_rem8, lenA_tx, ex_prim, primA_some, AS.lits, prim_ix, prim_sub, prim_sub2, prim_min, prim_ib, ex_b2s, textOf_eq, textA_sl, textA_nil, lend_own, lendRow_row, lend_sl, lend_lit, bin_adds, bin_eqls, bin_neqs, bin_geq8, bin_leq8, bin_lss8, bin_gtr8, bin_neq8, bin_sub8, bin_quo8, bin_add8, bin_mulj, cvt_j8, cvt_8j, h4]; exact rfl) (wp_cond_t rfl ?_)))
    repeat (first | (with_reducible apply wp_sr); focus (simp [runPre, AOp.ex, AOp.ex0, ex_mov, ex_bin, binA_lit, ex_cvt, ex_iaddrA, ex_iaddrS, ex_faddr, ex_load, ldA, ex_ext, ex_add64, add64A_un, ex_pick, ex_beq, ex_un, ex_len, lenA_sl, lenA_nil, lenA_str, lenA_own, lenRow_row, elA_own, elA_sl, elRow_row, ex_nilc, ex_build, ex_bslice, ex_fieldv, AOp.ro, AS.ev, AS.put, AS.fieldAddr, idxA_ptr, idxA_cptr, AS.peek, AS.poke, AS.blk, AS.setBlk, AV.nav, AV.upd, Blk.loc, Blk.cont, Blk.n, Blk.may, Blk.upd, AV.isAgg, AV.isTup, AV.sz, unVal, ownOk, fillAV, AV.sub, cvt_64j, cvt_64b, cvt_64w, cvt_8u, cvt_8w, bin_add64, bin_mul64, bin_sub64, bin_and51, bin_and32, bin_and1, bin_and8_1, bin_or64, bin_xor64, bin_or8, bin_shl64, bin_shl64j, bin_shr64, bin_shr64j, bin_shl8j, bin_shr8j, bin_quo64, bin_rem64, bin_quo32, bin_rem32, bin_addj, bin_subj, bin_quoj, bin_remj, bin_eqlj, bin_neqj, bin_lssj, bin_leqj, bin_gtrj, bin_geqj, bin_eql64, bin_lss64, bin_gtr64, bin_eql8, bin_rem8, lenA_tx, ex_prim, primA_some, AS.lits, prim_ix, prim_sub, prim_sub2, prim_min, prim_ib, ex_b2s, textOf_eq, textA_sl, textA_nil, lend_own, lendRow_row, lend_sl, lend_lit, bin_adds, bin_eqls, bin_neqs, bin_geq8, bin_leq8, bin_lss8, bin_gtr8, bin_neq8, bin_sub8, bin_quo8, bin_add8, bin_mulj, cvt_j8, cvt_8j]; exact rfl) | (with_reducible apply wp_r); focus (simp [runPre, AOp.ex, AOp.ex0, ex_mov, ex_bin, binA_lit, ex_cvt, ex_iaddrA, ex_iaddrS, ex_faddr, ex_load, ldA, ex_ext, ex_add64, add64A_un, ex_pick, ex_beq, ex_un, ex_len, lenA_sl, lenA_nil, lenA_str, lenA_own, lenRow_row, elA_own, elA_sl, elRow_row, ex_nilc, ex_build, ex_bslice, ex_fieldv, AOp.ro, AS.ev, AS.put, AS.fieldAddr, idxA_ptr, idxA_cptr, AS.peek, AS.poke, AS.blk, AS.setBlk, AV.nav, AV.upd, Blk.loc, Blk.cont, Blk.n, Blk.may, Blk.upd, AV.isAgg, AV.isTup, AV.sz, unVal, ownOk, fillAV, AV.sub, cvt_64j, cvt_64b, cvt_64w, cvt_8u, cvt_8w, bin_add64, bin_mul64, bin_sub64, bin_and51, bin_and32, bin_and1, bin_and8_1, bin_or64, bin_xor64, bin_or8, bin_shl64, bin_shl64j, bin_shr64, bin_shr64j, bin_shl8j, bin_shr8j, bin_quo64, bin_rem64, bin_quo32, bin_rem32, bin_addj, bin_subj, bin_quoj, bin_remj, bin_eqlj, bin_neqj, bin_lssj, bin_leqj, bin_gtrj, bin_geqj, bin_eql64, bin_lss64, bin_gtr64, bin_eql8, bin_rem8, lenA_tx, ex_prim, primA_some, AS.lits, prim_ix, prim_sub, prim_sub2, prim_min, prim_ib, ex_b2s, textOf_eq, textA_sl, textA_nil, lend_own, lendRow_row, lend_sl, lend_lit, bin_adds, bin_eqls, bin_neqs, bin_geq8, bin_leq8, bin_lss8, bin_gtr8, bin_neq8, bin_sub8, bin_quo8, bin_add8, bin_mulj, cvt_j8, cvt_8j]; exact rfl) | (with_reducible refine wp_seq' (wp_cond_t ?_ ?_)); focus (simp [AS.ev]; done) | (with_reducible refine wp_seq' (wp_cond_f ?_ ?_)); focus (simp [AS.ev]; done) | (with_reducible refine wp_cond_t ?_ ?_); focus (simp [AS.ev]; done) | (with_reducible refine wp_cond_f ?_ ?_); focus (simp [AS.ev]; done) | with_reducible refine wp_seq' ?_ | with_reducible refine wp_block' ?_ | with_reducible refine wp_skip' ?_ | with_reducible refine wp_exit' ?_ | with_reducible refine wp_ret' ?_ | with_reducible refine if_hit rfl ?_ | with_reducible refine if_miss (by decide) ?_ | with_reducible refine loopN_succ ?_)
    exact fin_tup (by simp [RVals, RVal, AS.coe, tt, AS.ev]) (by simp)
  refine wp_seq' (wp_seq' (wp_r (by simp [runPre, AOp.ex, AOp.ex0, ex_mov, ex_bin, binA_lit, ex_cvt, ex_iaddrA, ex_iaddrS, ex_faddr, ex_load, ldA, ex_ext, ex_add64, add64A_un, ex_pick, ex_beq, ex_un, ex_len, lenA_sl, lenA_nil, lenA_str, lenA_own, lenRow_row, elA_own, elA_sl, elRow_row, ex_nilc, ex_build, ex_bslice, ex_fieldv, AOp.ro, AS.ev, AS.put, AS.fieldAddr, idxA_ptr, idxA_cptr, AS.peek, AS.poke, AS.blk, AS.setBlk, AV.nav, AV.upd, Blk.loc, Blk.cont, Blk.n, Blk.may, Blk.upd, AV.isAgg, AV.isTup, AV.sz, unVal, ownOk, fillAV, AV.sub, cvt_64j, cvt_64b, cvt_64w, cvt_8u, cvt_8w, bin_add64, bin_mul64, bin_sub64, bin_and51, bin_and32, bin_and1, bin_and8_1, bin_or64, bin_xor64, bin_or8, bin_shl64, bin_shl64j, bin_shr64, bin_shr64j, bin_shl8j, bin_shr8j, bin_quo64, bin_rem64, bin_quo32, bin_rem32, bin_addj, bin_subj, bin_quoj, bin_remj, bin_eqlj, bin_neqj, bin_lssj, bin_leqj, bin_gtrj, bin_geqj, bin_eql64, bin_lss64, bin_gtr64, bin_eql8, bin_rem8, lenA_tx, ex_prim, primA_some, AS.lits, prim_ix, prim_sub, prim_sub2, prim_min, prim_ib, ex_b2s, textOf_eq, textA_sl, textA_nil, lend_own, lendRow_row, lend_sl, lend_lit, bin_adds, bin_eqls, bin_neqs, bin_geq8, bin_leq8, bin_lss8, bin_gtr8, bin_neq8, bin_sub8, bin_quo8, bin_add8, bin_mulj, cvt_j8, cvt_8j, h4]; exact rfl) (wp_cond_f rfl (wp_skip' ?_))))
  refine wp_sg (areg_run 2 (by simp [runPre, AOp.ex, AOp.ex0, ex_mov, ex_bin, binA_lit, ex_cvt, ex_iaddrA, ex_iaddrS, ex_faddr, ex_load, ldA, ex_ext, ex_add64, add64A_un, ex_pick, ex_beq, ex_un, ex_len, lenA_sl, lenA_nil, lenA_str, lenA_own, lenRow_row, elA_own, elA_sl, elRow_row, ex_nilc, ex_build, ex_bslice, ex_fieldv, AOp.ro, AS.ev, AS.put, AS.fieldAddr, idxA_ptr, idxA_cptr, AS.peek, AS.poke, AS.blk, AS.setBlk, AV.nav, AV.upd, Blk.loc, Blk.cont, Blk.n, Blk.may, Blk.upd, AV.isAgg, AV.isTup, AV.sz, unVal, ownOk, fillAV, AV.sub, cvt_64j, cvt_64b, cvt_64w, cvt_8u, cvt_8w, bin_add64, bin_mul64, bin_sub64, bin_and51, bin_and32, bin_and1, bin_and8_1, bin_or64, bin_xor64, bin_or8, bin_shl64, bin_shl64j, bin_shr64, bin_shr64j, bin_shl8j, bin_shr8j, bin_quo64, bin_rem64, bin_quo32, bin_rem32, bin_addj, bin_subj, bin_quoj, bin_remj, bin_eqlj, bin_neqj, bin_lssj, bin_leqj, bin_gtrj, bin_geqj, bin_eql64, bin_lss64, bin_gtr64, bin_eql8, bin_rem8, lenA_tx, ex_prim, primA_some, AS.lits, prim_ix, prim_sub, prim_sub2, prim_min, prim_ib, ex_b2s, textOf_eq, textA_sl, textA_nil, lend_own, lendRow_row, lend_sl, lend_lit, bin_adds, bin_eqls, bin_neqs, bin_geq8, bin_leq8, bin_lss8, bin_gtr8, bin_neq8, bin_sub8, bin_quo8, bin_add8, bin_mulj, cvt_j8, cvt_8j]; exact rfl) (areg_bx rfl rfl fun l => areg_end (by simp [runPre, AOp.ex, AOp.ex0, ex_mov, ex_bin, binA_lit, ex_cvt, ex_iaddrA, ex_iaddrS, ex_faddr, ex_load, ldA, ex_ext, ex_add64, add64A_un, ex_pick, ex_beq, ex_un, ex_len, lenA_sl, lenA_nil, lenA_str, lenA_own, lenRow_row, elA_own, elA_sl, elRow_row, ex_nilc, ex_build, ex_bslice, ex_fieldv, AOp.ro, AS.ev, AS.put, AS.fieldAddr, idxA_ptr, idxA_cptr, AS.peek, AS.poke, AS.blk, AS.setBlk, AV.nav, AV.upd, Blk.loc, Blk.cont, Blk.n, Blk.may, Blk.upd, AV.isAgg, AV.isTup, AV.sz, unVal, ownOk, fillAV, AV.sub, cvt_64j, cvt_64b, cvt_64w, cvt_8u, cvt_8w, bin_add64, bin_mul64, bin_sub64, bin_and51, bin_and32, bin_and1, bin_and8_1, bin_or64, bin_xor64, bin_or8, bin_shl64, bin_shl64j, bin_shr64, bin_shr64j, bin_shl8j, bin_shr8j, bin_quo64, bin_rem64, bin_quo32, bin_rem32, bin_addj, bin_subj, bin_quoj, bin_remj, bin_eqlj, bin_neqj, bin_lssj, bin_leqj, bin_gtrj, bin_geqj, bin_eql64, bin_lss64, bin_gtr64, bin_eql8, bin_rem8, lenA_tx, ex_prim, primA_some, AS.lits, prim_ix, prim_sub, prim_sub2, prim_min, prim_ib, ex_b2s, textOf_eq, textA_sl, textA_nil, lend_own, lendRow_row, lend_sl, lend_lit, bin_adds, bin_eqls, bin_neqs, bin_geq8, bin_leq8, bin_lss8, bin_gtr8, bin_neq8, bin_sub8, bin_quo8, bin_add8, bin_mulj, cvt_j8, cvt_8j]; exact rfl) ?_))
  have hk := skip_call s (by omega) 0 (o := .lit (.slice none 0 0)) rfl
  rw [List.drop_zero, Nat.zero_add] at hk
  generalize hT : cutW s (skipN false s) [] = T at *
  have e : cutA s = cutB T := by unfold cutA; rw [if_neg h4, hT]
  rw [e]
  unfold cu at hk
  refine wp_seq' (wp_sg (areg_run 1 (by simp [runPre, AOp.ex, AOp.ex0, ex_mov, ex_bin, binA_lit, ex_cvt, ex_iaddrA, ex_iaddrS, ex_faddr, ex_load, ldA, ex_ext, ex_add64, add64A_un, ex_pick, ex_beq, ex_un, ex_len, lenA_sl, lenA_nil, lenA_str, lenA_own, lenRow_row, elA_own, elA_sl, elRow_row, ex_nilc, ex_build, ex_bslice, ex_fieldv, AOp.ro, AS.ev, AS.put, AS.fieldAddr, idxA_ptr, idxA_cptr, AS.peek, AS.poke, AS.blk, AS.setBlk, AV.nav, AV.upd, Blk.loc, Blk.cont, Blk.n, Blk.may, Blk.upd, AV.isAgg, AV.isTup, AV.sz, unVal, ownOk, fillAV, AV.sub, cvt_64j, cvt_64b, cvt_64w, cvt_8u, cvt_8w, bin_add64, bin_mul64, bin_sub64, bin_and51, bin_and32, bin_and1, bin_and8_1, bin_or64, bin_xor64, bin_or8, bin_shl64, bin_shl64j, bin_shr64, bin_shr64j, bin_shl8j, bin_shr8j, bin_quo64, bin_rem64, bin_quo32, bin_rem32, bin_addj, bin_subj, bin_quoj, bin_remj, bin_eqlj, bin_neqj, bin_lssj, bin_leqj, bin_gtrj, bin_geqj, bin_eql64, bin_lss64, bin_gtr64, bin_eql8, bin_rem8, lenA_tx, ex_prim, primA_some, AS.lits, prim_ix, prim_sub, prim_sub2, prim_min, prim_ib, ex_b2s, textOf_eq, textA_sl, textA_nil, lend_own, lendRow_row, lend_sl, lend_lit, bin_adds, bin_eqls, bin_neqs, bin_geq8, bin_leq8, bin_lss8, bin_gtr8, bin_neq8, bin_sub8, bin_quo8, bin_add8, bin_mulj, cvt_j8, cvt_8j]; exact rfl) ?_))
  refine areg_ib rfl rfl (by decide) rfl hk rfl ?_
  refine areg_end (by simp [runPre, AOp.ex, AOp.ex0, ex_mov, ex_bin, binA_lit, ex_cvt, ex_iaddrA, ex_iaddrS, ex_faddr, ex_load, ldA, ex_ext, ex_add64, add64A_un, ex_pick, ex_beq, ex_un, ex_len, lenA_sl, lenA_nil, lenA_str, lenA_own, lenRow_row, elA_own, elA_sl, elRow_row, ex_nilc, ex_build, ex_bslice, ex_fieldv, AOp.ro, AS.ev, AS.put, AS.fieldAddr, idxA_ptr, idxA_cptr, AS.peek, AS.poke, AS.blk, AS.setBlk, AV.nav, AV.upd, Blk.loc, Blk.cont, Blk.n, Blk.may, Blk.upd, AV.isAgg, AV.isTup, AV.sz, unVal, ownOk, fillAV, AV.sub, cvt_64j, cvt_64b, cvt_64w, cvt_8u, cvt_8w, bin_add64, bin_mul64, bin_sub64, bin_and51, bin_and32, bin_and1, bin_and8_1, bin_or64, bin_xor64, bin_or8, bin_shl64, bin_shl64j, bin_shr64, bin_shr64j, bin_shl8j, bin_shr8j, bin_quo64, bin_rem64, bin_quo32, bin_rem32, bin_addj, bin_subj, bin_quoj, bin_remj, bin_eqlj, bin_neqj, bin_lssj, bin_leqj, bin_gtrj, bin_geqj, bin_eql64, bin_lss64, bin_gtr64, bin_eql8, bin_rem8, lenA_tx, ex_prim, primA_some, AS.lits, prim_ix, prim_sub, prim_sub2, prim_min, prim_ib, ex_b2s, textOf_eq, textA_sl, textA_nil, lend_own, lendRow_row, lend_sl, lend_lit, bin_adds, bin_eqls, bin_neqs, bin_geq8, bin_leq8, bin_lss8, bin_gtr8, bin_neq8, bin_sub8, bin_quo8, bin_add8, bin_mulj, cvt_j8, cvt_8j]; exact rfl) ?_
  have hsk := skipN_le s false
  refine wp_block' (wp_loop_m (cutS s l) (fun x => s.length - x.1) (fun x => cutW s x.1 x.2.1 = T ∧ x.1 ≤ s.length ∧ x.2.1.length ≤ x.1) (skipN false s, [], .slice none 0 0) ?_ ⟨hT, hsk, by simp⟩ ?_)
  · refine Le.trans (Le.nilField (b := 13) (j := 0) (v' := cu s (skipN false s) (.own 0 (.slice none 0 0))) rfl (AVle.st1 (AVle.refl _) (AVle.st1 (AVle.refl _) (AVle.st1 (AVle.nil 0) AVle.st0))) rfl (by simp) (by simp) 29 4) (Le.mk rfl (by simp [cutS, leT]) (by simp [cutS, cbk, cu, rbk, leH, toksA]))
  · rintro ⟨k, ts, V⟩ ⟨hI, hks, htl⟩
    simp only at hI hks htl
    rw [cutW] at hI
    by_cases hlt : k < s.length
    · rw [dif_pos hlt] at hI
      have hhp : HpOk (cutS s l (k, ts, V)).hp 13 0 l s k V ts := ⟨by decide, rfl, rfl⟩
      have hone := one_call hhp (by omega) hlt (by omega)
      have h2 : ∀ i' V' ts', hpOf (cutS s l (k, ts, V)).hp 13 0 l s i' V' ts' = (cutS s l (i', ts', V')).hp := fun i' V' ts' => rfl
      unfold cutS cbk cu at hone ⊢
      simp only at hone
      refine wp_seq' (wp_seq' (wp_r (by simp [runPre, AOp.ex, AOp.ex0, ex_mov, ex_bin, binA_lit, ex_cvt, ex_iaddrA, ex_iaddrS, ex_faddr, ex_load, ldA, ex_ext, ex_add64, add64A_un, ex_pick, ex_beq, ex_un, ex_len, lenA_sl, lenA_nil, lenA_str, lenA_own, lenRow_row, elA_own, elA_sl, elRow_row, ex_nilc, ex_build, ex_bslice, ex_fieldv, AOp.ro, AS.ev, AS.put, AS.fieldAddr, idxA_ptr, idxA_cptr, AS.peek, AS.poke, AS.blk, AS.setBlk, AV.nav, AV.upd, Blk.loc, Blk.cont, Blk.n, Blk.may, Blk.upd, AV.isAgg, AV.isTup, AV.sz, unVal, ownOk, fillAV, AV.sub, cvt_64j, cvt_64b, cvt_64w, cvt_8u, cvt_8w, bin_add64, bin_mul64, bin_sub64, bin_and51, bin_and32, bin_and1, bin_and8_1, bin_or64, bin_xor64, bin_or8, bin_shl64, bin_shl64j, bin_shr64, bin_shr64j, bin_shl8j, bin_shr8j, bin_quo64, bin_rem64, bin_quo32, bin_rem32, bin_addj, bin_subj, bin_quoj, bin_remj, bin_eqlj, bin_neqj, bin_lssj, bin_leqj, bin_gtrj, bin_geqj, bin_eql64, bin_lss64, bin_gtr64, bin_eql8, bin_rem8, lenA_tx, ex_prim, primA_some, AS.lits, prim_ix, prim_sub, prim_sub2, prim_min, prim_ib, ex_b2s, textOf_eq, textA_sl, textA_nil, lend_own, lendRow_row, lend_sl, lend_lit, bin_adds, bin_eqls, bin_neqs, bin_geq8, bin_leq8, bin_lss8, bin_gtr8, bin_neq8, bin_sub8, bin_quo8, bin_add8, bin_mulj, cvt_j8, cvt_8j, hlt]; exact rfl) (wp_cond_t rfl (wp_skip' ?_))))
      refine wp_seq' (wp_block' (wp_sr (by simp [runPre, AOp.ex, AOp.ex0, ex_mov, ex_bin, binA_lit, ex_cvt, ex_iaddrA, ex_iaddrS, ex_faddr, ex_load, ldA, ex_ext, ex_add64, add64A_un, ex_pick, ex_beq, ex_un, ex_len, lenA_sl, lenA_nil, lenA_str, lenA_own, lenRow_row, elA_own, elA_sl, elRow_row, ex_nilc, ex_build, ex_bslice, ex_fieldv, AOp.ro, AS.ev, AS.put, AS.fieldAddr, idxA_ptr, idxA_cptr, AS.peek, AS.poke, AS.blk, AS.setBlk, AV.nav, AV.upd, Blk.loc, Blk.cont, Blk.n, Blk.may, Blk.upd, AV.isAgg, AV.isTup, AV.sz, unVal, ownOk, fillAV, AV.sub, cvt_64j, cvt_64b, cvt_64w, cvt_8u, cvt_8w, bin_add64, bin_mul64, bin_sub64, bin_and51, bin_and32, bin_and1, bin_and8_1, bin_or64, bin_xor64, bin_or8, bin_shl64, bin_shl64j, bin_shr64, bin_shr64j, bin_shl8j, bin_shr8j, bin_quo64, bin_rem64, bin_quo32, bin_rem32, bin_addj, bin_subj, bin_quoj, bin_remj, bin_eqlj, bin_neqj, bin_lssj, bin_leqj, bin_gtrj, bin_geqj, bin_eql64, bin_lss64, bin_gtr64, bin_eql8, bin_rem8, lenA_tx, ex_prim, primA_some, AS.lits, prim_ix, prim_sub, prim_sub2, prim_min, prim_ib, ex_b2s, textOf_eq, textA_sl, textA_nil, lend_own, lendRow_row, lend_sl, lend_lit, bin_adds, bin_eqls, bin_neqs, bin_geq8, bin_leq8, bin_lss8, bin_gtr8, bin_neq8, bin_sub8, bin_quo8, bin_add8, bin_mulj, cvt_j8, cvt_8j]; exact rfl) (wp_sg (areg_run 1 (by simp [runPre, AOp.ex, AOp.ex0, ex_mov, ex_bin, binA_lit, ex_cvt, ex_iaddrA, ex_iaddrS, ex_faddr, ex_load, ldA, ex_ext, ex_add64, add64A_un, ex_pick, ex_beq, ex_un, ex_len, lenA_sl, lenA_nil, lenA_str, lenA_own, lenRow_row, elA_own, elA_sl, elRow_row, ex_nilc, ex_build, ex_bslice, ex_fieldv, AOp.ro, AS.ev, AS.put, AS.fieldAddr, idxA_ptr, idxA_cptr, AS.peek, AS.poke, AS.blk, AS.setBlk, AV.nav, AV.upd, Blk.loc, Blk.cont, Blk.n, Blk.may, Blk.upd, AV.isAgg, AV.isTup, AV.sz, unVal, ownOk, fillAV, AV.sub, cvt_64j, cvt_64b, cvt_64w, cvt_8u, cvt_8w, bin_add64, bin_mul64, bin_sub64, bin_and51, bin_and32, bin_and1, bin_and8_1, bin_or64, bin_xor64, bin_or8, bin_shl64, bin_shl64j, bin_shr64, bin_shr64j, bin_shl8j, bin_shr8j, bin_quo64, bin_rem64, bin_quo32, bin_rem32, bin_addj, bin_subj, bin_quoj, bin_remj, bin_eqlj, bin_neqj, bin_lssj, bin_leqj, bin_gtrj, bin_geqj, bin_eql64, bin_lss64, bin_gtr64, bin_eql8, bin_rem8, lenA_tx, ex_prim, primA_some, AS.lits, prim_ix, prim_sub, prim_sub2, prim_min, prim_ib, ex_b2s, textOf_eq, textA_sl, textA_nil, lend_own, lendRow_row, lend_sl, lend_lit, bin_adds, bin_eqls, bin_neqs, bin_geq8, bin_leq8, bin_lss8, bin_gtr8, bin_neq8, bin_sub8, bin_quo8, bin_add8, bin_mulj, cvt_j8, cvt_8j]; exact rfl) ?_))))
      refine areg_xc rfl hone (OutK.some _ _ _ _ _ _ _) ?_
      intro r H' hK
      cases ho : oneO s k with
      | err e =>
        rw [ho] at hI hK
        simp only at hI
        simp only [OutK] at hK
        subst hK hI
        have he := oneO_err ho
        refine areg_end (by simp [runPre, AOp.ex, AOp.ex0, ex_mov, ex_bin, binA_lit, ex_cvt, ex_iaddrA, ex_iaddrS, ex_faddr, ex_load, ldA, ex_ext, ex_add64, add64A_un, ex_pick, ex_beq, ex_un, ex_len, lenA_sl, lenA_nil, lenA_str, lenA_own, lenRow_row, elA_own, elA_sl, elRow_row, ex_nilc, ex_build, ex_bslice, ex_fieldv, AOp.ro, AS.ev, AS.put, AS.fieldAddr, idxA_ptr, idxA_cptr, AS.peek, AS.poke, AS.blk, AS.setBlk, AV.nav, AV.upd, Blk.loc, Blk.cont, Blk.n, Blk.may, Blk.upd, AV.isAgg, AV.isTup, AV.sz, unVal, ownOk, fillAV, AV.sub, cvt_64j, cvt_64b, cvt_64w, cvt_8u, cvt_8w, bin_add64, bin_mul64, bin_sub64, bin_and51, bin_and32, bin_and1, bin_and8_1, bin_or64, bin_xor64, bin_or8, bin_shl64, bin_shl64j, bin_shr64, bin_shr64j, bin_shl8j, bin_shr8j, bin_quo64, bin_rem64, bin_quo32, bin_rem32, bin_addj, bin_subj, bin_quoj, bin_remj, bin_eqlj, bin_neqj, bin_lssj, bin_leqj, bin_gtrj, bin_geqj, bin_eql64, bin_lss64, bin_gtr64, bin_eql8, bin_rem8, lenA_tx, ex_prim, primA_some, AS.lits, prim_ix, prim_sub, prim_sub2, prim_min, prim_ib, ex_b2s, textOf_eq, textA_sl, textA_nil, lend_own, lendRow_row, lend_sl, lend_lit, bin_adds, bin_eqls, bin_neqs, bin_geq8, bin_leq8, bin_lss8, bin_gtr8, bin_neq8, bin_sub8, bin_quo8, bin_add8, bin_mulj, cvt_j8, cvt_8j]; exact rfl) (wp_sr (by simp [runPre, AOp.ex, AOp.ex0, ex_mov, ex_bin, binA_lit, ex_cvt, ex_iaddrA, ex_iaddrS, ex_faddr, ex_load, ldA, ex_ext, ex_add64, add64A_un, ex_pick, ex_beq, ex_un, ex_len, lenA_sl, lenA_nil, lenA_str, lenA_own, lenRow_row, elA_own, elA_sl, elRow_row, ex_nilc, ex_build, ex_bslice, ex_fieldv, AOp.ro, AS.ev, AS.put, AS.fieldAddr, idxA_ptr, idxA_cptr, AS.peek, AS.poke, AS.blk, AS.setBlk, AV.nav, AV.upd, Blk.loc, Blk.cont, Blk.n, Blk.may, Blk.upd, AV.isAgg, AV.isTup, AV.sz, unVal, ownOk, fillAV, AV.sub, cvt_64j, cvt_64b, cvt_64w, cvt_8u, cvt_8w, bin_add64, bin_mul64, bin_sub64, bin_and51, bin_and32, bin_and1, bin_and8_1, bin_or64, bin_xor64, bin_or8, bin_shl64, bin_shl64j, bin_shr64, bin_shr64j, bin_shl8j, bin_shr8j, bin_quo64, bin_rem64, bin_quo32, bin_rem32, bin_addj, bin_subj, bin_quoj, bin_remj, bin_eqlj, bin_neqj, bin_lssj, bin_leqj, bin_gtrj, bin_geqj, bin_eql64, bin_lss64, bin_gtr64, bin_eql8, bin_rem8, lenA_tx, ex_prim, primA_some, AS.lits, prim_ix, prim_sub, prim_sub2, prim_min, prim_ib, ex_b2s, textOf_eq, textA_sl, textA_nil, lend_own, lendRow_row, lend_sl, lend_lit, bin_adds, bin_eqls, bin_neqs, bin_geq8, bin_leq8, bin_lss8, bin_gtr8, bin_neq8, bin_sub8, bin_quo8, bin_add8, bin_mulj, cvt_j8, cvt_8j, he]; exact rfl) (wp_cond_t rfl ?_))
        repeat (first | (with_reducible apply wp_sr); focus (simp [runPre, AOp.ex, AOp.ex0, ex_mov, ex_bin, binA_lit, ex_cvt, ex_iaddrA, ex_iaddrS, ex_faddr, ex_load, ldA, ex_ext, ex_add64, add64A_un, ex_pick, ex_beq, ex_un, ex_len, lenA_sl, lenA_nil, lenA_str, lenA_own, lenRow_row, elA_own, elA_sl, elRow_row, ex_nilc, ex_build, ex_bslice, ex_fieldv, AOp.ro, AS.ev, AS.put, AS.fieldAddr, idxA_ptr, idxA_cptr, AS.peek, AS.poke, AS.blk, AS.setBlk, AV.nav, AV.upd, Blk.loc, Blk.cont, Blk.n, Blk.may, Blk.upd, AV.isAgg, AV.isTup, AV.sz, unVal, ownOk, fillAV, AV.sub, cvt_64j, cvt_64b, cvt_64w, cvt_8u, cvt_8w, bin_add64, bin_mul64, bin_sub64, bin_and51, bin_and32, bin_and1, bin_and8_1, bin_or64, bin_xor64, bin_or8, bin_shl64, bin_shl64j, bin_shr64, bin_shr64j, bin_shl8j, bin_shr8j, bin_quo64, bin_rem64, bin_quo32, bin_rem32, bin_addj, bin_subj, bin_quoj, bin_remj, bin_eqlj, bin_neqj, bin_lssj, bin_leqj, bin_gtrj, bin_geqj, bin_eql64, bin_lss64, bin_gtr64, bin_eql8, bin_rem8, lenA_tx, ex_prim, primA_some, AS.lits, prim_ix, prim_sub, prim_sub2, prim_min, prim_ib, ex_b2s, textOf_eq, textA_sl, textA_nil, lend_own, lendRow_row, lend_sl, lend_lit, bin_adds, bin_eqls, bin_neqs, bin_geq8, bin_leq8, bin_lss8, bin_gtr8, bin_neq8, bin_sub8, bin_quo8, bin_add8, bin_mulj, cvt_j8, cvt_8j]; exact rfl) | (with_reducible apply wp_r); focus (simp [runPre, AOp.ex, AOp.ex0, ex_mov, ex_bin, binA_lit, ex_cvt, ex_iaddrA, ex_iaddrS, ex_faddr, ex_load, ldA, ex_ext, ex_add64, add64A_un, ex_pick, ex_beq, ex_un, ex_len, lenA_sl, lenA_nil, lenA_str, lenA_own, lenRow_row, elA_own, elA_sl, elRow_row, ex_nilc, ex_build, ex_bslice, ex_fieldv, AOp.ro, AS.ev, AS.put, AS.fieldAddr, idxA_ptr, idxA_cptr, AS.peek, AS.poke, AS.blk, AS.setBlk, AV.nav, AV.upd, Blk.loc, Blk.cont, Blk.n, Blk.may, Blk.upd, AV.isAgg, AV.isTup, AV.sz, unVal, ownOk, fillAV, AV.sub, cvt_64j, cvt_64b, cvt_64w, cvt_8u, cvt_8w, bin_add64, bin_mul64, bin_sub64, bin_and51, bin_and32, bin_and1, bin_and8_1, bin_or64, bin_xor64, bin_or8, bin_shl64, bin_shl64j, bin_shr64, bin_shr64j, bin_shl8j, bin_shr8j, bin_quo64, bin_rem64, bin_quo32, bin_rem32, bin_addj, bin_subj, bin_quoj, bin_remj, bin_eqlj, bin_neqj, bin_lssj, bin_leqj, bin_gtrj, bin_geqj, bin_eql64, bin_lss64, bin_gtr64, bin_eql8, bin_rem8, lenA_tx, ex_prim, primA_some, AS.lits, prim_ix, prim_sub, prim_sub2, prim_min, prim_ib, ex_b2s, textOf_eq, textA_sl, textA_nil, lend_own, lendRow_row, lend_sl, lend_lit, bin_adds, bin_eqls, bin_neqs, bin_geq8, bin_leq8, bin_lss8, bin_gtr8, bin_neq8, bin_sub8, bin_quo8, bin_add8, bin_mulj, cvt_j8, cvt_8j]; exact rfl) | (with_reducible refine wp_seq' (wp_cond_t ?_ ?_)); focus (simp [AS.ev]; done) | (with_reducible refine wp_seq' (wp_cond_f ?_ ?_)); focus (simp [AS.ev]; done) | (with_reducible refine wp_cond_t ?_ ?_); focus (simp [AS.ev]; done) | (with_reducible refine wp_cond_f ?_ ?_); focus (simp [AS.ev]; done) | with_reducible refine wp_seq' ?_ | with_reducible refine wp_block' ?_ | with_reducible refine wp_skip' ?_ | with_reducible refine wp_exit' ?_ | with_reducible refine wp_ret' ?_ | with_reducible refine if_hit rfl ?_ | with_reducible refine if_miss (by decide) ?_ | with_reducible refine loopN_succ ?_)
        exact fin_tup (by simp [RVals, RVal, AS.coe, tt, AS.ev] <;> exact rfl) (by simp [cutB])
      | tok t i' =>
        rw [ho] at hI hK
        obtain ⟨rfl, V', rfl⟩ := hK
        obtain ⟨b1, b2⟩ := oneO_tok ho
        simp only at hI
        rw [dif_pos b1] at hI
        have b3 := skipN_le (s.drop i') false
        rw [List.length_drop] at b3
        have hk2 := skip_call s (by omega) i' (o := .own 0 V') rfl
        unfold cu at hk2
        refine areg_end (by simp [runPre, AOp.ex, AOp.ex0, ex_mov, ex_bin, binA_lit, ex_cvt, ex_iaddrA, ex_iaddrS, ex_faddr, ex_load, ldA, ex_ext, ex_add64, add64A_un, ex_pick, ex_beq, ex_un, ex_len, lenA_sl, lenA_nil, lenA_str, lenA_own, lenRow_row, elA_own, elA_sl, elRow_row, ex_nilc, ex_build, ex_bslice, ex_fieldv, AOp.ro, AS.ev, AS.put, AS.fieldAddr, idxA_ptr, idxA_cptr, AS.peek, AS.poke, AS.blk, AS.setBlk, AV.nav, AV.upd, Blk.loc, Blk.cont, Blk.n, Blk.may, Blk.upd, AV.isAgg, AV.isTup, AV.sz, unVal, ownOk, fillAV, AV.sub, cvt_64j, cvt_64b, cvt_64w, cvt_8u, cvt_8w, bin_add64, bin_mul64, bin_sub64, bin_and51, bin_and32, bin_and1, bin_and8_1, bin_or64, bin_xor64, bin_or8, bin_shl64, bin_shl64j, bin_shr64, bin_shr64j, bin_shl8j, bin_shr8j, bin_quo64, bin_rem64, bin_quo32, bin_rem32, bin_addj, bin_subj, bin_quoj, bin_remj, bin_eqlj, bin_neqj, bin_lssj, bin_leqj, bin_gtrj, bin_geqj, bin_eql64, bin_lss64, bin_gtr64, bin_eql8, bin_rem8, lenA_tx, ex_prim, primA_some, AS.lits, prim_ix, prim_sub, prim_sub2, prim_min, prim_ib, ex_b2s, textOf_eq, textA_sl, textA_nil, lend_own, lendRow_row, lend_sl, lend_lit, bin_adds, bin_eqls, bin_neqs, bin_geq8, bin_leq8, bin_lss8, bin_gtr8, bin_neq8, bin_sub8, bin_quo8, bin_add8, bin_mulj, cvt_j8, cvt_8j]; exact rfl) (wp_sr (by simp [runPre, AOp.ex, AOp.ex0, ex_mov, ex_bin, binA_lit, ex_cvt, ex_iaddrA, ex_iaddrS, ex_faddr, ex_load, ldA, ex_ext, ex_add64, add64A_un, ex_pick, ex_beq, ex_un, ex_len, lenA_sl, lenA_nil, lenA_str, lenA_own, lenRow_row, elA_own, elA_sl, elRow_row, ex_nilc, ex_build, ex_bslice, ex_fieldv, AOp.ro, AS.ev, AS.put, AS.fieldAddr, idxA_ptr, idxA_cptr, AS.peek, AS.poke, AS.blk, AS.setBlk, AV.nav, AV.upd, Blk.loc, Blk.cont, Blk.n, Blk.may, Blk.upd, AV.isAgg, AV.isTup, AV.sz, unVal, ownOk, fillAV, AV.sub, cvt_64j, cvt_64b, cvt_64w, cvt_8u, cvt_8w, bin_add64, bin_mul64, bin_sub64, bin_and51, bin_and32, bin_and1, bin_and8_1, bin_or64, bin_xor64, bin_or8, bin_shl64, bin_shl64j, bin_shr64, bin_shr64j, bin_shl8j, bin_shr8j, bin_quo64, bin_rem64, bin_quo32, bin_rem32, bin_addj, bin_subj, bin_quoj, bin_remj, bin_eqlj, bin_neqj, bin_lssj, bin_leqj, bin_gtrj, bin_geqj, bin_eql64, bin_lss64, bin_gtr64, bin_eql8, bin_rem8, lenA_tx, ex_prim, primA_some, AS.lits, prim_ix, prim_sub, prim_sub2, prim_min, prim_ib, ex_b2s, textOf_eq, textA_sl, textA_nil, lend_own, lendRow_row, lend_sl, lend_lit, bin_adds, bin_eqls, bin_neqs, bin_geq8, bin_leq8, bin_lss8, bin_gtr8, bin_neq8, bin_sub8, bin_quo8, bin_add8, bin_mulj, cvt_j8, cvt_8j]; exact rfl) (wp_cond_f rfl (wp_skip' ?_)))
        refine wp_rg (areg_run 1 (by simp [runPre, AOp.ex, AOp.ex0, ex_mov, ex_bin, binA_lit, ex_cvt, ex_iaddrA, ex_iaddrS, ex_faddr, ex_load, ldA, ex_ext, ex_add64, add64A_un, ex_pick, ex_beq, ex_un, ex_len, lenA_sl, lenA_nil, lenA_str, lenA_own, lenRow_row, elA_own, elA_sl, elRow_row, ex_nilc, ex_build, ex_bslice, ex_fieldv, AOp.ro, AS.ev, AS.put, AS.fieldAddr, idxA_ptr, idxA_cptr, AS.peek, AS.poke, AS.blk, AS.setBlk, AV.nav, AV.upd, Blk.loc, Blk.cont, Blk.n, Blk.may, Blk.upd, AV.isAgg, AV.isTup, AV.sz, unVal, ownOk, fillAV, AV.sub, cvt_64j, cvt_64b, cvt_64w, cvt_8u, cvt_8w, bin_add64, bin_mul64, bin_sub64, bin_and51, bin_and32, bin_and1, bin_and8_1, bin_or64, bin_xor64, bin_or8, bin_shl64, bin_shl64j, bin_shr64, bin_shr64j, bin_shl8j, bin_shr8j, bin_quo64, bin_rem64, bin_quo32, bin_rem32, bin_addj, bin_subj, bin_quoj, bin_remj, bin_eqlj, bin_neqj, bin_lssj, bin_leqj, bin_gtrj, bin_geqj, bin_eql64, bin_lss64, bin_gtr64, bin_eql8, bin_rem8, lenA_tx, ex_prim, primA_some, AS.lits, prim_ix, prim_sub, prim_sub2, prim_min, prim_ib, ex_b2s, textOf_eq, textA_sl, textA_nil, lend_own, lendRow_row, lend_sl, lend_lit, bin_adds, bin_eqls, bin_neqs, bin_geq8, bin_leq8, bin_lss8, bin_gtr8, bin_neq8, bin_sub8, bin_quo8, bin_add8, bin_mulj, cvt_j8, cvt_8j, hpOf, cbk, cu, rbk]; exact rfl) ?_)
        refine areg_ib rfl rfl (by decide) rfl hk2 rfl ?_
        refine areg_end (by simp [runPre, AOp.ex, AOp.ex0, ex_mov, ex_bin, binA_lit, ex_cvt, ex_iaddrA, ex_iaddrS, ex_faddr, ex_load, ldA, ex_ext, ex_add64, add64A_un, ex_pick, ex_beq, ex_un, ex_len, lenA_sl, lenA_nil, lenA_str, lenA_own, lenRow_row, elA_own, elA_sl, elRow_row, ex_nilc, ex_build, ex_bslice, ex_fieldv, AOp.ro, AS.ev, AS.put, AS.fieldAddr, idxA_ptr, idxA_cptr, AS.peek, AS.poke, AS.blk, AS.setBlk, AV.nav, AV.upd, Blk.loc, Blk.cont, Blk.n, Blk.may, Blk.upd, AV.isAgg, AV.isTup, AV.sz, unVal, ownOk, fillAV, AV.sub, cvt_64j, cvt_64b, cvt_64w, cvt_8u, cvt_8w, bin_add64, bin_mul64, bin_sub64, bin_and51, bin_and32, bin_and1, bin_and8_1, bin_or64, bin_xor64, bin_or8, bin_shl64, bin_shl64j, bin_shr64, bin_shr64j, bin_shl8j, bin_shr8j, bin_quo64, bin_rem64, bin_quo32, bin_rem32, bin_addj, bin_subj, bin_quoj, bin_remj, bin_eqlj, bin_neqj, bin_lssj, bin_leqj, bin_gtrj, bin_geqj, bin_eql64, bin_lss64, bin_gtr64, bin_eql8, bin_rem8, lenA_tx, ex_prim, primA_some, AS.lits, prim_ix, prim_sub, prim_sub2, prim_min, prim_ib, ex_b2s, textOf_eq, textA_sl, textA_nil, lend_own, lendRow_row, lend_sl, lend_lit, bin_adds, bin_eqls, bin_neqs, bin_geq8, bin_leq8, bin_lss8, bin_gtr8, bin_neq8, bin_sub8, bin_quo8, bin_add8, bin_mulj, cvt_j8, cvt_8j]; exact rfl) ?_
        exact ⟨(i' + skipN false (s.drop i'), ts ++ [t], V'), ⟨hI, by simp only; omega, by simp; omega⟩, by simp only; omega, Le.mk rfl (by simp [cutS, leT]) (by simp [cutS, cbk, cu, rbk, leH, toksA])⟩
    · rw [dif_neg hlt] at hI
      subst hI
      unfold cutS cbk cu rbk
      refine wp_seq' (wp_seq' (wp_r (by simp [runPre, AOp.ex, AOp.ex0, ex_mov, ex_bin, binA_lit, ex_cvt, ex_iaddrA, ex_iaddrS, ex_faddr, ex_load, ldA, ex_ext, ex_add64, add64A_un, ex_pick, ex_beq, ex_un, ex_len, lenA_sl, lenA_nil, lenA_str, lenA_own, lenRow_row, elA_own, elA_sl, elRow_row, ex_nilc, ex_build, ex_bslice, ex_fieldv, AOp.ro, AS.ev, AS.put, AS.fieldAddr, idxA_ptr, idxA_cptr, AS.peek, AS.poke, AS.blk, AS.setBlk, AV.nav, AV.upd, Blk.loc, Blk.cont, Blk.n, Blk.may, Blk.upd, AV.isAgg, AV.isTup, AV.sz, unVal, ownOk, fillAV, AV.sub, cvt_64j, cvt_64b, cvt_64w, cvt_8u, cvt_8w, bin_add64, bin_mul64, bin_sub64, bin_and51, bin_and32, bin_and1, bin_and8_1, bin_or64, bin_xor64, bin_or8, bin_shl64, bin_shl64j, bin_shr64, bin_shr64j, bin_shl8j, bin_shr8j, bin_quo64, bin_rem64, bin_quo32, bin_rem32, bin_addj, bin_subj, bin_quoj, bin_remj, bin_eqlj, bin_neqj, bin_lssj, bin_leqj, bin_gtrj, bin_geqj, bin_eql64, bin_lss64, bin_gtr64, bin_eql8, bin_rem8, lenA_tx, ex_prim, primA_some, AS.lits, prim_ix, prim_sub, prim_sub2, prim_min, prim_ib, ex_b2s, textOf_eq, textA_sl, textA_nil, lend_own, lendRow_row, lend_sl, lend_lit, bin_adds, bin_eqls, bin_neqs, bin_geq8, bin_leq8, bin_lss8, bin_gtr8, bin_neq8, bin_sub8, bin_quo8, bin_add8, bin_mulj, cvt_j8, cvt_8j, hlt]; exact rfl) (wp_cond_f rfl (wp_exit' (if_hit rfl ?_)))))
      repeat (first | (with_reducible apply wp_sr); focus (simp [runPre, AOp.ex, AOp.ex0, ex_mov, ex_bin, binA_lit, ex_cvt, ex_iaddrA, ex_iaddrS, ex_faddr, ex_load, ldA, ex_ext, ex_add64, add64A_un, ex_pick, ex_beq, ex_un, ex_len, lenA_sl, lenA_nil, lenA_str, lenA_own, lenRow_row, elA_own, elA_sl, elRow_row, ex_nilc, ex_build, ex_bslice, ex_fieldv, AOp.ro, AS.ev, AS.put, AS.fieldAddr, idxA_ptr, idxA_cptr, AS.peek, AS.poke, AS.blk, AS.setBlk, AV.nav, AV.upd, Blk.loc, Blk.cont, Blk.n, Blk.may, Blk.upd, AV.isAgg, AV.isTup, AV.sz, unVal, ownOk, fillAV, AV.sub, cvt_64j, cvt_64b, cvt_64w, cvt_8u, cvt_8w, bin_add64, bin_mul64, bin_sub64, bin_and51, bin_and32, bin_and1, bin_and8_1, bin_or64, bin_xor64, bin_or8, bin_shl64, bin_shl64j, bin_shr64, bin_shr64j, bin_shl8j, bin_shr8j, bin_quo64, bin_rem64, bin_quo32, bin_rem32, bin_addj, bin_subj, bin_quoj, bin_remj, bin_eqlj, bin_neqj, bin_lssj, bin_leqj, bin_gtrj, bin_geqj, bin_eql64, bin_lss64, bin_gtr64, bin_eql8, bin_rem8, lenA_tx, ex_prim, primA_some, AS.lits, prim_ix, prim_sub, prim_sub2, prim_min, prim_ib, ex_b2s, textOf_eq, textA_sl, textA_nil, lend_own, lendRow_row, lend_sl, lend_lit, bin_adds, bin_eqls, bin_neqs, bin_geq8, bin_leq8, bin_lss8, bin_gtr8, bin_neq8, bin_sub8, bin_quo8, bin_add8, bin_mulj, cvt_j8, cvt_8j]; exact rfl) | (with_reducible apply wp_r); focus (simp [runPre, AOp.ex, AOp.ex0, ex_mov, ex_bin, binA_lit, ex_cvt, ex_iaddrA, ex_iaddrS, ex_faddr, ex_load, ldA, ex_ext, ex_add64, add64A_un, ex_pick, ex_beq, ex_un, ex_len, lenA_sl, lenA_nil, lenA_str, lenA_own, lenRow_row, elA_own, elA_sl, elRow_row, ex_nilc, ex_build, ex_bslice, ex_fieldv, AOp.ro, AS.ev, AS.put, AS.fieldAddr, idxA_ptr, idxA_cptr, AS.peek, AS.poke, AS.blk, AS.setBlk, AV.nav, AV.upd, Blk.loc, Blk.cont, Blk.n, Blk.may, Blk.upd, AV.isAgg, AV.isTup, AV.sz, unVal, ownOk, fillAV, AV.sub, cvt_64j, cvt_64b, cvt_64w, cvt_8u, cvt_8w, bin_add64, bin_mul64, bin_sub64, bin_and51, bin_and32, bin_and1, bin_and8_1, bin_or64, bin_xor64, bin_or8, bin_shl64, bin_shl64j, bin_shr64, bin_shr64j, bin_shl8j, bin_shr8j, bin_quo64, bin_rem64, bin_quo32, bin_rem32, bin_addj, bin_subj, bin_quoj, bin_remj, bin_eqlj, bin_neqj, bin_lssj, bin_leqj, bin_gtrj, bin_geqj, bin_eql64, bin_lss64, bin_gtr64, bin_eql8, bin_rem8, lenA_tx, ex_prim, primA_some, AS.lits, prim_ix, prim_sub, prim_sub2, prim_min, prim_ib, ex_b2s, textOf_eq, textA_sl, textA_nil, lend_own, lendRow_row, lend_sl, lend_lit, bin_adds, bin_eqls, bin_neqs, bin_geq8, bin_leq8, bin_lss8, bin_gtr8, bin_neq8, bin_sub8, bin_quo8, bin_add8, bin_mulj, cvt_j8, cvt_8j]; exact rfl) | (with_reducible refine wp_seq' (wp_cond_t ?_ ?_)); focus (simp [AS.ev]; done) | (with_reducible refine wp_seq' (wp_cond_f ?_ ?_)); focus (simp [AS.ev]; done) | (with_reducible refine wp_cond_t ?_ ?_); focus (simp [AS.ev]; done) | (with_reducible refine wp_cond_f ?_ ?_); focus (simp [AS.ev]; done) | with_reducible refine wp_seq' ?_ | with_reducible refine wp_block' ?_ | with_reducible refine wp_skip' ?_ | with_reducible refine wp_exit' ?_ | with_reducible refine wp_ret' ?_ | with_reducible refine if_hit rfl ?_ | with_reducible refine if_miss (by decide) ?_ | with_reducible refine loopN_succ ?_)
      exact ⟨[0], _, rfl, by simp [AS.seals, AS.seal1, AS.blk, AS.setBlk, RVals, RVal, AS.coe, tt, AS.ev] <;> exact rfl, by simp [cutB]⟩
end Go.Cab

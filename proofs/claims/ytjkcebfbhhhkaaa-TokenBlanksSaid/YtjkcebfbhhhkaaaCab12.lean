/- Part 12 of what the proof stands on: TC, TD, TE, TF, TG, KT. -/
import Derived.Test.YtjkcebfbhhhkaaaCab11
import Derived.Test.YtjkcebfbhhhkaaaCab04
import Derived.ProofKit
import Derived.Deep.Slices
import Derived.Test.YtjkcebfbhhhkaaaProg
set_option linter.unusedSimpArgs false
set_option linter.unnecessarySimpa false
set_option linter.unusedVariables false
set_option linter.unusedSectionVars false
/- Token: tokens compared, and alive. -/
-- TEXTS
namespace Go.Cab
def fb310 : AC := (.seq (.reg [⟨(.some 0), .none, (.mov (.const (.bool .false))), [], .none⟩]) (.seq (.reg [⟨(.some 8), .none, (.call 6 [(.const (tx [100, 111, 32, 48, 32, 115, 97, 121, 32, 34, 104, 105, 34, 59, 32, 35, 32, 115, 111]))]), [], .none⟩, ⟨(.some 7), .none, (.mov (.tmp 8)), [], .none⟩, ⟨(.some 9), .none, (.ext (.tmp 7) 0), [], .none⟩, ⟨(.some 10), .none, (.ext (.tmp 7) 1), [], .none⟩, ⟨(.some 11), .none, (.ext (.tmp 7) 2), [], .none⟩, ⟨(.some 1), .none, (.mov (.tmp 9)), [], .none⟩, ⟨(.some 2), .none, (.mov (.tmp 10)), [], .none⟩, ⟨(.some 3), .none, (.mov (.tmp 11)), [], .none⟩]) (.seq (.reg [⟨(.some 13), .none, (.call 6 [(.const (tx [100, 111, 32, 48, 49]))]), [], .none⟩, ⟨(.some 12), .none, (.mov (.tmp 13)), [], .none⟩, ⟨(.some 14), .none, (.ext (.tmp 12) 0), [], .none⟩, ⟨(.some 15), .none, (.ext (.tmp 12) 1), [], .none⟩, ⟨(.some 16), .none, (.ext (.tmp 12) 2), [], .none⟩, ⟨(.some 4), .none, (.mov (.tmp 14)), [], .none⟩, ⟨(.some 5), .none, (.mov (.tmp 15)), [], .none⟩, ⟨(.some 6), .none, (.mov (.tmp 16)), [], .none⟩]) (.seq (.reg [⟨(.some 17), .none, (.mov (.tmp 3)), [], .none⟩, ⟨(.some 18), .none, (.bin .eql (.tmp 17) (.const (jn 0))), [], .none⟩, ⟨(.some 19), .none, (.mov (.tmp 18)), [], .none⟩, ⟨(.some 20), (.some (19, .true)), (.mov (.tmp 2)), [], .none⟩, ⟨(.some 21), (.some (19, .true)), (.bin .eql (.tmp 20) (.const (jn 0))), [], .none⟩, ⟨(.some 22), .none, (.pick (.tmp 19) (.tmp 21) (.const (.bool .false))), [], .none⟩, ⟨(.some 23), .none, (.mov (.tmp 22)), [], .none⟩, ⟨(.some 24), (.some (23, .true)), (.mov (.tmp 1)), [], .none⟩, ⟨(.some 25), (.some (23, .true)), (.len .false (.tmp 24)), [], .none⟩, ⟨(.some 26), (.some (23, .true)), (.bin .eql (.tmp 25) (.const (jn 5))), [], .none⟩, ⟨(.some 27), .none, (.pick (.tmp 23) (.tmp 26) (.const (.bool .false))), [], .none⟩, ⟨(.some 28), .none, (.mov (.tmp 27)), [], .none⟩, ⟨(.some 29), (.some (28, .true)), (.mov (.tmp 1)), [], .none⟩, ⟨(.some 30), (.some (28, .true)), (.iaddrS 4 (.tmp 29) (.const (jn 3))), [], .none⟩, ⟨(.some 31), (.some (28, .true)), (.load .true 4 (.tmp 30)), [], .none⟩, ⟨(.some 32), (.some (28, .true)), (.build (.st (List.replicate 4 1) [(.lit (jn 0)), (.lit (jn 0)), (.lit (jn 0)), (.lit (tx []))]) [(0, (.const (jn 3))), (1, (.const (jn 9))), (3, (.const (tx [104, 105])))]), [], .none⟩, ⟨(.some 33), (.some (28, .true)), (.eqv 29 .false (.tmp 31) (.tmp 32)), [], .none⟩, ⟨(.some 34), .none, (.pick (.tmp 28) (.tmp 33) (.const (.bool .false))), [], .none⟩, ⟨(.some 35), .none, (.mov (.tmp 34)), [], .none⟩, ⟨(.some 36), (.some (35, .true)), (.mov (.tmp 1)), [], .none⟩, ⟨(.some 37), (.some (35, .true)), (.iaddrS 4 (.tmp 36) (.const (jn 1))), [], .none⟩, ⟨(.some 38), (.some (35, .true)), (.load .true 4 (.tmp 37)), [], .none⟩, ⟨(.some 39), (.some (35, .true)), (.build (.st (List.replicate 4 1) [(.lit (jn 0)), (.lit (jn 0)), (.lit (jn 0)), (.lit (tx []))]) [(0, (.const (jn 2))), (1, (.const (jn 3)))]), [], .none⟩, ⟨(.some 40), (.some (35, .true)), (.eqv 29 .false (.tmp 38) (.tmp 39)), [], .none⟩, ⟨(.some 41), .none, (.pick (.tmp 35) (.tmp 40) (.const (.bool .false))), [], .none⟩, ⟨(.some 42), .none, (.mov (.tmp 41)), [], .none⟩, ⟨(.some 43), (.some (42, .true)), (.mov (.tmp 6)), [], .none⟩, ⟨(.some 44), (.some (42, .true)), (.bin .eql (.tmp 43) (.const (jn 25))), [], .none⟩, ⟨(.some 45), .none, (.pick (.tmp 42) (.tmp 44) (.const (.bool .false))), [], .none⟩, ⟨(.some 46), .none, (.mov (.tmp 45)), [], .none⟩, ⟨(.some 47), (.some (46, .true)), (.mov (.tmp 5)), [], .none⟩, ⟨(.some 48), (.some (46, .true)), (.bin .eql (.tmp 47) (.const (jn 3))), [], .none⟩, ⟨(.some 49), .none, (.pick (.tmp 46) (.tmp 48) (.const (.bool .false))), [], .none⟩, ⟨(.some 0), .none, (.mov (.tmp 49)), [], .none⟩]) .ret))))
def fc310 : FC := ⟨0, 50, [(.tmp 0)], fb310⟩
theorem fc310_eq : compF Go.Proofs.Try.prog 5 = some fc310 := by kernel_rfl

def ffOk (o : Option TypeDesc) : Bool := match o with
  | some (.struct fs) => (match fs.toList with
    | [a, b, c, d] => a.type == 3 && a.offset == 0 && a.name != "_" && (b.type == 3 && b.offset == 1 && b.name != "_") && (c.type == 3 && c.offset == 2 && c.name != "_") && (d.type == 9 && d.offset == 3 && d.name != "_")
    | _ => false)
  | _ => false
theorem four_fields {o : Option TypeDesc} (h : ffOk o = true) : ∃ a b c d : Field, o = some (.struct #[a, b, c, d]) ∧ (a.type = 3 ∧ a.offset = 0 ∧ (a.name != "_") = true) ∧ (b.type = 3 ∧ b.offset = 1 ∧ (b.name != "_") = true) ∧ (c.type = 3 ∧ c.offset = 2 ∧ (c.name != "_") = true) ∧ (d.type = 9 ∧ d.offset = 3 ∧ (d.name != "_") = true) := by
  unfold ffOk at h
  split at h
  · rename_i fs
    split at h
    · rename_i a b c d e
      simp only [Bool.and_eq_true, beq_iff_eq] at h
      obtain ⟨⟨⟨⟨⟨h1, h2⟩, h3⟩, ⟨h4, h5⟩, h6⟩, ⟨h7, h8⟩, h9⟩, ⟨h10, h11⟩, h12⟩ := h
      refine ⟨a, b, c, d, ?_, ⟨h1, h2, h3⟩, ⟨h4, h5, h6⟩, ⟨h7, h8, h9⟩, ⟨h10, h11, h12⟩⟩
      congr 2
      exact Array.ext' e
    · cases h
  · cases h

theorem wf_jn {x : Nat} (h : x < 9223372036854775808) : (Lit.int .i64 (x : Int)).wf = true := by
  simp [Lit.wf, IntKind.min, IntKind.max, IntKind.signed, IntKind.bits]
  omega

theorem R_tok {Imm : Nat → Nat → Prop} {w : World} {a b c d : Value} {cs : List Value} (h : R Imm w (.st [1, 1, 1, 1] [.lit a, .lit b, .lit c, .lit d]) cs) : cs = [a, b, c, d] := by
  cases h with
  | st1 _ _ _ _ c1 d1 h1 _ _ r1 =>
    cases h1
    cases r1 with
    | st1 _ _ _ _ c2 d2 h2 _ _ r2 =>
      cases h2
      cases r2 with
      | st1 _ _ _ _ c3 d3 h3 _ _ r3 =>
        cases h3
        cases r3 with
        | st1 _ _ _ _ c4 d4 h4 _ _ r4 =>
          cases h4
          cases r4
          rfl

/-- A token is itself. -/
theorem eq_tok {P : Program} (hs : ffOk (P.underlying 29) = true) (hi : P.underlying 3 = some (.int .i64)) (ht : P.underlying 9 = some .string) (hc : P.cellsOf 29 = 4) (h1 : P.cellsOf 3 = 1) (h9 : P.cellsOf 9 = 1) {a b c : Nat} {l : List UInt8} (ha : a < 9223372036854775808) (hb : b < 9223372036854775808) (hcc : c < 9223372036854775808) (hl : l.length ≤ maxLen) :
    EqAV P 29 (.st [1, 1, 1, 1] [.lit (jn a), .lit (jn b), .lit (jn c), .lit (tx l)]) (.st [1, 1, 1, 1] [.lit (jn a), .lit (jn b), .lit (jn c), .lit (tx l)]) true := by
  obtain ⟨f0, f1, f2, f3, hu, ⟨t0, o0, n0⟩, ⟨t1, o1, n1⟩, ⟨t2, o2, n2⟩, ⟨t3, o3, n3⟩⟩ := four_fields hs
  have key : P.keyLits 2 29 [jn a, jn b, jn c, tx l] = some [.int .i64 a, .int .i64 b, .int .i64 c, .string l] := by
    have k1 : ∀ x : Nat, x < 9223372036854775808 → P.keyLits 1 3 [jn x] = some [.int .i64 x] := fun x hx => by
      unfold Program.keyLits
      simp only [hi, jn]
      rw [if_pos ⟨trivial, wf_jn hx⟩]
    have k2 : P.keyLits 1 9 [tx l] = some [.string l] := by
      unfold Program.keyLits
      simp only [ht, tx]
      exact if_pos hl
    unfold Program.keyLits
    simp only [hu]
    rw [if_pos ⟨by simp [hc], by simp [n0, n1, n2, n3]⟩]
    simp only [List.mapM_cons, List.mapM_nil, t0, t1, t2, t3, o0, o1, o2, o3, h1, h9]
    erw [k1 a ha, k1 b hb, k1 c hcc, k2]
    rfl
  intro Imm w cs cs' hx hy
  have ex := R_tok hx
  have ey := R_tok hy
  subst ex ey
  refine ⟨2, 2, _, _, ?_, ?_, key, key, by simp⟩
  · simp only [asVal, Value.formed, hu]
    simp [hc]
  · simp only [asVal, Value.formed, hu]
    simp [hc]

theorem eqt {a b c : Nat} {l : List UInt8} (ha : a < 9223372036854775808) (hb : b < 9223372036854775808) (hcc : c < 9223372036854775808) (hl : l.length ≤ maxLen) :
    EqAV Go.Proofs.Try.prog 29 (.st [1, 1, 1, 1] [.lit (jn a), .lit (jn b), .lit (jn c), .lit (tx l)]) (.st [1, 1, 1, 1] [.lit (jn a), .lit (jn b), .lit (jn c), .lit (tx l)]) true :=
  eq_tok (by kernel_rfl) (by kernel_rfl) (by kernel_rfl) (by kernel_rfl) (by kernel_rfl) (by kernel_rfl) ha hb hcc hl

theorem cut_a1 : cutA [100, 111, 32, 48, 32, 115, 97, 121, 32, 34, 104, 105, 34, 59, 32, 35, 32, 115, 111] = [.sl 4 (toksA [⟨1, 0, 0, [100, 111]⟩, ⟨2, 3, 0, []⟩, ⟨1, 5, 0, [115, 97, 121]⟩, ⟨3, 9, 0, [104, 105]⟩, ⟨4, 13, 0, [59]⟩]), .lit (jn 0), .lit (jn 0)] := by
  unfold cutA
  rw [if_neg (by decide)]
  have e : skipN false [100, 111, 32, 48, 32, 115, 97, 121, 32, 34, 104, 105, 34, 59, 32, 35, 32, 115, 111] = 0 := by decide
  rw [e]
  have st : ∀ (s : List UInt8) (k i' : Nat) (ts : List Tok) (t : Tok), oneO s k = .tok t i' → k < s.length → k < i' → cutW s k ts = cutW s (i' + skipN false (s.drop i')) (ts ++ [t]) := fun s k i' ts t h h0 h1 => by
    rw [cutW, dif_pos h0, h]; simp only; rw [dif_pos h1]
  rw [st _ 0 2 _ ⟨1, 0, 0, [100, 111]⟩ (by kernel_rfl) (by decide) (by decide)]
  rw [st _ _ 4 _ ⟨2, 3, 0, []⟩ (by kernel_rfl) (by decide) (by decide)]
  rw [st _ _ 8 _ ⟨1, 5, 0, [115, 97, 121]⟩ (by kernel_rfl) (by decide) (by decide)]
  rw [st _ _ 13 _ ⟨3, 9, 0, [104, 105]⟩ (by show oneO _ 9 = _; simp [oneO, isLet, isDig, textO, textR]) (by decide) (by decide)]
  rw [st _ _ 14 _ ⟨4, 13, 0, [59]⟩ (by kernel_rfl) (by decide) (by decide)]
  rw [cutW, dif_neg (by decide)]
  rfl
theorem cut_a2 : cutA [100, 111, 32, 48, 49] = [.lit (.slice none 0 0), .lit (jn 3), .lit (jn 25)] := by
  unfold cutA
  rw [if_neg (by decide)]
  have e : skipN false [100, 111, 32, 48, 49] = 0 := by decide
  rw [e]
  have st : ∀ (s : List UInt8) (k i' : Nat) (ts : List Tok) (t : Tok), oneO s k = .tok t i' → k < s.length → k < i' → cutW s k ts = cutW s (i' + skipN false (s.drop i')) (ts ++ [t]) := fun s k i' ts t h h0 h1 => by
    rw [cutW, dif_pos h0, h]; simp only; rw [dif_pos h1]
  rw [st _ 0 2 _ ⟨1, 0, 0, [100, 111]⟩ (by kernel_rfl) (by decide) (by decide)]
  rw [cutW, dif_pos (by decide)]
  have h : oneO [100, 111, 32, 48, 49] (2 + skipN false (([100, 111, 32, 48, 49] : List UInt8).drop 2)) = .err 25 := by kernel_rfl
  rw [h]
  rfl

set_option maxHeartbeats 8000000 in
theorem talive_call : PCall Go.Proofs.Try.prog 5 [] (.val (.lit (.bool true))) := by
  have h310 := fc310_eq
  have c1 := cut_call [100, 111, 32, 48, 32, 115, 97, 121, 32, 34, 104, 105, 34, 59, 32, 35, 32, 115, 111]
  have c2 := cut_call [100, 111, 32, 48, 49]
  rw [cut_a1] at c1
  rw [cut_a2] at c2
  have e1 := eqt (a := 3) (b := 9) (c := 0) (l := [104, 105]) (by decide) (by decide) (by decide) (by decide)
  have e2 := eqt (a := 2) (b := 3) (c := 0) (l := []) (by decide) (by decide) (by decide) (by decide)
  refine PCall.of h310 rfl ?_; show AC.wp _ fb310 (AS.init [] 0 50) (fun x s => match x with | .exit _ => False | _ => Fin [(.tmp 0)] s _); unfold fb310 AS.init
  refine wp_sr (by simp [runPre, AOp.ex, AOp.ex0, ex_mov, ex_bin, binA_lit, ex_cvt, ex_iaddrA, ex_iaddrS, ex_faddr, ex_load, ldA, ex_ext, ex_add64, add64A_un, ex_pick, ex_beq, ex_un, ex_len, lenA_sl, lenA_nil, lenA_str, lenA_own, lenRow_row, elA_own, elA_sl, elRow_row, ex_nilc, ex_build, ex_bslice, ex_fieldv, AOp.ro, AS.ev, AS.put, AS.fieldAddr, idxA_ptr, idxA_cptr, AS.peek, AS.poke, AS.blk, AS.setBlk, AV.nav, AV.upd, Blk.loc, Blk.cont, Blk.n, Blk.may, Blk.upd, AV.isAgg, AV.isTup, AV.sz, unVal, ownOk, fillAV, AV.sub, cvt_64j, cvt_64b, cvt_64w, cvt_8u, cvt_8w, bin_add64, bin_mul64, bin_sub64, bin_and51, bin_and32, bin_and1, bin_and8_1, bin_or64, bin_xor64, bin_or8, bin_shl64, bin_shl64j, bin_shr64, bin_shr64j, bin_shl8j, bin_shr8j, bin_quo64, bin_rem64, bin_quo32, bin_rem32, bin_addj, bin_subj, bin_quoj, bin_remj, bin_eqlj, bin_neqj, bin_lssj, bin_leqj, bin_gtrj, bin_geqj, bin_eql64, bin_lss64, bin_gtr64, bin_eql8, bin_rem8, lenA_tx, ex_prim, primA_some, AS.lits, prim_ix, prim_sub, prim_sub2, prim_min, prim_ib, ex_b2s, textOf_eq, textA_sl, textA_nil, lend_own, lendRow_row, lend_sl, lend_lit, bin_adds, bin_eqls, bin_neqs, bin_geq8, bin_leq8, bin_lss8, bin_gtr8, bin_neq8, bin_sub8, bin_quo8, bin_add8, bin_mulj, cvt_j8, cvt_8j]; exact rfl) (wp_sg ?_)
  refine areg_ca (by simp [AS.ev, AS.coe, AS.put] <;> exact rfl) c1 ?_
  refine areg_end (by simp [runPre, AOp.ex, AOp.ex0, ex_mov, ex_bin, binA_lit, ex_cvt, ex_iaddrA, ex_iaddrS, ex_faddr, ex_load, ldA, ex_ext, ex_add64, add64A_un, ex_pick, ex_beq, ex_un, ex_len, lenA_sl, lenA_nil, lenA_str, lenA_own, lenRow_row, elA_own, elA_sl, elRow_row, ex_nilc, ex_build, ex_bslice, ex_fieldv, AOp.ro, AS.ev, AS.put, AS.fieldAddr, idxA_ptr, idxA_cptr, AS.peek, AS.poke, AS.blk, AS.setBlk, AV.nav, AV.upd, Blk.loc, Blk.cont, Blk.n, Blk.may, Blk.upd, AV.isAgg, AV.isTup, AV.sz, unVal, ownOk, fillAV, AV.sub, cvt_64j, cvt_64b, cvt_64w, cvt_8u, cvt_8w, bin_add64, bin_mul64, bin_sub64, bin_and51, bin_and32, bin_and1, bin_and8_1, bin_or64, bin_xor64, bin_or8, bin_shl64, bin_shl64j, bin_shr64, bin_shr64j, bin_shl8j, bin_shr8j, bin_quo64, bin_rem64, bin_quo32, bin_rem32, bin_addj, bin_subj, bin_quoj, bin_remj, bin_eqlj, bin_neqj, bin_lssj, bin_leqj, bin_gtrj, bin_geqj, bin_eql64, bin_lss64, bin_gtr64, bin_eql8, bin_rem8, lenA_tx, ex_prim, primA_some, AS.lits, prim_ix, prim_sub, prim_sub2, prim_min, prim_ib, ex_b2s, textOf_eq, textA_sl, textA_nil, lend_own, lendRow_row, lend_sl, lend_lit, bin_adds, bin_eqls, bin_neqs, bin_geq8, bin_leq8, bin_lss8, bin_gtr8, bin_neq8, bin_sub8, bin_quo8, bin_add8, bin_mulj, cvt_j8, cvt_8j]; exact rfl) (wp_sg ?_)
  refine areg_ca (by simp [AS.ev, AS.coe, AS.put] <;> exact rfl) c2 ?_
  refine areg_end (by simp [runPre, AOp.ex, AOp.ex0, ex_mov, ex_bin, binA_lit, ex_cvt, ex_iaddrA, ex_iaddrS, ex_faddr, ex_load, ldA, ex_ext, ex_add64, add64A_un, ex_pick, ex_beq, ex_un, ex_len, lenA_sl, lenA_nil, lenA_str, lenA_own, lenRow_row, elA_own, elA_sl, elRow_row, ex_nilc, ex_build, ex_bslice, ex_fieldv, AOp.ro, AS.ev, AS.put, AS.fieldAddr, idxA_ptr, idxA_cptr, AS.peek, AS.poke, AS.blk, AS.setBlk, AV.nav, AV.upd, Blk.loc, Blk.cont, Blk.n, Blk.may, Blk.upd, AV.isAgg, AV.isTup, AV.sz, unVal, ownOk, fillAV, AV.sub, cvt_64j, cvt_64b, cvt_64w, cvt_8u, cvt_8w, bin_add64, bin_mul64, bin_sub64, bin_and51, bin_and32, bin_and1, bin_and8_1, bin_or64, bin_xor64, bin_or8, bin_shl64, bin_shl64j, bin_shr64, bin_shr64j, bin_shl8j, bin_shr8j, bin_quo64, bin_rem64, bin_quo32, bin_rem32, bin_addj, bin_subj, bin_quoj, bin_remj, bin_eqlj, bin_neqj, bin_lssj, bin_leqj, bin_gtrj, bin_geqj, bin_eql64, bin_lss64, bin_gtr64, bin_eql8, bin_rem8, lenA_tx, ex_prim, primA_some, AS.lits, prim_ix, prim_sub, prim_sub2, prim_min, prim_ib, ex_b2s, textOf_eq, textA_sl, textA_nil, lend_own, lendRow_row, lend_sl, lend_lit, bin_adds, bin_eqls, bin_neqs, bin_geq8, bin_leq8, bin_lss8, bin_gtr8, bin_neq8, bin_sub8, bin_quo8, bin_add8, bin_mulj, cvt_j8, cvt_8j]; exact rfl) ?_
  simp only [toksA, List.map_cons, List.map_nil, tokA]
  refine wp_sg (areg_run 16 (by simp [runPre, AOp.ex, AOp.ex0, ex_mov, ex_bin, binA_lit, ex_cvt, ex_iaddrA, ex_iaddrS, ex_faddr, ex_load, ldA, ex_ext, ex_add64, add64A_un, ex_pick, ex_beq, ex_un, ex_len, lenA_sl, lenA_nil, lenA_str, lenA_own, lenRow_row, elA_own, elA_sl, elRow_row, ex_nilc, ex_build, ex_bslice, ex_fieldv, AOp.ro, AS.ev, AS.put, AS.fieldAddr, idxA_ptr, idxA_cptr, AS.peek, AS.poke, AS.blk, AS.setBlk, AV.nav, AV.upd, Blk.loc, Blk.cont, Blk.n, Blk.may, Blk.upd, AV.isAgg, AV.isTup, AV.sz, unVal, ownOk, fillAV, AV.sub, cvt_64j, cvt_64b, cvt_64w, cvt_8u, cvt_8w, bin_add64, bin_mul64, bin_sub64, bin_and51, bin_and32, bin_and1, bin_and8_1, bin_or64, bin_xor64, bin_or8, bin_shl64, bin_shl64j, bin_shr64, bin_shr64j, bin_shl8j, bin_shr8j, bin_quo64, bin_rem64, bin_quo32, bin_rem32, bin_addj, bin_subj, bin_quoj, bin_remj, bin_eqlj, bin_neqj, bin_lssj, bin_leqj, bin_gtrj, bin_geqj, bin_eql64, bin_lss64, bin_gtr64, bin_eql8, bin_rem8, lenA_tx, ex_prim, primA_some, AS.lits, prim_ix, prim_sub, prim_sub2, prim_min, prim_ib, ex_b2s, textOf_eq, textA_sl, textA_nil, lend_own, lendRow_row, lend_sl, lend_lit, bin_adds, bin_eqls, bin_neqs, bin_geq8, bin_leq8, bin_lss8, bin_gtr8, bin_neq8, bin_sub8, bin_quo8, bin_add8, bin_mulj, cvt_j8, cvt_8j]; exact rfl) ?_)
  refine areg_g (by simp [AS.ev, AS.put]) (areg_eq (by simp [AS.ev, AS.put] <;> exact rfl) (by simp [AS.ev, AS.put] <;> exact rfl) e1 rfl rfl ?_)
  refine areg_run 6 (by simp [runPre, AOp.ex, AOp.ex0, ex_mov, ex_bin, binA_lit, ex_cvt, ex_iaddrA, ex_iaddrS, ex_faddr, ex_load, ldA, ex_ext, ex_add64, add64A_un, ex_pick, ex_beq, ex_un, ex_len, lenA_sl, lenA_nil, lenA_str, lenA_own, lenRow_row, elA_own, elA_sl, elRow_row, ex_nilc, ex_build, ex_bslice, ex_fieldv, AOp.ro, AS.ev, AS.put, AS.fieldAddr, idxA_ptr, idxA_cptr, AS.peek, AS.poke, AS.blk, AS.setBlk, AV.nav, AV.upd, Blk.loc, Blk.cont, Blk.n, Blk.may, Blk.upd, AV.isAgg, AV.isTup, AV.sz, unVal, ownOk, fillAV, AV.sub, cvt_64j, cvt_64b, cvt_64w, cvt_8u, cvt_8w, bin_add64, bin_mul64, bin_sub64, bin_and51, bin_and32, bin_and1, bin_and8_1, bin_or64, bin_xor64, bin_or8, bin_shl64, bin_shl64j, bin_shr64, bin_shr64j, bin_shl8j, bin_shr8j, bin_quo64, bin_rem64, bin_quo32, bin_rem32, bin_addj, bin_subj, bin_quoj, bin_remj, bin_eqlj, bin_neqj, bin_lssj, bin_leqj, bin_gtrj, bin_geqj, bin_eql64, bin_lss64, bin_gtr64, bin_eql8, bin_rem8, lenA_tx, ex_prim, primA_some, AS.lits, prim_ix, prim_sub, prim_sub2, prim_min, prim_ib, ex_b2s, textOf_eq, textA_sl, textA_nil, lend_own, lendRow_row, lend_sl, lend_lit, bin_adds, bin_eqls, bin_neqs, bin_geq8, bin_leq8, bin_lss8, bin_gtr8, bin_neq8, bin_sub8, bin_quo8, bin_add8, bin_mulj, cvt_j8, cvt_8j]; exact rfl) ?_
  refine areg_g (by simp [AS.ev, AS.put]) (areg_eq (by simp [AS.ev, AS.put] <;> exact rfl) (by simp [AS.ev, AS.put] <;> exact rfl) e2 rfl rfl ?_)
  refine areg_end (by simp [runPre, AOp.ex, AOp.ex0, ex_mov, ex_bin, binA_lit, ex_cvt, ex_iaddrA, ex_iaddrS, ex_faddr, ex_load, ldA, ex_ext, ex_add64, add64A_un, ex_pick, ex_beq, ex_un, ex_len, lenA_sl, lenA_nil, lenA_str, lenA_own, lenRow_row, elA_own, elA_sl, elRow_row, ex_nilc, ex_build, ex_bslice, ex_fieldv, AOp.ro, AS.ev, AS.put, AS.fieldAddr, idxA_ptr, idxA_cptr, AS.peek, AS.poke, AS.blk, AS.setBlk, AV.nav, AV.upd, Blk.loc, Blk.cont, Blk.n, Blk.may, Blk.upd, AV.isAgg, AV.isTup, AV.sz, unVal, ownOk, fillAV, AV.sub, cvt_64j, cvt_64b, cvt_64w, cvt_8u, cvt_8w, bin_add64, bin_mul64, bin_sub64, bin_and51, bin_and32, bin_and1, bin_and8_1, bin_or64, bin_xor64, bin_or8, bin_shl64, bin_shl64j, bin_shr64, bin_shr64j, bin_shl8j, bin_shr8j, bin_quo64, bin_rem64, bin_quo32, bin_rem32, bin_addj, bin_subj, bin_quoj, bin_remj, bin_eqlj, bin_neqj, bin_lssj, bin_leqj, bin_gtrj, bin_geqj, bin_eql64, bin_lss64, bin_gtr64, bin_eql8, bin_rem8, lenA_tx, ex_prim, primA_some, AS.lits, prim_ix, prim_sub, prim_sub2, prim_min, prim_ib, ex_b2s, textOf_eq, textA_sl, textA_nil, lend_own, lendRow_row, lend_sl, lend_lit, bin_adds, bin_eqls, bin_neqs, bin_geq8, bin_leq8, bin_lss8, bin_gtr8, bin_neq8, bin_sub8, bin_quo8, bin_add8, bin_mulj, cvt_j8, cvt_8j]; exact rfl) ?_
  repeat (first | (with_reducible apply wp_sr); focus (simp [runPre, AOp.ex, AOp.ex0, ex_mov, ex_bin, binA_lit, ex_cvt, ex_iaddrA, ex_iaddrS, ex_faddr, ex_load, ldA, ex_ext, ex_add64, add64A_un, ex_pick, ex_beq, ex_un, ex_len, lenA_sl, lenA_nil, lenA_str, lenA_own, lenRow_row, elA_own, elA_sl, elRow_row, ex_nilc, ex_build, ex_bslice, ex_fieldv, AOp.ro, AS.ev, AS.put, AS.fieldAddr, idxA_ptr, idxA_cptr, AS.peek, AS.poke, AS.blk, AS.setBlk, AV.nav, AV.upd, Blk.loc, Blk.cont, Blk.n, Blk.may, Blk.upd, AV.isAgg, AV.isTup, AV.sz, unVal, ownOk, fillAV, AV.sub, cvt_64j, cvt_64b, cvt_64w, cvt_8u, cvt_8w, bin_add64, bin_mul64, bin_sub64, bin_and51, bin_and32, bin_and1, bin_and8_1, bin_or64, bin_xor64, bin_or8, bin_shl64, bin_shl64j, bin_shr64, bin_shr64j, bin_shl8j, bin_shr8j, bin_quo64, bin_rem64, bin_quo32, bin_rem32, bin_addj, bin_subj, bin_quoj, bin_remj, bin_eqlj, bin_neqj, bin_lssj, bin_leqj, bin_gtrj, bin_geqj, bin_eql64, bin_lss64, bin_gtr64, bin_eql8, bin_rem8, lenA_tx, ex_prim, primA_some, AS.lits, prim_ix, prim_sub, prim_sub2, prim_min, prim_ib, ex_b2s, textOf_eq, textA_sl, textA_nil, lend_own, lendRow_row, lend_sl, lend_lit, bin_adds, bin_eqls, bin_neqs, bin_geq8, bin_leq8, bin_lss8, bin_gtr8, bin_neq8, bin_sub8, bin_quo8, bin_add8, bin_mulj, cvt_j8, cvt_8j]; exact rfl) | (with_reducible apply wp_r); focus (simp [runPre, AOp.ex, AOp.ex0, ex_mov, ex_bin, binA_lit, ex_cvt, ex_iaddrA, ex_iaddrS, ex_faddr, ex_load, ldA, ex_ext, ex_add64, add64A_un, ex_pick, ex_beq, ex_un, ex_len, lenA_sl, lenA_nil, lenA_str, lenA_own, lenRow_row, elA_own, elA_sl, elRow_row, ex_nilc, ex_build, ex_bslice, ex_fieldv, AOp.ro, AS.ev, AS.put, AS.fieldAddr, idxA_ptr, idxA_cptr, AS.peek, AS.poke, AS.blk, AS.setBlk, AV.nav, AV.upd, Blk.loc, Blk.cont, Blk.n, Blk.may, Blk.upd, AV.isAgg, AV.isTup, AV.sz, unVal, ownOk, fillAV, AV.sub, cvt_64j, cvt_64b, cvt_64w, cvt_8u, cvt_8w, bin_add64, bin_mul64, bin_sub64, bin_and51, bin_and32, bin_and1, bin_and8_1, bin_or64, bin_xor64, bin_or8, bin_shl64, bin_shl64j, bin_shr64, bin_shr64j, bin_shl8j, bin_shr8j, bin_quo64, bin_rem64, bin_quo32, bin_rem32, bin_addj, bin_subj, bin_quoj, bin_remj, bin_eqlj, bin_neqj, bin_lssj, bin_leqj, bin_gtrj, bin_geqj, bin_eql64, bin_lss64, bin_gtr64, bin_eql8, bin_rem8, lenA_tx, ex_prim, primA_some, AS.lits, prim_ix, prim_sub, prim_sub2, prim_min, prim_ib, ex_b2s, textOf_eq, textA_sl, textA_nil, lend_own, lendRow_row, lend_sl, lend_lit, bin_adds, bin_eqls, bin_neqs, bin_geq8, bin_leq8, bin_lss8, bin_gtr8, bin_neq8, bin_sub8, bin_quo8, bin_add8, bin_mulj, cvt_j8, cvt_8j]; exact rfl) | (with_reducible refine wp_seq' (wp_cond_t ?_ ?_)); focus (simp [AS.ev]; done) | (with_reducible refine wp_seq' (wp_cond_f ?_ ?_)); focus (simp [AS.ev]; done) | (with_reducible refine wp_cond_t ?_ ?_); focus (simp [AS.ev]; done) | (with_reducible refine wp_cond_f ?_ ?_); focus (simp [AS.ev]; done) | with_reducible refine wp_seq' ?_ | with_reducible refine wp_block' ?_ | with_reducible refine wp_skip' ?_ | with_reducible refine wp_exit' ?_ | with_reducible refine wp_ret' ?_ | with_reducible refine if_hit rfl ?_ | with_reducible refine if_miss (by decide) ?_ | with_reducible refine loopN_succ ?_)
  refine fin_tmp (by simp [RVal, AS.coe, tt, AS.ev]) (by simp)
end Go.Cab

/- Token: what is cut, by what stands there alone. -/
namespace Go.Cab

/-- A token that begins elsewhere. -/
def Out.shift (i : Nat) : Out → Out
  | .err e => .err e
  | .tok t n => .tok ⟨t.kind, i, t.n, t.text⟩ (i + n)

theorem byteAt_drop (s : List UInt8) (i : Nat) : byteAt s i = byteAt (s.drop i) 0 := by
  unfold byteAt
  rw [List.getElem?_drop, Nat.add_zero]

theorem oneO_shift (s : List UInt8) (i : Nat) (hi : i ≤ s.length) : oneO s i = (oneO (s.drop i) 0).shift i := by
  have e0 : (s.drop i)[0]? = s[i]? := by rw [List.getElem?_drop, Nat.add_zero]
  unfold oneO
  rw [e0]
  cases s[i]? with
  | none => rfl
  | some b =>
    simp only
    split
    · simp only [nameO, List.drop_zero, Nat.zero_add]
      split <;> rfl
    · split
      · simp only [numberO, List.drop_zero, Nat.zero_add, ← byteAt_drop]
        split
        · rfl
        · split <;> rfl
      · split
        · simp only [textO, Nat.zero_add, List.drop_drop]
          cases hr : textR [] (s.drop (i + 1)) with
          | inl e => rfl
          | inr x =>
            obtain ⟨out, rest⟩ := x
            have := textR_len _ _ _ _ _ (Nat.le_refl _) hr
            rw [List.length_drop] at this
            simp only
            split
            · rfl
            · simp only [Out.shift, List.length_drop]
              congr 1
              omega
        · split <;> rfl

/-- What may follow a token. -/
def endB : List UInt8 → Prop
  | [] => True
  | b :: _ => isLD b.toNat = false

def hdNo (p : Nat → Bool) : List UInt8 → Prop
  | [] => True
  | b :: _ => p b.toNat = false
theorem hdNo_of {y : List UInt8} (h : endB y) : hdNo isLD y := by
  cases y with
  | nil => trivial
  | cons c y => exact h
theorem hdNo_dig {y : List UInt8} (h : endB y) : hdNo isDig y := by
  cases y with
  | nil => trivial
  | cons c y =>
    simp only [endB, isLD, Bool.or_eq_false_iff] at h
    exact h.2
theorem runN_app {p : Nat → Bool} : ∀ {w r : List UInt8}, (∀ b ∈ w, p b.toNat = true) → hdNo p r → runN p (w ++ r) = w.length
  | [], [], _, _ => rfl
  | [], b :: r, _, h => by
    show runN p (b :: r) = 0
    unfold runN; rw [if_neg (by simp only [hdNo] at h; simp [h])]
  | b :: w, r, hw, h => by
    show runN p (b :: (w ++ r)) = w.length + 1
    unfold runN
    rw [if_pos (hw b (by simp)), runN_app (fun c hc => hw c (by simp [hc])) h]
theorem runN_all {p : Nat → Bool} : ∀ {l : List UInt8}, ∀ b ∈ l.take (runN p l), p b.toNat = true
  | [], b, h => by simp at h
  | a :: l, b, h => by
    unfold runN at h
    split at h
    · rename_i ha
      rw [List.take_succ_cons, List.mem_cons] at h
      rcases h with rfl | h
      · exact ha
      · exact runN_all b h
    · simp at h
theorem runN_hd {p : Nat → Bool} : ∀ l : List UInt8, hdNo p (l.drop (runN p l))
  | [] => trivial
  | b :: l => by
    unfold runN
    split
    · rw [List.drop_succ_cons]; exact runN_hd l
    · rename_i hb
      simpa [hdNo] using hb
theorem numN_app : ∀ {w r : List UInt8} {n : Nat}, (∀ b ∈ w, isDig b.toNat = true) → hdNo isDig r → numN n (w ++ r) = numN n w
  | [], [], n, _, _ => rfl
  | [], b :: r, n, _, h => by
    show numN n (b :: r) = n
    unfold numN; rw [if_neg (by simp only [hdNo] at h; simp [h])]
  | b :: w, r, n, hw, h => by
    show numN n (b :: (w ++ r)) = numN n (b :: w)
    unfold numN
    rw [if_pos (hw b (by simp)), if_pos (hw b (by simp)), numN_app (fun c hc => hw c (by simp [hc])) h]

/-- The bytes that esc takes alone count. -/
theorem esc_app {t y : List UInt8} {x : UInt8} {n : Nat} (h : esc t = .ok x n) : esc (t.take n ++ y) = .ok x n := by
  unfold esc at h
  split at h
  · cases h
  · rename_i a t
    split at h
    · rename_i ha
      cases h
      exact if_pos ha
    · rename_i ha
      split at h
      · rename_i h120
        unfold esc2 at h
        split at h
        · cases h
        · rename_i c t
          split at h
          · cases h
          · rename_i v hv
            split at h
            · cases h
            · rename_i d t
              split at h
              · cases h
              · rename_i u hu
                cases h
                show esc (a :: c :: d :: y) = _
                simp [esc, ha, h120, esc2, hv, hu]
      · cases h

theorem textR_app : ∀ (n : Nat) (acc l out rest : List UInt8), l.length ≤ n → textR acc l = .inr (out, rest) → ∃ w, l = w ++ rest ∧ ∀ y, textR acc (w ++ y) = .inr (out, y)
  | 0, acc, l, out, rest, hn, h => by
    have : l = [] := List.eq_nil_of_length_eq_zero (by omega)
    subst this; rw [textR] at h; cases h
  | n + 1, acc, [], out, rest, hn, h => by rw [textR] at h; cases h
  | n + 1, acc, b :: t, out, rest, hn, h => by
    rw [textR] at h
    simp only [List.length_cons] at hn
    split at h
    · rename_i h34
      cases h
      exact ⟨[b], rfl, fun y => by show textR _ (b :: y) = _; rw [textR, if_pos h34]⟩
    · rename_i h34
      split at h
      · rename_i h92
        split at h
        · cases h
        · cases h
        · rename_i x m hx
          obtain ⟨w, e, hw⟩ := textR_app n _ _ _ _ (by rw [List.length_drop]; omega) h
          obtain ⟨m1, m3, ml⟩ := esc_ok hx
          refine ⟨b :: (t.take m ++ w), ?_, fun y => ?_⟩
          · show b :: t = b :: (t.take m ++ w ++ rest)
            rw [List.append_assoc, ← e, List.take_append_drop]
          · show textR acc (b :: (t.take m ++ w ++ y)) = _
            rw [textR, if_neg h34, if_pos h92, List.append_assoc, esc_app hx]
            simp only
            rw [List.drop_left' (by simp; omega), hw]
      · rename_i h92
        split at h
        · cases h
        · rename_i h32
          obtain ⟨w, e, hw⟩ := textR_app n _ _ _ _ (by omega) h
          refine ⟨b :: w, by rw [e]; rfl, fun y => ?_⟩
          show textR acc (b :: (w ++ y)) = _
          rw [textR, if_neg h34, if_neg h92, if_neg h32, hw]

/-- A token hangs on its own bytes, and on one behind it. -/
theorem oneO_app {l : List UInt8} {t : Tok} {n : Nat} (h : oneO l 0 = .tok t n) {y : List UInt8} (hy : endB y) : oneO (l.take n ++ y) 0 = .tok t n := by
  obtain ⟨n0, nl⟩ := oneO_tok h
  have hd : ∀ b y, l = b :: y → ∃ z, l.take n = b :: z := fun b y e => by
    subst e
    cases n with
    | zero => omega
    | succ n => exact ⟨_, List.take_succ_cons⟩
  cases l with
  | nil => simp at nl; omega
  | cons b l' =>
    obtain ⟨z, hz⟩ := hd b l' rfl
    generalize hl : b :: l' = l at *
    have e0 : l[0]? = some b := by rw [← hl]; rfl
    have e1 : (l.take n ++ y)[0]? = some b := by rw [hz]; rfl
    have ylen : (l.take n).length = n := by simp; omega
    unfold oneO at h ⊢
    rw [e0] at h
    rw [e1]
    simp only at h ⊢
    split at h
    · rename_i hlet
      unfold nameO at h ⊢
      simp only [List.drop_zero, Nat.zero_add] at h ⊢
      split at h
      · cases h
      · rename_i h12
        cases h
        have hr : runN isLD (l.take (runN isLD l) ++ y) = runN isLD l := by
          rw [runN_app runN_all (hdNo_of hy), ylen]
        simp only [if_pos hlet]; rw [hr, if_neg h12, List.take_left' ylen]
    · rename_i hlet
      split at h
      · rename_i hdig
        unfold numberO at h ⊢
        simp only [List.drop_zero, Nat.zero_add] at h ⊢
        split at h
        · cases h
        · rename_i h48
          split at h
          · cases h
          · rename_i h9
            cases h
            have hyd : hdNo isDig y := hdNo_dig hy
            have hr : runN isDig (l.take (runN isDig l) ++ y) = runN isDig l := by
              rw [runN_app runN_all hyd, ylen]
            have hnn : numN 0 (l.take (runN isDig l) ++ y) = numN 0 l := by
              rw [numN_app runN_all hyd]
              have h2 : hdNo isDig (l.drop (runN isDig l)) := runN_hd l
              have h3 := numN_app (n := 0) (runN_all (p := isDig) (l := l)) h2
              rw [List.take_append_drop] at h3
              exact h3.symm
            have hb0 : byteAt (l.take (runN isDig l) ++ y) 0 = byteAt l 0 := by simp only [byteAt, e0, e1]
            simp only [if_neg hlet, if_pos hdig]; rw [hb0, hr, hnn, if_neg h48, if_neg h9]
      · rename_i hdig
        split at h
        · rename_i h34
          unfold textO at h ⊢
          rw [if_neg hlet, if_neg hdig, if_pos h34]
          simp only [Nat.zero_add] at h ⊢
          split at h
          · cases h
          · rename_i out rest hr
            split at h
            · cases h
            · rename_i h64
              cases h
              obtain ⟨w, e, hw⟩ := textR_app _ _ _ _ _ (Nat.le_refl _) hr
              have hl1 : l.drop 1 = l' := by rw [← hl]; rfl
              rw [hl1] at e
              have e3 : l.take (l.length - rest.length) = b :: w := by
                rw [← hl, e]
                have : (b :: (w ++ rest)).length - rest.length = (b :: w).length := by simp; omega
                rw [this]
                exact List.take_left' (l₁ := b :: w) rfl
              have e4 : (b :: w).length = l.length - rest.length := by rw [← e3, ylen]
              rw [e3]
              show (match textR [] (w ++ y) with | .inl e => Out.err e | .inr (out, rest) => _) = _
              rw [hw y]
              simp only
              rw [if_neg h64]
              congr 1
              rw [List.length_append, e4]
              omega
        · rename_i h34
          rw [if_neg hlet, if_neg hdig, if_neg h34]
          split at h
          · rename_i hs
            cases h
            rw [if_pos hs]
          · cases h

theorem skipN_cons (r : Bool) (b : UInt8) (t : List UInt8) : skipN r (b :: t) = if b.toNat = 10 then skipN false t + 1 else if r = true ∨ b.toNat = 32 ∨ b.toNat = 9 then skipN r t + 1 else if b.toNat = 35 then skipN true t + 1 else 0 := rfl
/-- A token begins with no blank. -/
theorem oneO_skip {l : List UInt8} {t : Tok} {n : Nat} (h : oneO l 0 = .tok t n) (y : List UInt8) : skipN false (l.take n ++ y) = 0 := by
  obtain ⟨n0, nl⟩ := oneO_tok h
  cases l with
  | nil => simp at nl; omega
  | cons b l =>
    cases n with
    | zero => omega
    | succ n =>
      rw [List.take_succ_cons]
      show skipN false (b :: (l.take n ++ y)) = 0
      have hb : isLet b.toNat = true ∨ isDig b.toNat = true ∨ b.toNat = 34 ∨ signB b = true := by
        unfold oneO at h
        simp only [List.getElem?_cons_zero] at h
        split at h
        · left; assumption
        · split at h
          · right; left; assumption
          · split at h
            · right; right; left; assumption
            · split at h
              · right; right; right; assumption
              · cases h
      have hk : b.toNat ≠ 10 ∧ b.toNat ≠ 32 ∧ b.toNat ≠ 9 ∧ b.toNat ≠ 35 := by
        revert hb
        have : ∀ b : UInt8, isLet b.toNat = true ∨ isDig b.toNat = true ∨ b.toNat = 34 ∨ signB b = true → b.toNat ≠ 10 ∧ b.toNat ≠ 32 ∧ b.toNat ≠ 9 ∧ b.toNat ≠ 35 := by
          refine u8_all ?_
          decide +kernel
        exact this b
      rw [skipN_cons]
      rw [if_neg hk.1, if_neg (by simp [hk]), if_neg hk.2.2.2]

/-- Blanks and remarks up to a line's end. -/
theorem skipN_line : ∀ {b : List UInt8} {rest : List UInt8} {r : Bool}, b.length ≤ skipN r (b ++ rest) → ∀ x, skipN r (b ++ 10 :: x) = b.length + 1 + skipN false x
  | [], rest, r, _, x => by
    show skipN r (10 :: x) = _
    rw [skipN_cons, if_pos (by decide)]
    simp; omega
  | c :: b, rest, r, h, x => by
    have h' : b.length + 1 ≤ skipN r (c :: (b ++ rest)) := h
    show skipN r (c :: (b ++ 10 :: x)) = b.length + 1 + 1 + skipN false x
    rw [skipN_cons] at h' ⊢
    split
    · rename_i h10
      rw [if_pos h10] at h'
      rw [skipN_line (rest := rest) (by omega) x]; omega
    · rename_i h10
      rw [if_neg h10] at h'
      split
      · rename_i hc
        rw [if_pos hc] at h'
        rw [skipN_line (rest := rest) (by omega) x]; omega
      · rename_i hc
        rw [if_neg hc] at h'
        split
        · rename_i h35
          rw [if_pos h35] at h'
          rw [skipN_line (rest := rest) (by omega) x]; omega
        · rename_i h35
          rw [if_neg h35] at h'
          omega
theorem skipN_rem : ∀ {b : List UInt8}, (∀ c ∈ b, c.toNat ≠ 10) → ∀ x, skipN true (b ++ 10 :: x) = b.length + 1 + skipN false x
  | [], _, x => by
    show skipN true (10 :: x) = _
    rw [skipN_cons, if_pos (by decide)]
    simp; omega
  | c :: b, h, x => by
    show skipN true (c :: (b ++ 10 :: x)) = b.length + 1 + 1 + skipN false x
    rw [skipN_cons]
    rw [if_neg (h c (by simp)), if_pos (.inl rfl), skipN_rem (fun d hd => h d (by simp [hd])) x]
    omega
theorem skipN_sp (x : List UInt8) : skipN false (32 :: x) = 1 + skipN false x := by
  rw [skipN_cons, if_neg (by decide), if_pos (by decide)]; omega
theorem skipN_tab (x : List UInt8) : skipN false (9 :: x) = 1 + skipN false x := by
  rw [skipN_cons, if_neg (by decide), if_pos (by decide)]; omega
theorem skipN_nl (x : List UInt8) : skipN false (10 :: x) = 1 + skipN false x := by
  rw [skipN_cons, if_pos (by decide)]; omega
theorem skipN_hash (x : List UInt8) : skipN false (35 :: x) = 1 + skipN true x := by
  rw [skipN_cons, if_neg (by decide), if_neg (by decide), if_pos (by decide)]; omega
/-- What stands behind what is skipped is no blank, and begins no remark; or nothing. -/
def gapOk (g : List UInt8) : Prop := ∀ x, skipN false (g ++ x) = g.length + skipN false x
theorem gap0 : gapOk [32] := fun x => skipN_sp x
theorem gap1 : gapOk [10, 9, 32] := fun x => by
  show skipN false (10 :: 9 :: 32 :: x) = 3 + _
  rw [skipN_nl, skipN_tab, skipN_sp]; omega
theorem gap2 {rem : List UInt8} (h : ∀ c ∈ rem, c.toNat ≠ 10) : gapOk (35 :: (rem ++ [10])) := fun x => by
  show skipN false (35 :: (rem ++ [10] ++ x)) = _
  rw [skipN_hash, List.append_assoc]
  show 1 + skipN true (rem ++ 10 :: x) = _
  rw [skipN_rem h]; simp; omega
theorem gap3 {rem : List UInt8} (h : ∀ c ∈ rem, c.toNat ≠ 10) : gapOk (32 :: 35 :: 32 :: (rem ++ [10, 32, 32])) := fun x => by
  show skipN false (32 :: 35 :: (32 :: (rem ++ [10, 32, 32] ++ x))) = _
  rw [skipN_sp, skipN_hash, List.append_assoc]
  have e : skipN true ((32 :: rem) ++ 10 :: 32 :: 32 :: x) = (32 :: rem).length + 1 + skipN false (32 :: 32 :: x) := skipN_rem (fun c hc => by
    rcases List.mem_cons.1 hc with rfl | hc
    · decide
    · exact h c hc) _
  have e2 : skipN true (32 :: (rem ++ ([10, 32, 32] ++ x))) = (32 :: rem).length + 1 + skipN false (32 :: 32 :: x) := e
  rw [e2, skipN_sp, skipN_sp]; simp; omega
end Go.Cab

/- Token: the laws, without the program. -/
namespace Go.Cab

/-- What a token is, wherever it begins. -/
def Tok.key (t : Tok) : Nat × Nat × List UInt8 := (t.kind, t.n, t.text)
theorem sameT_of {a b : List Tok} (h : a.map Tok.key = b.map Tok.key) : sameT a b := by
  refine ⟨by simpa using congrArg List.length h, fun i x y hx hy => ?_⟩
  have := congrArg (fun l => l[i]?) h
  simp only [List.getElem?_map, hx, hy, Option.map_some, Option.some.injEq, Tok.key, Prod.mk.injEq] at this
  exact this

/-- The tokens of a text, from where one begins. -/
inductive Parse (s : List UInt8) : Nat → List Tok → Prop
  | nil (k : Nat) : s.length ≤ k → Parse s k []
  | cons (k i' : Nat) (t : Tok) (ts : List Tok) : k < s.length → oneO s k = .tok t i' → Parse s (i' + skipN false (s.drop i')) ts → Parse s k (t :: ts)

theorem parse_of {s : List UInt8} : ∀ (n k : Nat) (acc out : List Tok), s.length - k ≤ n → cutW s k acc = .inr out → ∃ ts, out = acc ++ ts ∧ Parse s k ts
  | n, k, acc, out, hn, h => by
    rw [cutW] at h
    by_cases hk : k < s.length
    · rw [dif_pos hk] at h
      cases ho : oneO s k with
      | err e => rw [ho] at h; cases h
      | tok t i' =>
        rw [ho] at h
        simp only at h
        obtain ⟨b1, b2⟩ := oneO_tok ho
        rw [dif_pos b1] at h
        cases n with
        | zero => omega
        | succ n =>
          obtain ⟨ts, e, hp⟩ := parse_of n _ _ _ (by omega) h
          exact ⟨t :: ts, by rw [e]; simp, .cons k i' t ts hk ho hp⟩
    · rw [dif_neg hk] at h
      cases h
      exact ⟨[], by simp, .nil k (by omega)⟩

theorem cutW_of {s : List UInt8} {k : Nat} {ts : List Tok} (h : Parse s k ts) : ∀ acc, cutW s k acc = .inr (acc ++ ts) := by
  induction h with
  | nil k hk => intro acc; rw [cutW, dif_neg (by omega), List.append_nil]
  | cons k i' t ts hk ho _ ih =>
    intro acc
    obtain ⟨b1, b2⟩ := oneO_tok ho
    rw [cutW, dif_pos hk, ho]
    simp only
    rw [dif_pos b1, ih]
    simp

/-- The same, by what is left. -/
inductive PL : List UInt8 → List Tok → Prop
  | nil : PL [] []
  | cons (l : List UInt8) (t u : Tok) (n : Nat) (ts : List Tok) : oneO l 0 = .tok u n → u.key = t.key → PL ((l.drop n).drop (skipN false (l.drop n))) ts → PL l (t :: ts)

theorem parse_PL {l : List UInt8} {ts : List Tok} (h : PL l ts) : ∀ (s : List UInt8) (k : Nat), k ≤ s.length → s.drop k = l → ∃ us, Parse s k us ∧ us.map Tok.key = ts.map Tok.key := by
  induction h with
  | nil =>
    intro s k hk e
    have : s.length - k = 0 := by rw [← List.length_drop, e]; rfl
    exact ⟨[], .nil k (by omega), rfl⟩
  | cons l t u n ts ho hu _ ih =>
    intro s k hk e
    obtain ⟨b1, b2⟩ := oneO_tok ho
    have hl : l.length = s.length - k := by rw [← e, List.length_drop]
    have ho2 : oneO s k = .tok ⟨u.kind, k, u.n, u.text⟩ (k + n) := by rw [oneO_shift s k hk, e, ho]; rfl
    have e2 : l.drop n = s.drop (k + n) := by rw [← e, List.drop_drop]
    have hsk := skipN_le (s.drop (k + n)) false
    rw [List.length_drop] at hsk
    obtain ⟨us, hp, hus⟩ := ih s (k + n + skipN false (s.drop (k + n))) (by omega) (by rw [e2, List.drop_drop])
    exact ⟨_ :: us, .cons k (k + n) _ us (by omega) ho2 hp, by rw [List.map_cons, List.map_cons, hus, ← hu]; rfl⟩

/-- Where the next token begins; or the text's end. -/
def nextP (s : List UInt8) : List Tok → Nat
  | [] => s.length
  | t :: _ => t.pos

/-- Every token as it stands, with the blanks behind it, and others ahead. -/
def spread (s : List UInt8) (g : Nat → List UInt8) : Nat → List Tok → List UInt8
  | _, [] => []
  | i, t :: ts => g i ++ ((s.take (nextP s ts)).drop t.pos ++ 10 :: spread s g (i + 1) ts)

theorem oneO_pos {s : List UInt8} {k i' : Nat} {t : Tok} (hk : k ≤ s.length) (h : oneO s k = .tok t i') : t.pos = k ∧ ∃ u n, oneO (s.drop k) 0 = .tok u n ∧ u.key = t.key ∧ i' = k + n := by
  rw [oneO_shift s k hk] at h
  cases ho : oneO (s.drop k) 0 with
  | err e => rw [ho] at h; cases h
  | tok u n =>
    rw [ho] at h
    cases h
    exact ⟨rfl, u, n, rfl, rfl, rfl⟩

theorem parse_next {s : List UInt8} {k : Nat} {ts : List Tok} (hk : k ≤ s.length) (h : Parse s k ts) : nextP s ts = k := by
  cases h with
  | nil _ h => show s.length = k; omega
  | cons _ i' t ts h ho _ => exact (oneO_pos hk ho).1

theorem endB_sk {b y : List UInt8} (h : b.length ≤ skipN false (b ++ y)) (x : List UInt8) : endB (b ++ 10 :: x) := by
  cases b with
  | nil => show isLD 10 = false; decide
  | cons c b =>
    show isLD c.toNat = false
    have h' : b.length + 1 ≤ skipN false (c :: (b ++ y)) := h
    rw [skipN_cons] at h'
    have hc : c.toNat = 10 ∨ c.toNat = 32 ∨ c.toNat = 9 ∨ c.toNat = 35 := by
      by_cases h1 : c.toNat = 10
      · exact .inl h1
      · rw [if_neg h1] at h'
        by_cases h2 : c.toNat = 32 ∨ c.toNat = 9
        · exact .inr (h2.elim .inl fun h => .inr (.inl h))
        · rw [if_neg (by simp [h2])] at h'
          by_cases h3 : c.toNat = 35
          · exact .inr (.inr (.inr h3))
          · rw [if_neg h3] at h'; omega
    rcases hc with h | h | h | h <;> rw [h] <;> decide

theorem spread_PL {s : List UInt8} {g : Nat → List UInt8} (hg : ∀ i, gapOk (g i)) {k : Nat} {ts : List Tok} (h : Parse s k ts) : k ≤ s.length → ∀ i, PL ((spread s g i ts).drop (skipN false (spread s g i ts))) ts := by
  induction h with
  | nil k _ => intro _ i; exact .nil
  | cons k i' t ts hlt ho hp ih =>
    intro hk i
    obtain ⟨hpos, u, n, ho2, hu, rfl⟩ := oneO_pos hk ho
    obtain ⟨b1, b2⟩ := oneO_tok ho
    have hsk := skipN_le (s.drop (k + n)) false
    rw [List.length_drop] at hsk
    have hk2 : k + n + skipN false (s.drop (k + n)) ≤ s.length := by omega
    have hi := ih hk2 (i + 1)
    have hnx := parse_next hk2 hp
    show PL ((g i ++ ((s.take (nextP s ts)).drop t.pos ++ 10 :: spread s g (i + 1) ts)).drop _) _
    rw [spread, hnx, hpos]
    generalize spread s g (i + 1) ts = X at *
    have eseg : (s.take (k + n + skipN false (s.drop (k + n)))).drop k = (s.drop k).take n ++ (s.drop (k + n)).take (skipN false (s.drop (k + n))) := by
      rw [List.drop_take, show k + n + skipN false (s.drop (k + n)) - k = n + skipN false (s.drop (k + n)) by omega, List.take_add, List.drop_drop]
    rw [eseg, List.append_assoc]
    generalize hbg : (s.drop (k + n)).take (skipN false (s.drop (k + n))) = b at *
    have hbl : b.length = skipN false (s.drop (k + n)) := by rw [← hbg]; simp; omega
    have hb : b.length ≤ skipN false (b ++ (s.drop (k + n)).drop (skipN false (s.drop (k + n)))) := by
      conv => rhs; rw [← hbg, List.take_append_drop]
      omega
    have hw := oneO_app ho2 (endB_sk hb X)
    have hs0 := oneO_skip ho2 (b ++ 10 :: X)
    have hwl : ((s.drop k).take n).length = n := by simp; omega
    generalize (s.drop k).take n = w at *
    rw [hg i, hs0, Nat.add_zero, List.drop_left' rfl]
    refine .cons _ t u n ts hw hu ?_
    rw [List.drop_left' hwl, skipN_line hb X]
    have e3 : (b ++ 10 :: X).drop (b.length + 1 + skipN false X) = X.drop (skipN false X) := by
      rw [show b.length + 1 + skipN false X = b.length + (1 + skipN false X) by omega, ← List.drop_drop, List.drop_left' rfl, Nat.add_comm, List.drop_succ_cons]
    rw [e3]
    exact hi

theorem cut_PL {T : List UInt8} {ts : List Tok} (h : PL (T.drop (skipN false T)) ts) (hl : T.length ≤ 4000) : ∃ us, cutA T = [.sl 4 (toksA us), .lit (jn 0), .lit (jn 0)] ∧ us.map Tok.key = ts.map Tok.key := by
  obtain ⟨us, hp, hus⟩ := parse_PL h T _ (skipN_le T false) rfl
  refine ⟨us, ?_, hus⟩
  unfold cutA
  rw [if_neg (by omega), cutW_of hp]
  rfl

/-- What is cut, or why not. -/
theorem cutA_cases (s : List UInt8) : (∃ k e, e ≠ 0 ∧ cutA s = [.lit (.slice none 0 0), .lit (jn k), .lit (jn e)]) ∨ (∃ ts, cutA s = [.sl 4 (toksA ts), .lit (jn 0), .lit (jn 0)] ∧ Parse s (skipN false s) ts) := by
  unfold cutA
  split
  · exact .inl ⟨0, 24, by decide, rfl⟩
  · have herr : ∀ (n k : Nat) (acc : List Tok) (x : Nat × Nat), s.length - k ≤ n → cutW s k acc = .inl x → x.2 ≠ 0 := by
      intro n
      induction n with
      | zero =>
        intro k acc x hn h
        rw [cutW, dif_neg (by omega)] at h
        cases h
      | succ n ih =>
        intro k acc x hn h
        rw [cutW] at h
        split at h
        · split at h
          · cases h
            rename_i ho
            exact oneO_err ho
          · split at h
            · rename_i b1
              exact ih _ _ _ (by omega) h
            · cases h
        · cases h
    cases hc : cutW s (skipN false s) [] with
    | inl x => exact .inl ⟨x.1, x.2, herr _ _ _ _ (Nat.le_refl _) hc, rfl⟩
    | inr out =>
      obtain ⟨ts, e, hp⟩ := parse_of _ _ _ _ (Nat.le_refl _) hc
      simp only [List.nil_append] at e
      subst e
      exact .inr ⟨out, rfl, hp⟩

/-- There are no more tokens than bytes. -/
theorem parse_len {s : List UInt8} {k : Nat} {ts : List Tok} (h : Parse s k ts) : k ≤ s.length → ts.length ≤ s.length - k := by
  induction h with
  | nil k _ => intro _; simp
  | cons k i' t ts hlt ho hp ih =>
    intro hk
    obtain ⟨b1, b2⟩ := oneO_tok ho
    have hsk := skipN_le (s.drop i') false
    rw [List.length_drop] at hsk
    have := ih (by omega)
    simp only [List.length_cons]
    omega
end Go.Cab

/- Token: a token that is written is cut back, without the program. -/
namespace Go.Cab

/-- What a token may be. -/
inductive Good : Tok → Prop
  | name (p : Nat) (b : UInt8) (l : List UInt8) : isLet b.toNat = true → (∀ c ∈ b :: l, isLD c.toNat = true) → (b :: l).length ≤ 12 → Good ⟨1, p, 0, b :: l⟩
  | num (p n : Nat) : n ≤ 999999999 → Good ⟨2, p, n, []⟩
  | text (p : Nat) (l : List UInt8) : l.length ≤ 64 → Good ⟨3, p, 0, l⟩
  | sign (p : Nat) (b : UInt8) : signB b = true → Good ⟨4, p, 0, [b]⟩

theorem good_of {s : List UInt8} {i i' : Nat} {t : Tok} (h : oneO s i = .tok t i') : Good t := by
  unfold oneO at h
  split at h
  · cases h
  · rename_i b hb
    have hi : i < s.length := (List.getElem?_eq_some_iff.1 hb).1
    obtain ⟨a, ha, hd, hy⟩ := drop_at hi
    have hab : a = b := Option.some.inj (ha.symm.trans hb)
    subst hab
    split at h
    · rename_i hl
      unfold nameO at h
      split at h
      · cases h
      · rename_i h12
        cases h
        have hr : runN isLD (s.drop i) = runN isLD (s.drop (i + 1)) + 1 := by
          rw [hd, runN, if_pos (by simp [isLD, hl])]
        have e : (s.drop i).take (runN isLD (s.drop i)) = a :: (s.drop (i + 1)).take (runN isLD (s.drop (i + 1))) := by
          rw [hr, hd, List.take_succ_cons]
        have hall := runN_all (p := isLD) (l := s.drop i)
        have hlen : ((s.drop i).take (runN isLD (s.drop i))).length ≤ 12 := by rw [List.length_take]; omega
        rw [e] at hall hlen ⊢
        exact .name _ _ _ hl hall hlen
    · split at h
      · unfold numberO at h
        split at h
        · cases h
        · split at h
          · cases h
          · cases h
            exact .num _ _ (by omega)
      · split at h
        · unfold textO at h
          split at h
          · cases h
          · split at h
            · cases h
            · cases h
              exact .text _ _ (by omega)
        · split at h
          · rename_i hs
            cases h
            exact .sign _ _ hs
          · cases h

theorem parse_good {s : List UInt8} {k : Nat} {ts : List Tok} (h : Parse s k ts) : ∀ t ∈ ts, Good t := by
  induction h with
  | nil => intro t ht; cases ht
  | cons k i' t ts _ ho _ ih =>
    intro u hu
    rcases List.mem_cons.1 hu with rfl | hu
    · exact good_of ho
    · exact ih u hu

/-- Digits. -/
theorem digit_of {d : Nat} (h : d < 10) : (UInt8.ofNat (48 + d)).toNat = 48 + d := by simp; omega
theorem isDig_of {d : Nat} (h : d < 10) : isDig (UInt8.ofNat (48 + d)).toNat = true := by
  rw [digit_of h]; simp [isDig]; omega
theorem digs_dig : ∀ (n : Nat), ∀ b ∈ digs n, isDig b.toNat = true := by
  intro n
  induction n using Nat.strongRecOn with
  | ind n ih =>
    intro b hb
    rw [digs] at hb
    split at hb
    · rename_i h
      simp only [List.mem_singleton] at hb
      rw [hb]; exact isDig_of h
    · rcases List.mem_append.1 hb with hb | hb
      · exact ih _ (by omega) b hb
      · simp only [List.mem_singleton] at hb
        rw [hb]; exact isDig_of (by omega)
theorem digs_num : ∀ (n : Nat), n ≤ 999999999 → ∀ y, numN 0 (digs n ++ y) = numN n y := by
  intro n
  induction n using Nat.strongRecOn with
  | ind n ih =>
    intro hn y
    rw [digs]
    split
    · rename_i h
      show numN 0 (_ :: y) = _
      rw [numN, if_pos (isDig_of h), digit_of h]
      congr 1
      omega
    · rw [List.append_assoc, ih _ (by omega) (by omega)]
      show numN (n / 10) (_ :: y) = _
      rw [numN, if_pos (isDig_of (by omega)), digit_of (by omega)]
      congr 1
      omega
theorem digs_head : ∀ (n : Nat), ∃ b l, digs n = b :: l ∧ (b.toNat = 48 → l = []) := by
  intro n
  have pos : ∀ n, n ≠ 0 → ∃ b l, digs n = b :: l ∧ b.toNat ≠ 48 := by
    intro n
    induction n using Nat.strongRecOn with
    | ind n ih =>
      intro hn
      rw [digs]
      split
      · rename_i h
        exact ⟨_, [], rfl, by rw [digit_of h]; omega⟩
      · obtain ⟨b, l, e, hb⟩ := ih (n / 10) (by omega) (by omega)
        exact ⟨b, _, by rw [e]; rfl, hb⟩
  by_cases h : n = 0
  · subst h
    exact ⟨_, [], by rw [digs]; rfl, fun _ => rfl⟩
  · obtain ⟨b, l, e, hb⟩ := pos n h
    exact ⟨b, l, e, fun h => absurd h hb⟩

/-- Texts. -/
theorem hexc_hx {n : Nat} (h : n < 16) : hx (hexc n) = some n := by
  have : ∀ n : _root_.Fin 16, hx (hexc n.val) = some n.val := by decide +kernel
  exact this ⟨n, h⟩
theorem escB_textR (b : UInt8) (acc y : List UInt8) : textR acc (escB b ++ y) = textR (acc ++ [b]) y := by
  unfold escB
  split
  · rename_i h
    show textR acc (92 :: b :: y) = _
    rw [textR, if_neg (by decide), if_pos (by decide)]
    have e : esc (b :: y) = .ok b 1 := if_pos h
    rw [e]
    rfl
  · rename_i h
    split
    · rename_i h32
      show textR acc (b :: y) = _
      rw [textR, if_neg (by omega), if_neg (by omega), if_neg (by omega)]
    · show textR acc (92 :: 120 :: hexc (b.toNat / 16) :: hexc (b.toNat % 16) :: y) = _
      have hb := b.toNat_lt
      rw [textR, if_neg (by decide), if_pos (by decide)]
      have e : esc (120 :: hexc (b.toNat / 16) :: hexc (b.toNat % 16) :: y) = .ok b 3 := by
        have e2 : b.toNat / 16 * 16 + b.toNat % 16 = b.toNat := by omega
        have e3 := hexc_hx (n := b.toNat / 16) (by omega)
        have e4 := hexc_hx (n := b.toNat % 16) (by omega)
        show esc2 (hexc (b.toNat / 16) :: hexc (b.toNat % 16) :: y) = _
        simp only [esc2, e3, e4, e2, UInt8.ofNat_toNat]
      rw [e]
      rfl
theorem escT_textR : ∀ (l acc y : List UInt8), textR acc (escT l ++ 34 :: y) = .inr (acc ++ l, y)
  | [], acc, y => by
    show textR acc (34 :: y) = _
    rw [textR, if_pos (by decide), List.append_nil]
  | b :: l, acc, y => by
    show textR acc (escB b ++ escT l ++ 34 :: y) = _
    rw [List.append_assoc, escB_textR, escT_textR l]
    simp

theorem sign_no (b : UInt8) : signB b = true → isLet b.toNat = false ∧ isDig b.toNat = false ∧ b.toNat ≠ 34 := by
  revert b
  refine u8_all ?_
  decide +kernel
theorem dig_no (b : UInt8) : isDig b.toNat = true → isLet b.toNat = false := by
  revert b
  refine u8_all ?_
  decide +kernel

/-- A token that is written, and what stands behind it. -/
theorem wr_cut {t : Tok} (h : Good t) {y : List UInt8} (hy : endB y) : ∃ u, oneO (wr t ++ y) 0 = .tok u (wr t).length ∧ u.key = t.key := by
  cases h with
  | name p b l hb hl h12 =>
    show ∃ u, oneO ((b :: l) ++ y) 0 = .tok u (b :: l).length ∧ _
    have hr : runN isLD ((b :: l) ++ y) = (b :: l).length := runN_app hl (hdNo_of hy)
    refine ⟨⟨1, 0, 0, b :: l⟩, ?_, rfl⟩
    have e : oneO ((b :: l) ++ y) 0 = nameO ((b :: l) ++ y) 0 := by
      unfold oneO
      show (if isLet b.toNat = true then _ else _) = _
      rw [if_pos hb]
    rw [e]
    unfold nameO
    rw [List.drop_zero, hr, if_neg (by omega), List.take_left' rfl, Nat.zero_add]
  | num p n hn =>
    show ∃ u, oneO (digs n ++ y) 0 = .tok u (digs n).length ∧ _
    obtain ⟨b, l, e, h0⟩ := digs_head n
    have hdg := digs_dig n
    have hr : runN isDig (digs n ++ y) = (digs n).length := runN_app hdg (hdNo_dig hy)
    have hn2 := digs_num n hn y
    have hn3 : numN n y = n := by
      have := numN_app (w := []) (n := n) (by simp) (hdNo_dig hy)
      exact this
    rw [hn3] at hn2
    have hb : isDig b.toNat = true := hdg b (by rw [e]; simp)
    refine ⟨⟨2, 0, n, []⟩, ?_, rfl⟩
    have e2 : oneO (digs n ++ y) 0 = numberO (digs n ++ y) 0 := by
      rw [e]
      unfold oneO
      show (if isLet b.toNat = true then _ else if isDig b.toNat = true then _ else _) = _
      rw [if_neg (by simp [dig_no b hb]), if_pos hb]
    rw [e2]
    unfold numberO
    rw [List.drop_zero, hr, hn2, if_neg ?_, if_neg (by omega), Nat.zero_add]
    rintro ⟨g1, g2⟩
    rw [e] at g1 g2
    have : l = [] := h0 g1
    subst this
    simp at g2
  | text p l h64 =>
    show ∃ u, oneO (34 :: (escT l ++ [34]) ++ y) 0 = .tok u (34 :: (escT l ++ [34])).length ∧ _
    refine ⟨⟨3, 0, 0, l⟩, ?_, rfl⟩
    have e2 : oneO (34 :: (escT l ++ [34]) ++ y) 0 = textO (34 :: (escT l ++ [34]) ++ y) 0 := rfl
    rw [e2]
    unfold textO
    have e3 : textR [] ((34 :: (escT l ++ [34]) ++ y).drop (0 + 1)) = .inr (l, y) := by
      have := escT_textR l [] y
      show textR [] (escT l ++ [34] ++ y) = _
      rw [List.append_assoc]
      exact this
    rw [e3]
    simp only
    rw [if_neg (by omega)]
    congr 1
    simp only [List.length_append, List.length_cons, List.length_nil]
    omega
  | sign p b hb =>
    show ∃ u, oneO (b :: y) 0 = .tok u 1 ∧ _
    obtain ⟨g1, g2, g3⟩ := sign_no b hb
    refine ⟨⟨4, 0, 0, [b]⟩, ?_, rfl⟩
    unfold oneO
    show (if isLet b.toNat = true then _ else if isDig b.toNat = true then _ else if b.toNat = 34 then _ else if signB b = true then _ else _) = _
    rw [if_neg (by simp [g1]), if_neg (by simp [g2]), if_neg g3, if_pos hb]

/-- The tokens, written one behind the other. -/
def wrAll (ts : List Tok) : List UInt8 := ts.flatMap fun t => wr t ++ [32]
theorem wrAll_PL : ∀ (ts : List Tok), (∀ t ∈ ts, Good t) → PL (wrAll ts) ts ∧ skipN false (wrAll ts) = 0
  | [], _ => ⟨.nil, rfl⟩
  | t :: ts, h => by
    obtain ⟨hp, hs⟩ := wrAll_PL ts fun u hu => h u (by simp [hu])
    have e : wrAll (t :: ts) = wr t ++ 32 :: wrAll ts := by simp [wrAll]
    obtain ⟨u, ho, hu⟩ := wr_cut (h t (by simp)) (y := 32 :: wrAll ts) (by show isLD 32 = false; decide)
    have hs0 := oneO_skip ho (32 :: wrAll ts)
    rw [List.take_left' rfl] at hs0
    rw [e]
    refine ⟨.cons _ t u _ ts ho hu ?_, hs0⟩
    rw [List.drop_left' rfl, skipN_sp, hs, Nat.add_zero, List.drop_succ_cons, List.drop_zero]
    exact hp

theorem good_wr {t : Tok} (h : Good t) : t.n < 4611686018427387904 ∧ t.text.length < 100000 := by
  cases h with
  | name p b l _ _ h => exact ⟨by simp, by simp only; omega⟩
  | num p n h => exact ⟨by simp only; omega, by simp⟩
  | text p l h => exact ⟨by simp, by simp only; omega⟩
  | sign => exact ⟨by simp, by simp⟩
theorem good_wr_len {t : Tok} (h : Good t) : (wr t).length ≤ 1000 := by
  cases h with
  | name p b l _ _ h => show (b :: l).length ≤ _; omega
  | num p n h =>
    show (digs n).length ≤ _
    have : ∀ (k n : Nat), n < 10 ^ (k + 1) → (digs n).length ≤ k + 1 := by
      intro k
      induction k with
      | zero => intro n hn; rw [digs, if_pos (by omega)]; simp
      | succ k ih =>
        intro n hn
        rw [digs]
        split
        · simp
        · have := ih (n / 10) (by rw [Nat.pow_succ] at hn; omega)
          simp; omega
    have := this 8 n (by omega)
    omega
  | text p l h =>
    show (34 :: (escT l ++ [34])).length ≤ _
    have := escT_len l
    simp; omega
  | sign => show 1 ≤ 1000; decide
end Go.Cab

/- Token: TokenBack. -/
-- TEXTS
namespace Go.Cab
def fb301 : AC := (.seq (.reg [⟨(.some 2), .none, (.mov (.const (.bool .false))), [], .none⟩]) (.seq (.seq (.reg [⟨(.some 11), .none, (.call 5 []), [], .none⟩, ⟨(.some 12), .none, (.un .not (.tmp 11)), [], .none⟩]) (.cond (.tmp 12) (.seq (.reg [⟨(.some 2), .none, (.mov (.const (.bool .false))), [], .none⟩]) .ret) .skip)) (.seq (.seq (.reg [⟨(.some 13), .none, (.mov (.tmp 0)), [], .none⟩, ⟨(.some 14), .none, (.len .true (.tmp 13)), [], .none⟩, ⟨(.some 15), .none, (.bin .gtr (.tmp 14) (.const (jn 900))), [], .none⟩]) (.cond (.tmp 15) (.seq (.reg [⟨(.some 16), .none, (.call 5 []), [], .none⟩, ⟨(.some 2), .none, (.mov (.tmp 16)), [], .none⟩]) .ret) .skip)) (.seq (.reg [⟨(.some 18), .none, (.mov (.tmp 0)), [], .none⟩, ⟨(.some 19), .none, (.call 6 [(.tmp 18)]), [], .none⟩, ⟨(.some 17), .none, (.mov (.tmp 19)), [], .none⟩, ⟨(.some 20), .none, (.ext (.tmp 17) 0), [], .none⟩, ⟨(.some 21), .none, (.ext (.tmp 17) 1), [], .none⟩, ⟨(.some 22), .none, (.ext (.tmp 17) 2), [], .none⟩, ⟨(.some 3), .none, (.mov (.tmp 20)), [], .none⟩, ⟨(.some 4), .none, (.mov (.tmp 21)), [], .none⟩, ⟨(.some 5), .none, (.mov (.tmp 22)), [], .none⟩]) (.seq (.seq (.reg [⟨(.some 23), .none, (.mov (.tmp 5)), [], .none⟩, ⟨(.some 24), .none, (.bin .neq (.tmp 23) (.const (jn 0))), [], .none⟩]) (.cond (.tmp 24) (.seq (.reg [⟨(.some 25), .none, (.call 5 []), [], .none⟩, ⟨(.some 2), .none, (.mov (.tmp 25)), [], .none⟩]) .ret) .skip)) (.seq (.reg [⟨(.some 6), .none, (.mov (.const (tx []))), [], .none⟩]) (.seq (.seq (.reg [⟨(.some 7), .none, (.mov (.const (jn 0))), [], .none⟩]) (.block 0 (.loop (.seq (.seq (.reg [⟨(.some 26), .none, (.mov (.tmp 7)), [], .none⟩, ⟨(.some 27), .none, (.mov (.tmp 3)), [], .none⟩, ⟨(.some 28), .none, (.len .false (.tmp 27)), [], .none⟩, ⟨(.some 29), .none, (.bin .lss (.tmp 26) (.tmp 28)), [], .none⟩]) (.cond (.tmp 29) .skip (.exit 0))) (.seq (.block 1 (.reg [⟨(.some 32), .none, (.mov (.tmp 6)), [], .none⟩, ⟨(.some 33), .none, (.mov (.tmp 3)), [], .none⟩, ⟨(.some 34), .none, (.mov (.tmp 7)), [], .none⟩, ⟨(.some 35), .none, (.iaddrS 4 (.tmp 33) (.tmp 34)), [], .none⟩, ⟨(.some 36), .none, (.load .true 4 (.tmp 35)), [], .none⟩, ⟨(.some 37), .none, (.call 8 [(.tmp 36)]), [], .none⟩, ⟨(.some 38), .none, (.bin .add (.tmp 32) (.tmp 37)), [], .none⟩, ⟨(.some 39), .none, (.bin .add (.tmp 38) (.const (tx [32]))), [], .none⟩, ⟨(.some 6), .none, (.mov (.tmp 39)), [], .none⟩])) (.reg [⟨(.some 30), .none, (.mov (.tmp 7)), [], .none⟩, ⟨(.some 31), .none, (.bin .add (.tmp 30) (.const (jn 1))), [], .none⟩, ⟨(.some 7), .none, (.mov (.tmp 31)), [], .none⟩])))))) (.seq (.reg [⟨(.some 41), .none, (.mov (.tmp 6)), [], .none⟩, ⟨(.some 42), .none, (.call 6 [(.tmp 41)]), [], .none⟩, ⟨(.some 40), .none, (.mov (.tmp 42)), [], .none⟩, ⟨(.some 43), .none, (.ext (.tmp 40) 0), [], .none⟩, ⟨(.some 44), .none, (.ext (.tmp 40) 1), [], .none⟩, ⟨(.some 45), .none, (.ext (.tmp 40) 2), [], .none⟩, ⟨(.some 8), .none, (.mov (.tmp 43)), [], .none⟩, ⟨(.some 9), .none, (.mov (.tmp 44)), [], .none⟩, ⟨(.some 10), .none, (.mov (.tmp 45)), [], .none⟩]) (.seq (.reg [⟨(.some 46), .none, (.call 5 []), [], .none⟩, ⟨(.some 47), .none, (.mov (.tmp 46)), [], .none⟩, ⟨(.some 48), (.some (47, .true)), (.mov (.tmp 10)), [], .none⟩, ⟨(.some 49), (.some (47, .true)), (.bin .eql (.tmp 48) (.const (jn 0))), [], .none⟩, ⟨(.some 50), (.some (47, .true)), (.mov (.tmp 49)), [], .none⟩, ⟨(.some 51), (.some (50, .true)), (.mov (.tmp 3)), [], .none⟩, ⟨(.some 52), (.some (50, .true)), (.mov (.tmp 8)), [], .none⟩, ⟨(.some 53), (.some (50, .true)), (.lcall 7 [(.tmp 51), (.tmp 52), (.const (.bool .false))]), [], .none⟩, ⟨(.some 54), (.some (47, .true)), (.pick (.tmp 50) (.tmp 53) (.const (.bool .false))), [], .none⟩, ⟨(.some 55), (.some (47, .true)), (.mov (.tmp 54)), [], .none⟩, ⟨(.some 56), (.some (55, .false)), (.mov (.tmp 10)), [], .none⟩, ⟨(.some 57), (.some (55, .false)), (.bin .eql (.tmp 56) (.const (jn 24))), [], .none⟩, ⟨(.some 58), (.some (55, .false)), (.mov (.tmp 57)), [], .none⟩, ⟨(.some 59), (.some (58, .true)), (.mov (.tmp 6)), [], .none⟩, ⟨(.some 60), (.some (58, .true)), (.len .true (.tmp 59)), [], .none⟩, ⟨(.some 61), (.some (58, .true)), (.bin .gtr (.tmp 60) (.const (jn 4000))), [], .none⟩, ⟨(.some 62), (.some (55, .false)), (.pick (.tmp 58) (.tmp 61) (.const (.bool .false))), [], .none⟩, ⟨(.some 63), (.some (47, .true)), (.pick (.tmp 55) (.const (.bool .true)) (.tmp 62)), [], .none⟩, ⟨(.some 64), .none, (.pick (.tmp 47) (.tmp 63) (.const (.bool .false))), [], .none⟩, ⟨(.some 2), .none, (.mov (.tmp 64)), [], .none⟩]) .ret)))))))))
def fc301 : FC := ⟨1, 65, [(.tmp 2)], fb301⟩
theorem fc301_eq : compF Go.Proofs.Try.prog 4 = some fc301 := by kernel_rfl

theorem wrAll_snoc (ts : List Tok) (t : Tok) : wrAll (ts ++ [t]) = wrAll ts ++ (wr t ++ [32]) := by simp [wrAll]
theorem wrAll_len : ∀ (ts : List Tok), (∀ t ∈ ts, Good t) → (wrAll ts).length ≤ 1001 * ts.length
  | [], _ => by simp [wrAll]
  | t :: ts, h => by
    have h1 := wrAll_len ts fun u hu => h u (by simp [hu])
    have h2 := good_wr_len (h t (by simp))
    have e : wrAll (t :: ts) = wr t ++ [32] ++ wrAll ts := by simp [wrAll]
    rw [e]
    simp only [List.length_append, List.length_cons, List.length_nil]
    omega
theorem takeT_snoc {l : List Tok} {i : Nat} {b : Tok} (h : l[i]? = some b) : l.take (i + 1) = l.take i ++ [b] := by
  rw [List.take_add_one, h]; rfl

set_option maxHeartbeats 8000000 in
theorem tokenBack_call (s : List UInt8) : PCall Go.Proofs.Try.prog 4 [.lit (tx s)] (.val (.lit (.bool true))) := by
  have h301 := fc301_eq
  have ca := talive_call
  have cc := cut_call s
  refine PCall.of h301 rfl ?_; show AC.wp _ fb301 (AS.init [.lit (tx s)] 1 65) (fun x s => match x with | .exit _ => False | _ => Fin [(.tmp 2)] s _); unfold fb301 AS.init
  refine wp_sr (by simp [runPre, AOp.ex, AOp.ex0, ex_mov, ex_bin, binA_lit, ex_cvt, ex_iaddrA, ex_iaddrS, ex_faddr, ex_load, ldA, ex_ext, ex_add64, add64A_un, ex_pick, ex_beq, ex_un, ex_len, lenA_sl, lenA_nil, lenA_str, lenA_own, lenRow_row, elA_own, elA_sl, elRow_row, ex_nilc, ex_build, ex_bslice, ex_fieldv, AOp.ro, AS.ev, AS.put, AS.fieldAddr, idxA_ptr, idxA_cptr, AS.peek, AS.poke, AS.blk, AS.setBlk, AV.nav, AV.upd, Blk.loc, Blk.cont, Blk.n, Blk.may, Blk.upd, AV.isAgg, AV.isTup, AV.sz, unVal, ownOk, fillAV, AV.sub, cvt_64j, cvt_64b, cvt_64w, cvt_8u, cvt_8w, bin_add64, bin_mul64, bin_sub64, bin_and51, bin_and32, bin_and1, bin_and8_1, bin_or64, bin_xor64, bin_or8, bin_shl64, bin_shl64j, bin_shr64, bin_shr64j, bin_shl8j, bin_shr8j, bin_quo64, bin_rem64, bin_quo32, bin_rem32, bin_addj, bin_subj, bin_quoj, bin_remj, bin_eqlj, bin_neqj, bin_lssj, bin_leqj, bin_gtrj, bin_geqj, bin_eql64, bin_lss64, bin_gtr64, bin_eql8, bin_rem8, lenA_tx, ex_prim, primA_some, AS.lits, prim_ix, prim_sub, prim_sub2, prim_min, prim_ib, ex_b2s, textOf_eq, textA_sl, textA_nil, lend_own, lendRow_row, lend_sl, lend_lit, bin_adds, bin_eqls, bin_neqs, bin_geq8, bin_leq8, bin_lss8, bin_gtr8, bin_neq8, bin_sub8, bin_quo8, bin_add8, bin_mulj, cvt_j8, cvt_8j]; exact rfl) (wp_seq' (wp_sg ?_))
  refine areg_ca (by simp [AS.ev, AS.coe, AS.put] <;> exact rfl) ca ?_
  refine areg_end (by simp [runPre, AOp.ex, AOp.ex0, ex_mov, ex_bin, binA_lit, ex_cvt, ex_iaddrA, ex_iaddrS, ex_faddr, ex_load, ldA, ex_ext, ex_add64, add64A_un, ex_pick, ex_beq, ex_un, ex_len, lenA_sl, lenA_nil, lenA_str, lenA_own, lenRow_row, elA_own, elA_sl, elRow_row, ex_nilc, ex_build, ex_bslice, ex_fieldv, AOp.ro, AS.ev, AS.put, AS.fieldAddr, idxA_ptr, idxA_cptr, AS.peek, AS.poke, AS.blk, AS.setBlk, AV.nav, AV.upd, Blk.loc, Blk.cont, Blk.n, Blk.may, Blk.upd, AV.isAgg, AV.isTup, AV.sz, unVal, ownOk, fillAV, AV.sub, cvt_64j, cvt_64b, cvt_64w, cvt_8u, cvt_8w, bin_add64, bin_mul64, bin_sub64, bin_and51, bin_and32, bin_and1, bin_and8_1, bin_or64, bin_xor64, bin_or8, bin_shl64, bin_shl64j, bin_shr64, bin_shr64j, bin_shl8j, bin_shr8j, bin_quo64, bin_rem64, bin_quo32, bin_rem32, bin_addj, bin_subj, bin_quoj, bin_remj, bin_eqlj, bin_neqj, bin_lssj, bin_leqj, bin_gtrj, bin_geqj, bin_eql64, bin_lss64, bin_gtr64, bin_eql8, bin_rem8, lenA_tx, ex_prim, primA_some, AS.lits, prim_ix, prim_sub, prim_sub2, prim_min, prim_ib, ex_b2s, textOf_eq, textA_sl, textA_nil, lend_own, lendRow_row, lend_sl, lend_lit, bin_adds, bin_eqls, bin_neqs, bin_geq8, bin_leq8, bin_lss8, bin_gtr8, bin_neq8, bin_sub8, bin_quo8, bin_add8, bin_mulj, cvt_j8, cvt_8j]; exact rfl) (wp_cond_f rfl (wp_skip' ?_))
  by_cases h9 : 900 < s.length
  · refine wp_seq' (wp_sr (by simp [runPre, AOp.ex, AOp.ex0, ex_mov, ex_bin, binA_lit, ex_cvt, ex_iaddrA, ex_iaddrS, ex_faddr, ex_load, ldA, ex_ext, ex_add64, add64A_un, ex_pick, ex_beq, ex_un, ex_len, lenA_sl, lenA_nil, lenA_str, lenA_own, lenRow_row, elA_own, elA_sl, elRow_row, ex_nilc, ex_build, ex_bslice, ex_fieldv, AOp.ro, AS.ev, AS.put, AS.fieldAddr, idxA_ptr, idxA_cptr, AS.peek, AS.poke, AS.blk, AS.setBlk, AV.nav, AV.upd, Blk.loc, Blk.cont, Blk.n, Blk.may, Blk.upd, AV.isAgg, AV.isTup, AV.sz, unVal, ownOk, fillAV, AV.sub, cvt_64j, cvt_64b, cvt_64w, cvt_8u, cvt_8w, bin_add64, bin_mul64, bin_sub64, bin_and51, bin_and32, bin_and1, bin_and8_1, bin_or64, bin_xor64, bin_or8, bin_shl64, bin_shl64j, bin_shr64, bin_shr64j, bin_shl8j, bin_shr8j, bin_quo64, bin_rem64, bin_quo32, bin_rem32, bin_addj, bin_subj, bin_quoj, bin_remj, bin_eqlj, bin_neqj, bin_lssj, bin_leqj, bin_gtrj, bin_geqj, bin_eql64, bin_lss64, bin_gtr64, bin_eql8, bin_rem8, lenA_tx, ex_prim, primA_some, AS.lits, prim_ix, prim_sub, prim_sub2, prim_min, prim_ib, ex_b2s, textOf_eq, textA_sl, textA_nil, lend_own, lendRow_row, lend_sl, lend_lit, bin_adds, bin_eqls, bin_neqs, bin_geq8, bin_leq8, bin_lss8, bin_gtr8, bin_neq8, bin_sub8, bin_quo8, bin_add8, bin_mulj, cvt_j8, cvt_8j, h9]; exact rfl) (wp_cond_t rfl (wp_sg ?_)))
    refine areg_ca (by simp [AS.ev, AS.coe, AS.put] <;> exact rfl) ca ?_
    refine areg_end (by simp [runPre, AOp.ex, AOp.ex0, ex_mov, ex_bin, binA_lit, ex_cvt, ex_iaddrA, ex_iaddrS, ex_faddr, ex_load, ldA, ex_ext, ex_add64, add64A_un, ex_pick, ex_beq, ex_un, ex_len, lenA_sl, lenA_nil, lenA_str, lenA_own, lenRow_row, elA_own, elA_sl, elRow_row, ex_nilc, ex_build, ex_bslice, ex_fieldv, AOp.ro, AS.ev, AS.put, AS.fieldAddr, idxA_ptr, idxA_cptr, AS.peek, AS.poke, AS.blk, AS.setBlk, AV.nav, AV.upd, Blk.loc, Blk.cont, Blk.n, Blk.may, Blk.upd, AV.isAgg, AV.isTup, AV.sz, unVal, ownOk, fillAV, AV.sub, cvt_64j, cvt_64b, cvt_64w, cvt_8u, cvt_8w, bin_add64, bin_mul64, bin_sub64, bin_and51, bin_and32, bin_and1, bin_and8_1, bin_or64, bin_xor64, bin_or8, bin_shl64, bin_shl64j, bin_shr64, bin_shr64j, bin_shl8j, bin_shr8j, bin_quo64, bin_rem64, bin_quo32, bin_rem32, bin_addj, bin_subj, bin_quoj, bin_remj, bin_eqlj, bin_neqj, bin_lssj, bin_leqj, bin_gtrj, bin_geqj, bin_eql64, bin_lss64, bin_gtr64, bin_eql8, bin_rem8, lenA_tx, ex_prim, primA_some, AS.lits, prim_ix, prim_sub, prim_sub2, prim_min, prim_ib, ex_b2s, textOf_eq, textA_sl, textA_nil, lend_own, lendRow_row, lend_sl, lend_lit, bin_adds, bin_eqls, bin_neqs, bin_geq8, bin_leq8, bin_lss8, bin_gtr8, bin_neq8, bin_sub8, bin_quo8, bin_add8, bin_mulj, cvt_j8, cvt_8j]; exact rfl) (wp_ret' ?_)
    exact fin_tmp (by simp [RVal, AS.coe, tt, AS.ev]) (by simp)
  refine wp_seq' (wp_sr (by simp [runPre, AOp.ex, AOp.ex0, ex_mov, ex_bin, binA_lit, ex_cvt, ex_iaddrA, ex_iaddrS, ex_faddr, ex_load, ldA, ex_ext, ex_add64, add64A_un, ex_pick, ex_beq, ex_un, ex_len, lenA_sl, lenA_nil, lenA_str, lenA_own, lenRow_row, elA_own, elA_sl, elRow_row, ex_nilc, ex_build, ex_bslice, ex_fieldv, AOp.ro, AS.ev, AS.put, AS.fieldAddr, idxA_ptr, idxA_cptr, AS.peek, AS.poke, AS.blk, AS.setBlk, AV.nav, AV.upd, Blk.loc, Blk.cont, Blk.n, Blk.may, Blk.upd, AV.isAgg, AV.isTup, AV.sz, unVal, ownOk, fillAV, AV.sub, cvt_64j, cvt_64b, cvt_64w, cvt_8u, cvt_8w, bin_add64, bin_mul64, bin_sub64, bin_and51, bin_and32, bin_and1, bin_and8_1, bin_or64, bin_xor64, bin_or8, bin_shl64, bin_shl64j, bin_shr64, bin_shr64j, bin_shl8j, bin_shr8j, bin_quo64, bin_rem64, bin_quo32, bin_rem32, bin_addj, bin_subj, bin_quoj, bin_remj, bin_eqlj, bin_neqj, bin_lssj, bin_leqj, bin_gtrj, bin_geqj, bin_eql64, bin_lss64, bin_gtr64, bin_eql8, bin_rem8, lenA_tx, ex_prim, primA_some, AS.lits, prim_ix, prim_sub, prim_sub2, prim_min, prim_ib, ex_b2s, textOf_eq, textA_sl, textA_nil, lend_own, lendRow_row, lend_sl, lend_lit, bin_adds, bin_eqls, bin_neqs, bin_geq8, bin_leq8, bin_lss8, bin_gtr8, bin_neq8, bin_sub8, bin_quo8, bin_add8, bin_mulj, cvt_j8, cvt_8j, h9]; exact rfl) (wp_cond_f rfl (wp_skip' ?_)))
  refine wp_sg (areg_run 1 (by simp [runPre, AOp.ex, AOp.ex0, ex_mov, ex_bin, binA_lit, ex_cvt, ex_iaddrA, ex_iaddrS, ex_faddr, ex_load, ldA, ex_ext, ex_add64, add64A_un, ex_pick, ex_beq, ex_un, ex_len, lenA_sl, lenA_nil, lenA_str, lenA_own, lenRow_row, elA_own, elA_sl, elRow_row, ex_nilc, ex_build, ex_bslice, ex_fieldv, AOp.ro, AS.ev, AS.put, AS.fieldAddr, idxA_ptr, idxA_cptr, AS.peek, AS.poke, AS.blk, AS.setBlk, AV.nav, AV.upd, Blk.loc, Blk.cont, Blk.n, Blk.may, Blk.upd, AV.isAgg, AV.isTup, AV.sz, unVal, ownOk, fillAV, AV.sub, cvt_64j, cvt_64b, cvt_64w, cvt_8u, cvt_8w, bin_add64, bin_mul64, bin_sub64, bin_and51, bin_and32, bin_and1, bin_and8_1, bin_or64, bin_xor64, bin_or8, bin_shl64, bin_shl64j, bin_shr64, bin_shr64j, bin_shl8j, bin_shr8j, bin_quo64, bin_rem64, bin_quo32, bin_rem32, bin_addj, bin_subj, bin_quoj, bin_remj, bin_eqlj, bin_neqj, bin_lssj, bin_leqj, bin_gtrj, bin_geqj, bin_eql64, bin_lss64, bin_gtr64, bin_eql8, bin_rem8, lenA_tx, ex_prim, primA_some, AS.lits, prim_ix, prim_sub, prim_sub2, prim_min, prim_ib, ex_b2s, textOf_eq, textA_sl, textA_nil, lend_own, lendRow_row, lend_sl, lend_lit, bin_adds, bin_eqls, bin_neqs, bin_geq8, bin_leq8, bin_lss8, bin_gtr8, bin_neq8, bin_sub8, bin_quo8, bin_add8, bin_mulj, cvt_j8, cvt_8j]; exact rfl) ?_)
  rcases cutA_cases s with ⟨k, e, he, hc⟩ | ⟨ts, hc, hp⟩
  · rw [hc] at cc
    refine areg_ca (by simp [AS.ev, AS.coe, AS.put] <;> exact rfl) cc ?_
    refine areg_end (by simp [runPre, AOp.ex, AOp.ex0, ex_mov, ex_bin, binA_lit, ex_cvt, ex_iaddrA, ex_iaddrS, ex_faddr, ex_load, ldA, ex_ext, ex_add64, add64A_un, ex_pick, ex_beq, ex_un, ex_len, lenA_sl, lenA_nil, lenA_str, lenA_own, lenRow_row, elA_own, elA_sl, elRow_row, ex_nilc, ex_build, ex_bslice, ex_fieldv, AOp.ro, AS.ev, AS.put, AS.fieldAddr, idxA_ptr, idxA_cptr, AS.peek, AS.poke, AS.blk, AS.setBlk, AV.nav, AV.upd, Blk.loc, Blk.cont, Blk.n, Blk.may, Blk.upd, AV.isAgg, AV.isTup, AV.sz, unVal, ownOk, fillAV, AV.sub, cvt_64j, cvt_64b, cvt_64w, cvt_8u, cvt_8w, bin_add64, bin_mul64, bin_sub64, bin_and51, bin_and32, bin_and1, bin_and8_1, bin_or64, bin_xor64, bin_or8, bin_shl64, bin_shl64j, bin_shr64, bin_shr64j, bin_shl8j, bin_shr8j, bin_quo64, bin_rem64, bin_quo32, bin_rem32, bin_addj, bin_subj, bin_quoj, bin_remj, bin_eqlj, bin_neqj, bin_lssj, bin_leqj, bin_gtrj, bin_geqj, bin_eql64, bin_lss64, bin_gtr64, bin_eql8, bin_rem8, lenA_tx, ex_prim, primA_some, AS.lits, prim_ix, prim_sub, prim_sub2, prim_min, prim_ib, ex_b2s, textOf_eq, textA_sl, textA_nil, lend_own, lendRow_row, lend_sl, lend_lit, bin_adds, bin_eqls, bin_neqs, bin_geq8, bin_leq8, bin_lss8, bin_gtr8, bin_neq8, bin_sub8, bin_quo8, bin_add8, bin_mulj, cvt_j8, cvt_8j]; exact rfl) ?_
    refine wp_seq' (wp_sr (by simp [runPre, AOp.ex, AOp.ex0, ex_mov, ex_bin, binA_lit, ex_cvt, ex_iaddrA, ex_iaddrS, ex_faddr, ex_load, ldA, ex_ext, ex_add64, add64A_un, ex_pick, ex_beq, ex_un, ex_len, lenA_sl, lenA_nil, lenA_str, lenA_own, lenRow_row, elA_own, elA_sl, elRow_row, ex_nilc, ex_build, ex_bslice, ex_fieldv, AOp.ro, AS.ev, AS.put, AS.fieldAddr, idxA_ptr, idxA_cptr, AS.peek, AS.poke, AS.blk, AS.setBlk, AV.nav, AV.upd, Blk.loc, Blk.cont, Blk.n, Blk.may, Blk.upd, AV.isAgg, AV.isTup, AV.sz, unVal, ownOk, fillAV, AV.sub, cvt_64j, cvt_64b, cvt_64w, cvt_8u, cvt_8w, bin_add64, bin_mul64, bin_sub64, bin_and51, bin_and32, bin_and1, bin_and8_1, bin_or64, bin_xor64, bin_or8, bin_shl64, bin_shl64j, bin_shr64, bin_shr64j, bin_shl8j, bin_shr8j, bin_quo64, bin_rem64, bin_quo32, bin_rem32, bin_addj, bin_subj, bin_quoj, bin_remj, bin_eqlj, bin_neqj, bin_lssj, bin_leqj, bin_gtrj, bin_geqj, bin_eql64, bin_lss64, bin_gtr64, bin_eql8, bin_rem8, lenA_tx, ex_prim, primA_some, AS.lits, prim_ix, prim_sub, prim_sub2, prim_min, prim_ib, ex_b2s, textOf_eq, textA_sl, textA_nil, lend_own, lendRow_row, lend_sl, lend_lit, bin_adds, bin_eqls, bin_neqs, bin_geq8, bin_leq8, bin_lss8, bin_gtr8, bin_neq8, bin_sub8, bin_quo8, bin_add8, bin_mulj, cvt_j8, cvt_8j, he]; exact rfl) (wp_cond_t rfl (wp_sg ?_)))
    refine areg_ca (by simp [AS.ev, AS.coe, AS.put] <;> exact rfl) ca ?_
    refine areg_end (by simp [runPre, AOp.ex, AOp.ex0, ex_mov, ex_bin, binA_lit, ex_cvt, ex_iaddrA, ex_iaddrS, ex_faddr, ex_load, ldA, ex_ext, ex_add64, add64A_un, ex_pick, ex_beq, ex_un, ex_len, lenA_sl, lenA_nil, lenA_str, lenA_own, lenRow_row, elA_own, elA_sl, elRow_row, ex_nilc, ex_build, ex_bslice, ex_fieldv, AOp.ro, AS.ev, AS.put, AS.fieldAddr, idxA_ptr, idxA_cptr, AS.peek, AS.poke, AS.blk, AS.setBlk, AV.nav, AV.upd, Blk.loc, Blk.cont, Blk.n, Blk.may, Blk.upd, AV.isAgg, AV.isTup, AV.sz, unVal, ownOk, fillAV, AV.sub, cvt_64j, cvt_64b, cvt_64w, cvt_8u, cvt_8w, bin_add64, bin_mul64, bin_sub64, bin_and51, bin_and32, bin_and1, bin_and8_1, bin_or64, bin_xor64, bin_or8, bin_shl64, bin_shl64j, bin_shr64, bin_shr64j, bin_shl8j, bin_shr8j, bin_quo64, bin_rem64, bin_quo32, bin_rem32, bin_addj, bin_subj, bin_quoj, bin_remj, bin_eqlj, bin_neqj, bin_lssj, bin_leqj, bin_gtrj, bin_geqj, bin_eql64, bin_lss64, bin_gtr64, bin_eql8, bin_rem8, lenA_tx, ex_prim, primA_some, AS.lits, prim_ix, prim_sub, prim_sub2, prim_min, prim_ib, ex_b2s, textOf_eq, textA_sl, textA_nil, lend_own, lendRow_row, lend_sl, lend_lit, bin_adds, bin_eqls, bin_neqs, bin_geq8, bin_leq8, bin_lss8, bin_gtr8, bin_neq8, bin_sub8, bin_quo8, bin_add8, bin_mulj, cvt_j8, cvt_8j]; exact rfl) (wp_ret' ?_)
    exact fin_tmp (by simp [RVal, AS.coe, tt, AS.ev]) (by simp)
  rw [hc] at cc
  have hgood := parse_good hp
  have hsk := skipN_le s false
  have htl := parse_len hp hsk
  have htl9 : ts.length ≤ 900 := by omega
  refine areg_ca (by simp [AS.ev, AS.coe, AS.put] <;> exact rfl) cc ?_
  refine areg_end (by simp [runPre, AOp.ex, AOp.ex0, ex_mov, ex_bin, binA_lit, ex_cvt, ex_iaddrA, ex_iaddrS, ex_faddr, ex_load, ldA, ex_ext, ex_add64, add64A_un, ex_pick, ex_beq, ex_un, ex_len, lenA_sl, lenA_nil, lenA_str, lenA_own, lenRow_row, elA_own, elA_sl, elRow_row, ex_nilc, ex_build, ex_bslice, ex_fieldv, AOp.ro, AS.ev, AS.put, AS.fieldAddr, idxA_ptr, idxA_cptr, AS.peek, AS.poke, AS.blk, AS.setBlk, AV.nav, AV.upd, Blk.loc, Blk.cont, Blk.n, Blk.may, Blk.upd, AV.isAgg, AV.isTup, AV.sz, unVal, ownOk, fillAV, AV.sub, cvt_64j, cvt_64b, cvt_64w, cvt_8u, cvt_8w, bin_add64, bin_mul64, bin_sub64, bin_and51, bin_and32, bin_and1, bin_and8_1, bin_or64, bin_xor64, bin_or8, bin_shl64, bin_shl64j, bin_shr64, bin_shr64j, bin_shl8j, bin_shr8j, bin_quo64, bin_rem64, bin_quo32, bin_rem32, bin_addj, bin_subj, bin_quoj, bin_remj, bin_eqlj, bin_neqj, bin_lssj, bin_leqj, bin_gtrj, bin_geqj, bin_eql64, bin_lss64, bin_gtr64, bin_eql8, bin_rem8, lenA_tx, ex_prim, primA_some, AS.lits, prim_ix, prim_sub, prim_sub2, prim_min, prim_ib, ex_b2s, textOf_eq, textA_sl, textA_nil, lend_own, lendRow_row, lend_sl, lend_lit, bin_adds, bin_eqls, bin_neqs, bin_geq8, bin_leq8, bin_lss8, bin_gtr8, bin_neq8, bin_sub8, bin_quo8, bin_add8, bin_mulj, cvt_j8, cvt_8j]; exact rfl) ?_
  refine wp_seq' (wp_sr (by simp [runPre, AOp.ex, AOp.ex0, ex_mov, ex_bin, binA_lit, ex_cvt, ex_iaddrA, ex_iaddrS, ex_faddr, ex_load, ldA, ex_ext, ex_add64, add64A_un, ex_pick, ex_beq, ex_un, ex_len, lenA_sl, lenA_nil, lenA_str, lenA_own, lenRow_row, elA_own, elA_sl, elRow_row, ex_nilc, ex_build, ex_bslice, ex_fieldv, AOp.ro, AS.ev, AS.put, AS.fieldAddr, idxA_ptr, idxA_cptr, AS.peek, AS.poke, AS.blk, AS.setBlk, AV.nav, AV.upd, Blk.loc, Blk.cont, Blk.n, Blk.may, Blk.upd, AV.isAgg, AV.isTup, AV.sz, unVal, ownOk, fillAV, AV.sub, cvt_64j, cvt_64b, cvt_64w, cvt_8u, cvt_8w, bin_add64, bin_mul64, bin_sub64, bin_and51, bin_and32, bin_and1, bin_and8_1, bin_or64, bin_xor64, bin_or8, bin_shl64, bin_shl64j, bin_shr64, bin_shr64j, bin_shl8j, bin_shr8j, bin_quo64, bin_rem64, bin_quo32, bin_rem32, bin_addj, bin_subj, bin_quoj, bin_remj, bin_eqlj, bin_neqj, bin_lssj, bin_leqj, bin_gtrj, bin_geqj, bin_eql64, bin_lss64, bin_gtr64, bin_eql8, bin_rem8, lenA_tx, ex_prim, primA_some, AS.lits, prim_ix, prim_sub, prim_sub2, prim_min, prim_ib, ex_b2s, textOf_eq, textA_sl, textA_nil, lend_own, lendRow_row, lend_sl, lend_lit, bin_adds, bin_eqls, bin_neqs, bin_geq8, bin_leq8, bin_lss8, bin_gtr8, bin_neq8, bin_sub8, bin_quo8, bin_add8, bin_mulj, cvt_j8, cvt_8j]; exact rfl) (wp_cond_f rfl (wp_skip' ?_)))
  refine wp_sr (by simp [runPre, AOp.ex, AOp.ex0, ex_mov, ex_bin, binA_lit, ex_cvt, ex_iaddrA, ex_iaddrS, ex_faddr, ex_load, ldA, ex_ext, ex_add64, add64A_un, ex_pick, ex_beq, ex_un, ex_len, lenA_sl, lenA_nil, lenA_str, lenA_own, lenRow_row, elA_own, elA_sl, elRow_row, ex_nilc, ex_build, ex_bslice, ex_fieldv, AOp.ro, AS.ev, AS.put, AS.fieldAddr, idxA_ptr, idxA_cptr, AS.peek, AS.poke, AS.blk, AS.setBlk, AV.nav, AV.upd, Blk.loc, Blk.cont, Blk.n, Blk.may, Blk.upd, AV.isAgg, AV.isTup, AV.sz, unVal, ownOk, fillAV, AV.sub, cvt_64j, cvt_64b, cvt_64w, cvt_8u, cvt_8w, bin_add64, bin_mul64, bin_sub64, bin_and51, bin_and32, bin_and1, bin_and8_1, bin_or64, bin_xor64, bin_or8, bin_shl64, bin_shl64j, bin_shr64, bin_shr64j, bin_shl8j, bin_shr8j, bin_quo64, bin_rem64, bin_quo32, bin_rem32, bin_addj, bin_subj, bin_quoj, bin_remj, bin_eqlj, bin_neqj, bin_lssj, bin_leqj, bin_gtrj, bin_geqj, bin_eql64, bin_lss64, bin_gtr64, bin_eql8, bin_rem8, lenA_tx, ex_prim, primA_some, AS.lits, prim_ix, prim_sub, prim_sub2, prim_min, prim_ib, ex_b2s, textOf_eq, textA_sl, textA_nil, lend_own, lendRow_row, lend_sl, lend_lit, bin_adds, bin_eqls, bin_neqs, bin_geq8, bin_leq8, bin_lss8, bin_gtr8, bin_neq8, bin_sub8, bin_quo8, bin_add8, bin_mulj, cvt_j8, cvt_8j]; exact rfl) (wp_seq' (wp_sr (by simp [runPre, AOp.ex, AOp.ex0, ex_mov, ex_bin, binA_lit, ex_cvt, ex_iaddrA, ex_iaddrS, ex_faddr, ex_load, ldA, ex_ext, ex_add64, add64A_un, ex_pick, ex_beq, ex_un, ex_len, lenA_sl, lenA_nil, lenA_str, lenA_own, lenRow_row, elA_own, elA_sl, elRow_row, ex_nilc, ex_build, ex_bslice, ex_fieldv, AOp.ro, AS.ev, AS.put, AS.fieldAddr, idxA_ptr, idxA_cptr, AS.peek, AS.poke, AS.blk, AS.setBlk, AV.nav, AV.upd, Blk.loc, Blk.cont, Blk.n, Blk.may, Blk.upd, AV.isAgg, AV.isTup, AV.sz, unVal, ownOk, fillAV, AV.sub, cvt_64j, cvt_64b, cvt_64w, cvt_8u, cvt_8w, bin_add64, bin_mul64, bin_sub64, bin_and51, bin_and32, bin_and1, bin_and8_1, bin_or64, bin_xor64, bin_or8, bin_shl64, bin_shl64j, bin_shr64, bin_shr64j, bin_shl8j, bin_shr8j, bin_quo64, bin_rem64, bin_quo32, bin_rem32, bin_addj, bin_subj, bin_quoj, bin_remj, bin_eqlj, bin_neqj, bin_lssj, bin_leqj, bin_gtrj, bin_geqj, bin_eql64, bin_lss64, bin_gtr64, bin_eql8, bin_rem8, lenA_tx, ex_prim, primA_some, AS.lits, prim_ix, prim_sub, prim_sub2, prim_min, prim_ib, ex_b2s, textOf_eq, textA_sl, textA_nil, lend_own, lendRow_row, lend_sl, lend_lit, bin_adds, bin_eqls, bin_neqs, bin_geq8, bin_leq8, bin_lss8, bin_gtr8, bin_neq8, bin_sub8, bin_quo8, bin_add8, bin_mulj, cvt_j8, cvt_8j]; exact rfl) ?_))
  refine wp_block' (wp_loop_to ts.length (fun i => ⟨0, [.any, .any, .lit (.bool false), .sl 4 (toksA ts), .any, .any, .lit (tx (wrAll (ts.take i))), .lit (jn i)] ++ List.replicate 57 .any, List.replicate 65 none⟩) ?_ ?_ ?_)
  · exact Le.mk rfl (by simp [leT, wrAll]) (by simp [leH])
  · intro i hi
    obtain ⟨x, hx⟩ : ∃ x, ts[i]? = some x := ⟨ts[i], by simp [hi]⟩
    have hxg := hgood x (List.mem_of_getElem? hx)
    have hxl := good_wr_len hxg
    have cw := write_call x (good_wr hxg).1 (good_wr hxg).2
    unfold tokA at cw
    have hWl := wrAll_len (ts.take i) fun u hu => hgood u (List.mem_of_mem_take hu)
    have hWl2 : (ts.take i).length ≤ i := by simp; omega
    have g1 := toksA_get hx
    have hi' : ∀ n, n = (toksA ts).length → i < n := fun n h => by rw [h, toksA_len]; exact hi
    have q : i + 1 < 9223372036854775808 := by omega
    have gl : (toksA ts).length = ts.length := toksA_len ts
    rw [takeT_snoc hx, wrAll_snoc]
    generalize wrAll (ts.take i) = W at *
    generalize wr x = X at *
    have k1 : W.length + X.length < 9223372036854775808 := by omega
    have k2 : W.length + X.length + 1 < 9223372036854775808 := by omega
    have k3 : W.length + (X.length + 1) < 9223372036854775808 := by omega
    generalize toksA ts = A at *
    refine wp_seq' (wp_seq' (wp_r (by simp [runPre, AOp.ex, AOp.ex0, ex_mov, ex_bin, binA_lit, ex_cvt, ex_iaddrA, ex_iaddrS, ex_faddr, ex_load, ldA, ex_ext, ex_add64, add64A_un, ex_pick, ex_beq, ex_un, ex_len, lenA_sl, lenA_nil, lenA_str, lenA_own, lenRow_row, elA_own, elA_sl, elRow_row, ex_nilc, ex_build, ex_bslice, ex_fieldv, AOp.ro, AS.ev, AS.put, AS.fieldAddr, idxA_ptr, idxA_cptr, AS.peek, AS.poke, AS.blk, AS.setBlk, AV.nav, AV.upd, Blk.loc, Blk.cont, Blk.n, Blk.may, Blk.upd, AV.isAgg, AV.isTup, AV.sz, unVal, ownOk, fillAV, AV.sub, cvt_64j, cvt_64b, cvt_64w, cvt_8u, cvt_8w, bin_add64, bin_mul64, bin_sub64, bin_and51, bin_and32, bin_and1, bin_and8_1, bin_or64, bin_xor64, bin_or8, bin_shl64, bin_shl64j, bin_shr64, bin_shr64j, bin_shl8j, bin_shr8j, bin_quo64, bin_rem64, bin_quo32, bin_rem32, bin_addj, bin_subj, bin_quoj, bin_remj, bin_eqlj, bin_neqj, bin_lssj, bin_leqj, bin_gtrj, bin_geqj, bin_eql64, bin_lss64, bin_gtr64, bin_eql8, bin_rem8, lenA_tx, ex_prim, primA_some, AS.lits, prim_ix, prim_sub, prim_sub2, prim_min, prim_ib, ex_b2s, textOf_eq, textA_sl, textA_nil, lend_own, lendRow_row, lend_sl, lend_lit, bin_adds, bin_eqls, bin_neqs, bin_geq8, bin_leq8, bin_lss8, bin_gtr8, bin_neq8, bin_sub8, bin_quo8, bin_add8, bin_mulj, cvt_j8, cvt_8j, gl, hi]; exact rfl) (wp_cond_t rfl (wp_skip' ?_))))
    clear gl
    refine wp_seq' (wp_block' (wp_rg (areg_run 5 (by simp [runPre, AOp.ex, AOp.ex0, ex_mov, ex_bin, binA_lit, ex_cvt, ex_iaddrA, ex_iaddrS, ex_faddr, ex_load, ldA, ex_ext, ex_add64, add64A_un, ex_pick, ex_beq, ex_un, ex_len, lenA_sl, lenA_nil, lenA_str, lenA_own, lenRow_row, elA_own, elA_sl, elRow_row, ex_nilc, ex_build, ex_bslice, ex_fieldv, AOp.ro, AS.ev, AS.put, AS.fieldAddr, idxA_ptr, idxA_cptr, AS.peek, AS.poke, AS.blk, AS.setBlk, AV.nav, AV.upd, Blk.loc, Blk.cont, Blk.n, Blk.may, Blk.upd, AV.isAgg, AV.isTup, AV.sz, unVal, ownOk, fillAV, AV.sub, cvt_64j, cvt_64b, cvt_64w, cvt_8u, cvt_8w, bin_add64, bin_mul64, bin_sub64, bin_and51, bin_and32, bin_and1, bin_and8_1, bin_or64, bin_xor64, bin_or8, bin_shl64, bin_shl64j, bin_shr64, bin_shr64j, bin_shl8j, bin_shr8j, bin_quo64, bin_rem64, bin_quo32, bin_rem32, bin_addj, bin_subj, bin_quoj, bin_remj, bin_eqlj, bin_neqj, bin_lssj, bin_leqj, bin_gtrj, bin_geqj, bin_eql64, bin_lss64, bin_gtr64, bin_eql8, bin_rem8, lenA_tx, ex_prim, primA_some, AS.lits, prim_ix, prim_sub, prim_sub2, prim_min, prim_ib, ex_b2s, textOf_eq, textA_sl, textA_nil, lend_own, lendRow_row, lend_sl, lend_lit, bin_adds, bin_eqls, bin_neqs, bin_geq8, bin_leq8, bin_lss8, bin_gtr8, bin_neq8, bin_sub8, bin_quo8, bin_add8, bin_mulj, cvt_j8, cvt_8j, g1]; exact rfl) ?_)))
    refine areg_ca (by simp [AS.ev, AS.coe, AS.put] <;> exact rfl) cw ?_
    refine areg_end (by simp [runPre, AOp.ex, AOp.ex0, ex_mov, ex_bin, binA_lit, ex_cvt, ex_iaddrA, ex_iaddrS, ex_faddr, ex_load, ldA, ex_ext, ex_add64, add64A_un, ex_pick, ex_beq, ex_un, ex_len, lenA_sl, lenA_nil, lenA_str, lenA_own, lenRow_row, elA_own, elA_sl, elRow_row, ex_nilc, ex_build, ex_bslice, ex_fieldv, AOp.ro, AS.ev, AS.put, AS.fieldAddr, idxA_ptr, idxA_cptr, AS.peek, AS.poke, AS.blk, AS.setBlk, AV.nav, AV.upd, Blk.loc, Blk.cont, Blk.n, Blk.may, Blk.upd, AV.isAgg, AV.isTup, AV.sz, unVal, ownOk, fillAV, AV.sub, cvt_64j, cvt_64b, cvt_64w, cvt_8u, cvt_8w, bin_add64, bin_mul64, bin_sub64, bin_and51, bin_and32, bin_and1, bin_and8_1, bin_or64, bin_xor64, bin_or8, bin_shl64, bin_shl64j, bin_shr64, bin_shr64j, bin_shl8j, bin_shr8j, bin_quo64, bin_rem64, bin_quo32, bin_rem32, bin_addj, bin_subj, bin_quoj, bin_remj, bin_eqlj, bin_neqj, bin_lssj, bin_leqj, bin_gtrj, bin_geqj, bin_eql64, bin_lss64, bin_gtr64, bin_eql8, bin_rem8, lenA_tx, ex_prim, primA_some, AS.lits, prim_ix, prim_sub, prim_sub2, prim_min, prim_ib, ex_b2s, textOf_eq, textA_sl, textA_nil, lend_own, lendRow_row, lend_sl, lend_lit, bin_adds, bin_eqls, bin_neqs, bin_geq8, bin_leq8, bin_lss8, bin_gtr8, bin_neq8, bin_sub8, bin_quo8, bin_add8, bin_mulj, cvt_j8, cvt_8j, k1, k2, k3]; exact rfl) ?_
    refine wp_r (by simp [runPre, AOp.ex, AOp.ex0, ex_mov, ex_bin, binA_lit, ex_cvt, ex_iaddrA, ex_iaddrS, ex_faddr, ex_load, ldA, ex_ext, ex_add64, add64A_un, ex_pick, ex_beq, ex_un, ex_len, lenA_sl, lenA_nil, lenA_str, lenA_own, lenRow_row, elA_own, elA_sl, elRow_row, ex_nilc, ex_build, ex_bslice, ex_fieldv, AOp.ro, AS.ev, AS.put, AS.fieldAddr, idxA_ptr, idxA_cptr, AS.peek, AS.poke, AS.blk, AS.setBlk, AV.nav, AV.upd, Blk.loc, Blk.cont, Blk.n, Blk.may, Blk.upd, AV.isAgg, AV.isTup, AV.sz, unVal, ownOk, fillAV, AV.sub, cvt_64j, cvt_64b, cvt_64w, cvt_8u, cvt_8w, bin_add64, bin_mul64, bin_sub64, bin_and51, bin_and32, bin_and1, bin_and8_1, bin_or64, bin_xor64, bin_or8, bin_shl64, bin_shl64j, bin_shr64, bin_shr64j, bin_shl8j, bin_shr8j, bin_quo64, bin_rem64, bin_quo32, bin_rem32, bin_addj, bin_subj, bin_quoj, bin_remj, bin_eqlj, bin_neqj, bin_lssj, bin_leqj, bin_gtrj, bin_geqj, bin_eql64, bin_lss64, bin_gtr64, bin_eql8, bin_rem8, lenA_tx, ex_prim, primA_some, AS.lits, prim_ix, prim_sub, prim_sub2, prim_min, prim_ib, ex_b2s, textOf_eq, textA_sl, textA_nil, lend_own, lendRow_row, lend_sl, lend_lit, bin_adds, bin_eqls, bin_neqs, bin_geq8, bin_leq8, bin_lss8, bin_gtr8, bin_neq8, bin_sub8, bin_quo8, bin_add8, bin_mulj, cvt_j8, cvt_8j, q]; exact rfl) ?_
    exact Le.mk rfl (by simp [leT]) (by simp [leH])
  · refine wp_seq' (wp_seq' (wp_r (by simp [runPre, AOp.ex, AOp.ex0, ex_mov, ex_bin, binA_lit, ex_cvt, ex_iaddrA, ex_iaddrS, ex_faddr, ex_load, ldA, ex_ext, ex_add64, add64A_un, ex_pick, ex_beq, ex_un, ex_len, lenA_sl, lenA_nil, lenA_str, lenA_own, lenRow_row, elA_own, elA_sl, elRow_row, ex_nilc, ex_build, ex_bslice, ex_fieldv, AOp.ro, AS.ev, AS.put, AS.fieldAddr, idxA_ptr, idxA_cptr, AS.peek, AS.poke, AS.blk, AS.setBlk, AV.nav, AV.upd, Blk.loc, Blk.cont, Blk.n, Blk.may, Blk.upd, AV.isAgg, AV.isTup, AV.sz, unVal, ownOk, fillAV, AV.sub, cvt_64j, cvt_64b, cvt_64w, cvt_8u, cvt_8w, bin_add64, bin_mul64, bin_sub64, bin_and51, bin_and32, bin_and1, bin_and8_1, bin_or64, bin_xor64, bin_or8, bin_shl64, bin_shl64j, bin_shr64, bin_shr64j, bin_shl8j, bin_shr8j, bin_quo64, bin_rem64, bin_quo32, bin_rem32, bin_addj, bin_subj, bin_quoj, bin_remj, bin_eqlj, bin_neqj, bin_lssj, bin_leqj, bin_gtrj, bin_geqj, bin_eql64, bin_lss64, bin_gtr64, bin_eql8, bin_rem8, lenA_tx, ex_prim, primA_some, AS.lits, prim_ix, prim_sub, prim_sub2, prim_min, prim_ib, ex_b2s, textOf_eq, textA_sl, textA_nil, lend_own, lendRow_row, lend_sl, lend_lit, bin_adds, bin_eqls, bin_neqs, bin_geq8, bin_leq8, bin_lss8, bin_gtr8, bin_neq8, bin_sub8, bin_quo8, bin_add8, bin_mulj, cvt_j8, cvt_8j, toksA_len]; exact rfl) (wp_cond_f rfl (wp_exit' (if_hit rfl ?_)))))
    have ct := cut_call (wrAll ts)
    obtain ⟨hPL, hs0⟩ := wrAll_PL ts hgood
    refine wp_sg (areg_run 1 (by simp [runPre, AOp.ex, AOp.ex0, ex_mov, ex_bin, binA_lit, ex_cvt, ex_iaddrA, ex_iaddrS, ex_faddr, ex_load, ldA, ex_ext, ex_add64, add64A_un, ex_pick, ex_beq, ex_un, ex_len, lenA_sl, lenA_nil, lenA_str, lenA_own, lenRow_row, elA_own, elA_sl, elRow_row, ex_nilc, ex_build, ex_bslice, ex_fieldv, AOp.ro, AS.ev, AS.put, AS.fieldAddr, idxA_ptr, idxA_cptr, AS.peek, AS.poke, AS.blk, AS.setBlk, AV.nav, AV.upd, Blk.loc, Blk.cont, Blk.n, Blk.may, Blk.upd, AV.isAgg, AV.isTup, AV.sz, unVal, ownOk, fillAV, AV.sub, cvt_64j, cvt_64b, cvt_64w, cvt_8u, cvt_8w, bin_add64, bin_mul64, bin_sub64, bin_and51, bin_and32, bin_and1, bin_and8_1, bin_or64, bin_xor64, bin_or8, bin_shl64, bin_shl64j, bin_shr64, bin_shr64j, bin_shl8j, bin_shr8j, bin_quo64, bin_rem64, bin_quo32, bin_rem32, bin_addj, bin_subj, bin_quoj, bin_remj, bin_eqlj, bin_neqj, bin_lssj, bin_leqj, bin_gtrj, bin_geqj, bin_eql64, bin_lss64, bin_gtr64, bin_eql8, bin_rem8, lenA_tx, ex_prim, primA_some, AS.lits, prim_ix, prim_sub, prim_sub2, prim_min, prim_ib, ex_b2s, textOf_eq, textA_sl, textA_nil, lend_own, lendRow_row, lend_sl, lend_lit, bin_adds, bin_eqls, bin_neqs, bin_geq8, bin_leq8, bin_lss8, bin_gtr8, bin_neq8, bin_sub8, bin_quo8, bin_add8, bin_mulj, cvt_j8, cvt_8j]; exact rfl) ?_)
    by_cases h4 : 4000 < (wrAll ts).length
    · have e : cutA (wrAll ts) = [.lit (.slice none 0 0), .lit (jn 0), .lit (jn 24)] := by unfold cutA; rw [if_pos h4]
      rw [e] at ct
      generalize wrAll ts = T at *
      refine areg_ca (by simp [AS.ev, AS.coe, AS.put] <;> exact rfl) ct ?_
      refine areg_end (by simp [runPre, AOp.ex, AOp.ex0, ex_mov, ex_bin, binA_lit, ex_cvt, ex_iaddrA, ex_iaddrS, ex_faddr, ex_load, ldA, ex_ext, ex_add64, add64A_un, ex_pick, ex_beq, ex_un, ex_len, lenA_sl, lenA_nil, lenA_str, lenA_own, lenRow_row, elA_own, elA_sl, elRow_row, ex_nilc, ex_build, ex_bslice, ex_fieldv, AOp.ro, AS.ev, AS.put, AS.fieldAddr, idxA_ptr, idxA_cptr, AS.peek, AS.poke, AS.blk, AS.setBlk, AV.nav, AV.upd, Blk.loc, Blk.cont, Blk.n, Blk.may, Blk.upd, AV.isAgg, AV.isTup, AV.sz, unVal, ownOk, fillAV, AV.sub, cvt_64j, cvt_64b, cvt_64w, cvt_8u, cvt_8w, bin_add64, bin_mul64, bin_sub64, bin_and51, bin_and32, bin_and1, bin_and8_1, bin_or64, bin_xor64, bin_or8, bin_shl64, bin_shl64j, bin_shr64, bin_shr64j, bin_shl8j, bin_shr8j, bin_quo64, bin_rem64, bin_quo32, bin_rem32, bin_addj, bin_subj, bin_quoj, bin_remj, bin_eqlj, bin_neqj, bin_lssj, bin_leqj, bin_gtrj, bin_geqj, bin_eql64, bin_lss64, bin_gtr64, bin_eql8, bin_rem8, lenA_tx, ex_prim, primA_some, AS.lits, prim_ix, prim_sub, prim_sub2, prim_min, prim_ib, ex_b2s, textOf_eq, textA_sl, textA_nil, lend_own, lendRow_row, lend_sl, lend_lit, bin_adds, bin_eqls, bin_neqs, bin_geq8, bin_leq8, bin_lss8, bin_gtr8, bin_neq8, bin_sub8, bin_quo8, bin_add8, bin_mulj, cvt_j8, cvt_8j]; exact rfl) (wp_sg ?_)
      refine areg_ca (by simp [AS.ev, AS.coe, AS.put] <;> exact rfl) ca ?_
      refine areg_end (by simp [runPre, AOp.ex, AOp.ex0, ex_mov, ex_bin, binA_lit, ex_cvt, ex_iaddrA, ex_iaddrS, ex_faddr, ex_load, ldA, ex_ext, ex_add64, add64A_un, ex_pick, ex_beq, ex_un, ex_len, lenA_sl, lenA_nil, lenA_str, lenA_own, lenRow_row, elA_own, elA_sl, elRow_row, ex_nilc, ex_build, ex_bslice, ex_fieldv, AOp.ro, AS.ev, AS.put, AS.fieldAddr, idxA_ptr, idxA_cptr, AS.peek, AS.poke, AS.blk, AS.setBlk, AV.nav, AV.upd, Blk.loc, Blk.cont, Blk.n, Blk.may, Blk.upd, AV.isAgg, AV.isTup, AV.sz, unVal, ownOk, fillAV, AV.sub, cvt_64j, cvt_64b, cvt_64w, cvt_8u, cvt_8w, bin_add64, bin_mul64, bin_sub64, bin_and51, bin_and32, bin_and1, bin_and8_1, bin_or64, bin_xor64, bin_or8, bin_shl64, bin_shl64j, bin_shr64, bin_shr64j, bin_shl8j, bin_shr8j, bin_quo64, bin_rem64, bin_quo32, bin_rem32, bin_addj, bin_subj, bin_quoj, bin_remj, bin_eqlj, bin_neqj, bin_lssj, bin_leqj, bin_gtrj, bin_geqj, bin_eql64, bin_lss64, bin_gtr64, bin_eql8, bin_rem8, lenA_tx, ex_prim, primA_some, AS.lits, prim_ix, prim_sub, prim_sub2, prim_min, prim_ib, ex_b2s, textOf_eq, textA_sl, textA_nil, lend_own, lendRow_row, lend_sl, lend_lit, bin_adds, bin_eqls, bin_neqs, bin_geq8, bin_leq8, bin_lss8, bin_gtr8, bin_neq8, bin_sub8, bin_quo8, bin_add8, bin_mulj, cvt_j8, cvt_8j, h4]; exact rfl) (wp_ret' ?_)
      exact fin_tmp (by simp [RVal, AS.coe, tt, AS.ev]) (by simp)
    · have hPL2 : PL ((wrAll ts).drop (skipN false (wrAll ts))) ts := by rw [hs0]; exact hPL
      obtain ⟨us, e, hus⟩ := cut_PL hPL2 (by omega)
      rw [e] at ct
      have cs := same_call ts us (sameT_of hus.symm) (by omega)
      generalize wrAll ts = T at *
      refine areg_ca (by simp [AS.ev, AS.coe, AS.put] <;> exact rfl) ct ?_
      refine areg_end (by simp [runPre, AOp.ex, AOp.ex0, ex_mov, ex_bin, binA_lit, ex_cvt, ex_iaddrA, ex_iaddrS, ex_faddr, ex_load, ldA, ex_ext, ex_add64, add64A_un, ex_pick, ex_beq, ex_un, ex_len, lenA_sl, lenA_nil, lenA_str, lenA_own, lenRow_row, elA_own, elA_sl, elRow_row, ex_nilc, ex_build, ex_bslice, ex_fieldv, AOp.ro, AS.ev, AS.put, AS.fieldAddr, idxA_ptr, idxA_cptr, AS.peek, AS.poke, AS.blk, AS.setBlk, AV.nav, AV.upd, Blk.loc, Blk.cont, Blk.n, Blk.may, Blk.upd, AV.isAgg, AV.isTup, AV.sz, unVal, ownOk, fillAV, AV.sub, cvt_64j, cvt_64b, cvt_64w, cvt_8u, cvt_8w, bin_add64, bin_mul64, bin_sub64, bin_and51, bin_and32, bin_and1, bin_and8_1, bin_or64, bin_xor64, bin_or8, bin_shl64, bin_shl64j, bin_shr64, bin_shr64j, bin_shl8j, bin_shr8j, bin_quo64, bin_rem64, bin_quo32, bin_rem32, bin_addj, bin_subj, bin_quoj, bin_remj, bin_eqlj, bin_neqj, bin_lssj, bin_leqj, bin_gtrj, bin_geqj, bin_eql64, bin_lss64, bin_gtr64, bin_eql8, bin_rem8, lenA_tx, ex_prim, primA_some, AS.lits, prim_ix, prim_sub, prim_sub2, prim_min, prim_ib, ex_b2s, textOf_eq, textA_sl, textA_nil, lend_own, lendRow_row, lend_sl, lend_lit, bin_adds, bin_eqls, bin_neqs, bin_geq8, bin_leq8, bin_lss8, bin_gtr8, bin_neq8, bin_sub8, bin_quo8, bin_add8, bin_mulj, cvt_j8, cvt_8j]; exact rfl) (wp_sg ?_)
      refine areg_ca (by simp [AS.ev, AS.coe, AS.put] <;> exact rfl) ca ?_
      refine areg_run 6 (by simp [runPre, AOp.ex, AOp.ex0, ex_mov, ex_bin, binA_lit, ex_cvt, ex_iaddrA, ex_iaddrS, ex_faddr, ex_load, ldA, ex_ext, ex_add64, add64A_un, ex_pick, ex_beq, ex_un, ex_len, lenA_sl, lenA_nil, lenA_str, lenA_own, lenRow_row, elA_own, elA_sl, elRow_row, ex_nilc, ex_build, ex_bslice, ex_fieldv, AOp.ro, AS.ev, AS.put, AS.fieldAddr, idxA_ptr, idxA_cptr, AS.peek, AS.poke, AS.blk, AS.setBlk, AV.nav, AV.upd, Blk.loc, Blk.cont, Blk.n, Blk.may, Blk.upd, AV.isAgg, AV.isTup, AV.sz, unVal, ownOk, fillAV, AV.sub, cvt_64j, cvt_64b, cvt_64w, cvt_8u, cvt_8w, bin_add64, bin_mul64, bin_sub64, bin_and51, bin_and32, bin_and1, bin_and8_1, bin_or64, bin_xor64, bin_or8, bin_shl64, bin_shl64j, bin_shr64, bin_shr64j, bin_shl8j, bin_shr8j, bin_quo64, bin_rem64, bin_quo32, bin_rem32, bin_addj, bin_subj, bin_quoj, bin_remj, bin_eqlj, bin_neqj, bin_lssj, bin_leqj, bin_gtrj, bin_geqj, bin_eql64, bin_lss64, bin_gtr64, bin_eql8, bin_rem8, lenA_tx, ex_prim, primA_some, AS.lits, prim_ix, prim_sub, prim_sub2, prim_min, prim_ib, ex_b2s, textOf_eq, textA_sl, textA_nil, lend_own, lendRow_row, lend_sl, lend_lit, bin_adds, bin_eqls, bin_neqs, bin_geq8, bin_leq8, bin_lss8, bin_gtr8, bin_neq8, bin_sub8, bin_quo8, bin_add8, bin_mulj, cvt_j8, cvt_8j]; exact rfl) ?_
      refine areg_g (by simp [AS.ev, AS.put]) (areg_lc (by simp [AS.ev, AS.lend, AS.put, AOp.ro, AS.blk] <;> exact rfl) rfl cs ?_)
      refine areg_end (by simp [runPre, AOp.ex, AOp.ex0, ex_mov, ex_bin, binA_lit, ex_cvt, ex_iaddrA, ex_iaddrS, ex_faddr, ex_load, ldA, ex_ext, ex_add64, add64A_un, ex_pick, ex_beq, ex_un, ex_len, lenA_sl, lenA_nil, lenA_str, lenA_own, lenRow_row, elA_own, elA_sl, elRow_row, ex_nilc, ex_build, ex_bslice, ex_fieldv, AOp.ro, AS.ev, AS.put, AS.fieldAddr, idxA_ptr, idxA_cptr, AS.peek, AS.poke, AS.blk, AS.setBlk, AV.nav, AV.upd, Blk.loc, Blk.cont, Blk.n, Blk.may, Blk.upd, AV.isAgg, AV.isTup, AV.sz, unVal, ownOk, fillAV, AV.sub, cvt_64j, cvt_64b, cvt_64w, cvt_8u, cvt_8w, bin_add64, bin_mul64, bin_sub64, bin_and51, bin_and32, bin_and1, bin_and8_1, bin_or64, bin_xor64, bin_or8, bin_shl64, bin_shl64j, bin_shr64, bin_shr64j, bin_shl8j, bin_shr8j, bin_quo64, bin_rem64, bin_quo32, bin_rem32, bin_addj, bin_subj, bin_quoj, bin_remj, bin_eqlj, bin_neqj, bin_lssj, bin_leqj, bin_gtrj, bin_geqj, bin_eql64, bin_lss64, bin_gtr64, bin_eql8, bin_rem8, lenA_tx, ex_prim, primA_some, AS.lits, prim_ix, prim_sub, prim_sub2, prim_min, prim_ib, ex_b2s, textOf_eq, textA_sl, textA_nil, lend_own, lendRow_row, lend_sl, lend_lit, bin_adds, bin_eqls, bin_neqs, bin_geq8, bin_leq8, bin_lss8, bin_gtr8, bin_neq8, bin_sub8, bin_quo8, bin_add8, bin_mulj, cvt_j8, cvt_8j]; exact rfl) (wp_ret' ?_)
      exact fin_tmp (by simp [RVal, AS.coe, tt, AS.ev]) (by simp)
end Go.Cab

/- The row's arguments: lists of bytes, and its close. -/
namespace Go.Cab
open Go.ChangeShapes Go.WideShapes Go.RowKit Go.ChangeAt

section
variable {H : Type} {enc : TypeId × Value → H} {P : Program}

theorem post_below {f : Func} {s : ChangeSpec} {apart fresh handsOn again : Bool} {W W' : World} {args : Array Value} {v : Value} {ds : List (DataW H)} {before : List MemPlace}
    (hvs : s.vars = []) (hW : DataW.Whole enc P f.params.toList s.vars apart W args.toList ds [] before)
    (hb : Below W.heap.size W W')
    (hres : ∀ (b : Nat) (sp : Nat → Bool) (hd : Bool), DataW.TrodAll enc P W' b sp hd f.resultTypes.toList (v.resultList f.resultTypes.size) (s.fn H (ds ++ [])).results [])
    (hargs : ∀ sp : Nat → Bool, (∀ p ∈ before, sp p.block = true) → DataW.TrodAll enc P W' 0 sp true f.params.toList args.toList (s.fn H (ds ++ [])).args before)
    (hvars : ∀ sp : Nat → Bool, DataW.TrodVars enc P W' sp s.vars (s.fn H (ds ++ [])).vars [])
    (hok : ∀ (j : Nat) (t : TypeId) (r : Value), f.resultTypes[j]? = some t → (v.resultList f.resultTypes.size)[j]? = some r → Value.okWide P W' .any 0 t r) :
    s.post enc P f apart fresh handsOn again W args v W' := by
  have hlt : ∀ p ∈ before, p.block < W.heap.size := fun p hp => hW.lt p hp
  refine ⟨ds, [], before, [], before, [], hW, hres _ _ _, hargs _ (fun p hp => by simpa using hlt p hp), hvars _, hb.frame _, fun _ => ?_⟩
  obtain ⟨_, _, _, _, _, hz, hn⟩ := hW
  refine ⟨hok, _, _, ([] ++ before) ++ [], ⟨[] ++ before, [], trodAll_append (hargs _ (fun _ _ => rfl)) (hres _ _ _), hvars _, rfl, fun b o hp => ?_, fun ha => ?_⟩, fun p hp _ => ?_⟩
  · have hp' : MemPlace.cell b o ∈ before := by simpa using hp
    have h1 := hz b o hp'
    rw [hb.frozen (p := ⟨b, o, none⟩) (hlt _ hp')]
    exact h1
  · simpa using hn ha
  · simpa using hp
end
end Go.Cab

namespace Go.Cab
open Go.ChangeShapes Go.WideShapes Go.RowKit

section
variable {H : Type} {enc : TypeId × Value → H} {P : Program} {W : World} {base : Nat} {sp : Nat → Bool} {held : Bool}

theorem At.app {Imm : Nat → Nat → Prop} {w : World} {b o : Nat} {c d : List Value} (h : At Imm w b o c) (k : At Imm w b (o + c.length) d) : At Imm w b o (c ++ d) := by
  intro i v hv
  by_cases hi : i < c.length
  · rw [List.getElem?_append_left hi] at hv; exact h i v hv
  · rw [List.getElem?_append_right (by omega)] at hv
    have := k (i - c.length) v hv
    rwa [show o + c.length + (i - c.length) = o + i by omega] at this

/-- The cells that the row's reading met, and that are there. -/
def StOf (W : World) (ps : List MemPlace) (b o : Nat) : Prop := MemPlace.cell b o ∈ ps ∧ (W.cell? ⟨b, o, none⟩).isSome = true

/-- A list that the row lets in. 'G': what is told of each element. -/
theorem open_sl {t k : TypeId} {c : Nat} (ht : P.underlying t = some (.slice k)) (hc : P.cellsOf k = c) (G : AV → Prop)
    (hel : ∀ (n : Nat) (cs : List Value) (x : DataW H × List MemPlace), DataW.trod enc P W base sp held n k cs = some x → cs.length = c → ∃ v, G v ∧ R (StOf W x.2) W v cs ∧ ∀ y ∈ cs, sc y = true)
    {r : Reach} {b0 : Nat} {v : Value} (hval : Value.okWide P W r b0 t v) {d : DataW H} {ps : List MemPlace} (hd : DataW.Trod enc P W base sp held t v d ps) :
    ∃ vs : List AV, (∀ u ∈ vs, G u) ∧ Rel (StOf W ps) W (.sl c vs) v := by
  obtain ⟨fuel, hf⟩ := hd
  have hv : (∃ a len cap, v = .slice a len cap) := by
    cases v <;> simp [Value.okWide, Cell.okWide, Cell.ok, ht] at hval ⊢
  obtain ⟨a0, len0, cap0, rfl⟩ := hv
  have hcs : (Value.slice a0 len0 cap0).cells.toList = [.slice a0 len0 cap0] := rfl
  rw [hcs] at hf
  rcases Go.Deep.open_slice ht hf with ⟨h1, h2⟩ | ⟨a, len, cap, m, n, D, Pl, h1, _, hle, _, hm, h2, hall⟩
  · cases h1
    exact ⟨[], by simp, .inr ⟨_, .slnil c, rfl⟩⟩
  · cases h1
    have hspot : a.spot = none := by
      simp only [Value.okWide, Cell.okWide, Cell.ok, ht] at hval
      exact hval.2.2.2.1
    have hps : ps = MemPlace.row a (m * P.cellsOf k) ++ (List.range m).flatMap Pl := congrArg Prod.snd h2
    rw [hc] at hps hall
    have hlm : len0 ≤ m := by rw [hm]; split <;> omega
    -- from the tail on
    have key : ∀ q, q ≤ len0 → ∃ (vs : List AV) (cs : List Value), (∀ u ∈ vs, G u) ∧ vs.length = q ∧ cs.length = q * c ∧ R (StOf W ps) W (.arr c vs) cs ∧ At (StOf W ps) W a.block (a.off + (len0 - q) * c) cs := by
      intro q
      induction q with
      | zero => exact fun _ => ⟨[], [], by simp, rfl, by simp, .arr0 c, fun i v hv => by simp at hv⟩
      | succ q ih =>
        intro hq
        obtain ⟨vs, cs, g1, g2, g3, g4, g5⟩ := ih (by omega)
        have hi : len0 - (q + 1) < m := by omega
        obtain ⟨cs', k1, k2⟩ := hall (len0 - (q + 1)) hi
        obtain ⟨_, hl', hget⟩ := World.cells?_some k1
        obtain ⟨u, u1, u2, u3⟩ := hel n cs' _ k2 hl'
        refine ⟨u :: vs, cs' ++ cs, ?_, by simp [g2], by rw [List.length_append, hl', g3, Nat.succ_mul]; omega, .arr1 c u vs cs' cs (u2.mono (fun b o hb => ?_) (fun _ _ _ => rfl)) hl' u3 g4, At.app ?_ ?_⟩
        · intro x hx
          rcases List.mem_cons.1 hx with rfl | hx
          · exact u1
          · exact g1 x hx
        · rw [hps]
          exact ⟨List.mem_append_right _ (List.mem_flatMap.2 ⟨_, List.mem_range.2 hi, hb.1⟩), hb.2⟩
        · intro j y hy
          have hj : j < c := by rw [← hl']; exact (List.getElem?_eq_some_iff.1 hy).1
          have h3 := hget j hj
          rw [Go.Deep.add_add] at h3
          have e1 : a.add ((len0 - (q + 1)) * c + j) = ⟨a.block, a.off + (len0 - (q + 1)) * c + j, none⟩ := by
            unfold Addr.add
            split
            · rename_i h0
              obtain ⟨b, o, s⟩ := a
              simp only at hspot ⊢
              rw [hspot]; congr 1; omega
            · rw [Nat.add_assoc]
          rw [e1] at h3
          refine ⟨by rw [h3]; exact hy, ?_, by rw [h3, hy]; rfl⟩
          rw [hps]
          refine List.mem_append_left _ (MemPlace.mem_row.2 ⟨(len0 - (q + 1)) * c + j, ?_, by rw [Nat.add_assoc]⟩)
          have := Nat.mul_le_mul_right c (show len0 - (q + 1) + 1 ≤ m by omega)
          rw [Nat.succ_mul] at this
          omega
        · rw [hl']
          have e2 : a.off + (len0 - (q + 1)) * c + c = a.off + (len0 - q) * c := by
            have e3 : len0 - q = (len0 - (q + 1)) + 1 := by omega
            rw [e3, Nat.succ_mul]; omega
          rw [e2]
          exact g5
    obtain ⟨vs, cs, g1, g2, g3, g4, g5⟩ := key len0 (Nat.le_refl _)
    rw [Nat.sub_self, Nat.zero_mul, Nat.add_zero] at g5
    have ea : a = ⟨a.block, a.off, none⟩ := by obtain ⟨b, o, s⟩ := a; simp only at hspot; rw [hspot]
    refine ⟨vs, g1, .inr ⟨_, .sl c vs cs a.block a.off cap0 g4 g5 (by omega), ?_⟩⟩
    show Value.slice (some a) len0 cap0 = Value.slice (some ⟨a.block, a.off, none⟩) vs.length cap0
    rw [g2, ← ea]

theorem map_of_each {α β : Type} {f : α → β} : ∀ {l : List β}, (∀ u ∈ l, ∃ n, u = f n) → ∃ ks : List α, l = ks.map f
  | [], _ => ⟨[], rfl⟩
  | u :: l, h => by
    obtain ⟨n, rfl⟩ := h u (by simp)
    obtain ⟨ks, e⟩ := map_of_each (l := l) (fun x hx => h x (List.mem_cons_of_mem _ hx))
    exact ⟨n :: ks, by rw [e]; rfl⟩

/-- A list of bytes. -/
theorem open_bytes {t e : TypeId} (ht : P.underlying t = some (.slice e)) (he : P.underlying e = some (.int .u8)) (h1 : P.cellsOf e = 1)
    {r : Reach} {b0 : Nat} {v : Value} (hval : Value.okWide P W r b0 t v) {d : DataW H} {ps : List MemPlace} (hd : DataW.Trod enc P W base sp held t v d ps) :
    ∃ bs : List Nat, (∀ n ∈ bs, n < 256) ∧ Rel (StOf W ps) W (.sl 1 (bs.map fun n => .lit (bn n))) v := by
  obtain ⟨vs, g1, g2⟩ := open_sl ht h1 (fun u => ∃ n : {n : Nat // n < 256}, u = .lit (bn n.1)) (fun n cs x hx hl => by
    obtain ⟨a, rfl, _, wa⟩ := DataW.trod_int he hx
    simp [Lit.wf, IntKind.min, IntKind.max, IntKind.signed, IntKind.bits] at wa
    refine ⟨_, ⟨⟨a.toNat, by omega⟩, rfl⟩, ?_, fun y hy => by simp at hy; rw [hy]; rfl⟩
    have : Value.int .u8 a = bn a.toNat := by unfold bn; rw [Int.toNat_of_nonneg (by omega)]
    rw [this]
    exact .lit _ rfl) hval hd
  obtain ⟨ks, rfl⟩ := map_of_each (f := fun n : {n : Nat // n < 256} => AV.lit (bn n.1)) g1
  refine ⟨ks.map (·.1), fun n hn => ?_, by rw [List.map_map]; exact g2⟩
  obtain ⟨a, _, rfl⟩ := List.mem_map.1 hn
  exact a.2
end
theorem t5 : Go.Proofs.Try.prog.underlying 5 = some (.int .u8) := by kernel_rfl
theorem c5 : Go.Proofs.Try.prog.cellsOf 5 = 1 := by kernel_rfl
end Go.Cab

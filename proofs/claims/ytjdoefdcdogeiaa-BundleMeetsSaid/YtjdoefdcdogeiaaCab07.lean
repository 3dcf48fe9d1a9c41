/- Part 7 of what the proof stands on: G5, G6, G7. -/
import Derived.Test.YtjdoefdcdogeiaaCab06
set_option linter.unusedSimpArgs false
set_option linter.unnecessarySimpa false
set_option linter.unusedVariables false
set_option linter.unusedSectionVars false
/- Free kit: keys compared; number. -/
-- TEXTS
-- KIT
namespace Go.Cab
open Classical
def fb431 : AC := (.seq (.reg [⟨(.some 3), .none, (.box 32 (.tmp 1)), [], .none⟩, ⟨(.some 4), .none, (.mov (.const (jn 0))), [], .none⟩]) (.seq (.reg [⟨(.some 6), .none, (.iaddrA 32 1 (.tmp 3) (.const (jn 4))), [], .none⟩, ⟨(.some 7), .none, (.load .false 1 (.tmp 6)), [], .none⟩, ⟨(.some 8), .none, (.cvt .i64 (.tmp 7)), [], .none⟩, ⟨(.some 9), .none, (.bin .shl (.tmp 8) (.const (un 24))), [], .none⟩, ⟨(.some 10), .none, (.iaddrA 32 1 (.tmp 3) (.const (jn 5))), [], .none⟩, ⟨(.some 11), .none, (.load .false 1 (.tmp 10)), [], .none⟩, ⟨(.some 12), .none, (.cvt .i64 (.tmp 11)), [], .none⟩, ⟨(.some 13), .none, (.bin .shl (.tmp 12) (.const (un 16))), [], .none⟩, ⟨(.some 14), .none, (.bin .or (.tmp 9) (.tmp 13)), [], .none⟩, ⟨(.some 15), .none, (.iaddrA 32 1 (.tmp 3) (.const (jn 6))), [], .none⟩, ⟨(.some 16), .none, (.load .false 1 (.tmp 15)), [], .none⟩, ⟨(.some 17), .none, (.cvt .i64 (.tmp 16)), [], .none⟩, ⟨(.some 18), .none, (.bin .shl (.tmp 17) (.const (un 8))), [], .none⟩, ⟨(.some 19), .none, (.bin .or (.tmp 14) (.tmp 18)), [], .none⟩, ⟨(.some 20), .none, (.iaddrA 32 1 (.tmp 3) (.const (jn 7))), [], .none⟩, ⟨(.some 21), .none, (.load .false 1 (.tmp 20)), [], .none⟩, ⟨(.some 22), .none, (.cvt .i64 (.tmp 21)), [], .none⟩, ⟨(.some 23), .none, (.bin .or (.tmp 19) (.tmp 22)), [], .none⟩, ⟨(.some 5), .none, (.mov (.tmp 23)), [], .none⟩]) (.seq (.seq (.reg [⟨(.some 24), .none, (.mov (.tmp 5)), [], .none⟩, ⟨(.some 25), .none, (.mov (.tmp 0)), [], .none⟩, ⟨(.some 26), .none, (.nilc (.tmp 25)), [], .none⟩, ⟨(.some 27), .none, (.faddr 0 0 (.tmp 26)), [], .none⟩, ⟨(.some 28), .none, (.load .false 1 (.tmp 27)), [], .none⟩, ⟨(.some 29), .none, (.len .false (.tmp 28)), [], .none⟩, ⟨(.some 30), .none, (.bin .geq (.tmp 24) (.tmp 29)), [], .none⟩, ⟨(.some 31), .none, (.mov (.tmp 30)), [], .none⟩, ⟨(.some 32), (.some (31, .false)), (.mov (.tmp 5)), [], .none⟩, ⟨(.some 33), (.some (31, .false)), (.callv 25 [(.tmp 32)]), [], .none⟩, ⟨(.some 34), (.some (31, .false)), (.load .true 32 (.tmp 3)), [], .none⟩, ⟨(.some 35), (.some (31, .false)), (.eqv 28 .true (.tmp 33) (.tmp 34)), [], .none⟩, ⟨(.some 36), .none, (.pick (.tmp 31) (.const (.bool .true)) (.tmp 35)), [], .none⟩]) (.cond (.tmp 36) (.seq (.reg [⟨(.some 4), .none, (.mov (.const (.int .i64 (-1)))), [], .none⟩]) .ret) .skip)) (.seq (.reg [⟨(.some 37), .none, (.mov (.tmp 5)), [], .none⟩, ⟨(.some 4), .none, (.mov (.tmp 37)), [], .none⟩]) .ret))))
def fc431 : FC := ⟨2, 38, [(.tmp 4)], fb431⟩
theorem fc431_eq : compF Go.Proofs.Try.prog 26 = some fc431 := by kernel_rfl

theorem mapM_some {α β : Type} {f : α → Option β} {g : α → β} : ∀ {l : List α}, (∀ i ∈ l, f i = some (g i)) → l.mapM f = some (l.map g)
  | [], _ => rfl
  | a :: l, h => by
    rw [List.mapM_cons, h a (by simp), mapM_some (fun i hi => h i (by simp [hi]))]
    rfl

theorem flat_single {α β : Type} (f : α → β) : ∀ (l : List α), (l.map fun i => [f i]).flatten = l.map f
  | [] => rfl
  | a :: l => by simp [flat_single f l]

theorem keyLits_row {P : Program} {t e : TypeId} {n : Nat} {q : IntKind} (hu : P.underlying t = some (.array n e)) (he : P.underlying e = some (.int q)) (hc : P.cellsOf t = n) (h1 : P.cellsOf e = 1) (x : Nat → Int)
    (hw : ∀ i, i < n → (Lit.int q (x i)).wf = true) (d : Nat) : P.keyLits (d + 2) t ((List.range n).map fun i => Value.int q (x i)) = some ((List.range n).map fun i => Lit.int q (x i)) := by
  unfold Program.keyLits
  simp only [hu]
  rw [if_pos (by simp [hc]), mapM_some (g := fun i => [Lit.int q (x i)])]
  · simp only [Option.map_some, flat_single]
  · intro i hi
    have hi' : i < n := by simpa using hi
    rw [h1, Nat.mul_one]
    have e1 : (((List.range n).map fun i => Value.int q (x i)).drop i).take 1 = [Value.int q (x i)] := by
      apply List.ext_getElem?
      intro k
      rw [List.getElem?_take, List.getElem?_drop]
      cases k with
      | zero => simp [hi']
      | succ k => simp
    rw [e1]
    unfold Program.keyLits
    simp only [he]
    rw [if_pos ⟨trivial, hw i hi'⟩]

theorem wf_bn {x : Nat} (h : x < 256) : (Lit.int .u8 (x : Int)).wf = true := by
  simp [Lit.wf, IntKind.min, IntKind.max, IntKind.signed, IntKind.bits]
  omega

theorem map_range (k : List UInt8) : (k.map fun b => bn b.toNat) = (List.range k.length).map fun i => Value.int .u8 (((k.getD i 0).toNat : Nat) : Int) := by
  apply List.ext_getElem?
  intro i
  by_cases h : i < k.length
  · simp [h, bn]
  · simp [h]

theorem eq_keyP {P : Program} (hu : P.underlying 28 = some (.array 32 5)) (he : P.underlying 5 = some (.int .u8)) (hc : P.cellsOf 28 = 32) (h1 : P.cellsOf 5 = 1) {a b : List UInt8} (ha : a.length = 32) (hb : b.length = 32) :
    EqAV P 28 (keyA a) (keyA b) (decide (a = b)) := by
  intro Imm w cs cs' hx hy
  have ex := R_bl hx
  have ey := R_bl hy
  rw [map_range, ha] at ex
  rw [map_range, hb] at ey
  subst ex ey
  have lt : ∀ (l : List UInt8) i, (l.getD i 0).toNat < 256 := fun l i => (l.getD i 0).toNat_lt
  refine ⟨2, 2, _, _, ?_, ?_, keyLits_row hu he hc h1 (fun i => (((a.getD i 0).toNat : Nat) : Int)) (fun i _ => wf_bn (lt a i)) 0, keyLits_row hu he hc h1 (fun i => (((b.getD i 0).toNat : Nat) : Int)) (fun i _ => wf_bn (lt b i)) 0, ?_⟩
  · simp only [keyA, asVal, Value.formed, hu]
    simp [hc]
  · simp only [keyA, asVal, Value.formed, hu]
    simp [hc]
  · rw [decide_eq_true_iff]
    constructor
    · rintro rfl; rfl
    · intro h
      apply List.ext_getElem?
      intro i
      by_cases hi : i < 32
      · have := congrArg (fun l => l[i]?) h
        simp only [List.getElem?_map, List.getElem?_range hi, Option.map_some, Option.some.injEq, Lit.int.injEq, true_and] at this
        have h2 : (a.getD i 0).toNat = (b.getD i 0).toNat := by omega
        have h3 := UInt8.toNat_inj.1 h2
        rw [List.getD_eq_getElem?_getD, List.getD_eq_getElem?_getD] at h3
        rw [List.getElem?_eq_getElem (by omega), List.getElem?_eq_getElem (by omega)] at h3 ⊢
        simpa using h3
      · rw [List.getElem?_eq_none (by omega), List.getElem?_eq_none (by omega)]
theorem eq_key {a b : List UInt8} (ha : a.length = 32) (hb : b.length = 32) : EqAV Go.Proofs.Try.prog 28 (keyA a) (keyA b) (decide (a = b)) :=
  eq_keyP (by kernel_rfl) (by kernel_rfl) (by kernel_rfl) (by kernel_rfl) ha hb

theorem key_at {k : List UInt8} (hk : k.length = 32) (i : Nat) (hi : i < 32) : (bl k)[i]? = some (.lit (bn (k.getD i 0).toNat)) := by
  simp [bl, List.getElem?_eq_getElem (show i < k.length by omega)]

/-- A caller's blocks, with the call's own behind them. -/
structure Cat (G : List (Option Blk)) (N : Nat) (t : Tb) (V : Value) (ts : List Term) : Prop where
  len : G.length = N
  ok : TbOk G t V ts
section
variable {G : List (Option Blk)} {N : Nat} {t : Tb} {V : Value} {ts : List Term}
theorem Cat.get (h : Cat G N t V ts) (L : List (Option Blk)) (k : Nat) : (G ++ L)[N + k]? = L[k]? := by rw [List.getElem?_append_right (by have := h.len; omega), h.len, Nat.add_sub_cancel_left]
theorem Cat.set (h : Cat G N t V ts) (L : List (Option Blk)) (k : Nat) (x : Option Blk) : (G ++ L).set (N + k) x = G ++ L.set k x := by rw [List.set_append_right _ _ (by have := h.len; omega), h.len, Nat.add_sub_cancel_left]
theorem Cat.gb (h : Cat G N t V ts) (L : List (Option Blk)) : (G ++ L)[t.b]? = some (some (.box t.l 2 (.st [1, 1] [.own t.j V, .own t.m (.map (some t.r))]))) := by rw [List.getElem?_append_left h.ok.lb]; exact h.ok.hb
theorem Cat.gj (h : Cat G N t V ts) (L : List (Option Blk)) : (G ++ L)[t.j]? = some (some (.row 74 V 3 (ts.map termA) 0)) := by rw [List.getElem?_append_left h.ok.lj]; exact h.ok.hj
theorem Cat.gm (h : Cat G N t V ts) (L : List (Option Blk)) : (G ++ L)[t.m]? = some (some (.map t.r (esOf ts) ts.length)) := by rw [List.getElem?_append_left h.ok.lm]; exact h.ok.hm
end

set_option maxHeartbeats 8000000 in
theorem number_call {H : List (Option Blk)} {t : Tb} {V : Value} {ts : List Term} (hh : TbOk H t V ts) (hn : ts.length < 100000) {k : List UInt8} (hk : k.length = 32) :
    XCall Go.Proofs.Try.prog 26 [.ptr t.b t.l 0 [], keyA k] H fun r H' => r = .lit (numV ts.length k) ∧ H' = H := by
  have h431 := fc431_eq
  refine XCall.le ?_
  have c1 := name_call (be32 k) (by have := be32_lt k; omega)
  have hC : Cat H H.length t V ts := ⟨rfl, hh⟩
  have q1 := hC.get; have q2 := hC.set; have q3 := hC.gb; have q4 := hC.gj
  refine XCall.of h431 rfl ?_; show AC.wp _ fb431 ⟨H.length, [.ptr t.b t.l 0 [], keyA k] ++ List.replicate (38 - 2) .any, H ++ List.replicate 38 none⟩ (fun x s => match x with | .exit _ => False | _ => ∃ s1, Le s s1 ∧ FinX [(.tmp 4)] s1 _); unfold fb431
  generalize hN : H.length = N at *
  refine wp_sg (areg_bx rfl (by simp [AS.ev, keyA, AV.sz, bl, hk]) fun l => areg_end (by simp [runPre, AOp.ex, AOp.ex0, ex_mov, ex_bin, binA_lit, ex_cvt, ex_iaddrA, ex_iaddrS, ex_faddr, ex_load, ldA, ex_ext, ex_add64, add64A_un, ex_pick, ex_beq, ex_un, ex_len, lenA_sl, lenA_nil, lenA_str, lenA_own, lenRow_row, elA_own, elA_sl, elRow_row, ex_nilc, ex_build, ex_bslice, ex_fieldv, AOp.ro, AS.ev, AS.put, AS.fieldAddr, idxA_ptr, idxA_cptr, AS.peek, AS.poke, AS.blk, AS.setBlk, AV.nav, AV.upd, Blk.loc, Blk.cont, Blk.n, Blk.may, Blk.upd, AV.isAgg, AV.isTup, AV.sz, unVal, ownOk, fillAV, AV.sub, cvt_64j, cvt_64b, cvt_64w, cvt_8u, cvt_8w, bin_add64, bin_mul64, bin_sub64, bin_and51, bin_and32, bin_and1, bin_and8_1, bin_or64, bin_xor64, bin_or8, bin_shl64, bin_shl64j, bin_shr64, bin_shr64j, bin_shl8j, bin_shr8j, bin_quo64, bin_rem64, bin_quo32, bin_rem32, bin_addj, bin_subj, bin_quoj, bin_remj, bin_eqlj, bin_neqj, bin_lssj, bin_leqj, bin_gtrj, bin_geqj, bin_eql64, bin_lss64, bin_gtr64, bin_eql8, bin_rem8, lenA_tx, ex_prim, primA_some, AS.lits, prim_ix, prim_sub, prim_sub2, prim_min, prim_ib, ex_b2s, textOf_eq, textA_sl, textA_nil, lend_own, lendRow_row, lend_sl, lend_lit, bin_adds, bin_eqls, bin_neqs, bin_geq8, bin_leq8, bin_lss8, bin_gtr8, bin_neq8, bin_sub8, bin_quo8, bin_add8, bin_mulj, cvt_j8, cvt_8j, AOp.mineB, AV.place, ex_rdp, ex_rd, rdB, bnds, efF, bin_shrju, bin_shlju, listB_tx, listB_sl, listB_nil, ex_tups, bound_jn, AV.isText, keyA_arr, bl_len, zk_len, nameK_len, q2]; exact rfl) ?_)
  have k4 := key_at hk 4 (by decide); have k5 := key_at hk 5 (by decide); have k6 := key_at hk 6 (by decide); have k7 := key_at hk 7 (by decide)
  have hbe : be32 k = be32 k := rfl
  conv at hbe => rhs; unfold be32
  have b4 := (k.getD 4 0).toNat_lt; have b5 := (k.getD 5 0).toNat_lt; have b6 := (k.getD 6 0).toNat_lt; have b7 := (k.getD 7 0).toNat_lt
  generalize (k.getD 4 0).toNat = a4 at *
  generalize (k.getD 5 0).toNat = a5 at *
  generalize (k.getD 6 0).toNat = a6 at *
  generalize (k.getD 7 0).toNat = a7 at *
  have e4 : ∀ h, (bl k)[4]'h = .lit (bn a4) := fun h => by rw [List.getElem?_eq_getElem h] at k4; exact Option.some.inj k4
  have e5 : ∀ h, (bl k)[5]'h = .lit (bn a5) := fun h => by rw [List.getElem?_eq_getElem h] at k5; exact Option.some.inj k5
  have e6 : ∀ h, (bl k)[6]'h = .lit (bn a6) := fun h => by rw [List.getElem?_eq_getElem h] at k6; exact Option.some.inj k6
  have e7 : ∀ h, (bl k)[7]'h = .lit (bn a7) := fun h => by rw [List.getElem?_eq_getElem h] at k7; exact Option.some.inj k7
  have o1 : binVal .or (jn (a4 * 16777216)) (jn (a5 * 65536)) = some (jn (a4 * 16777216 + a5 * 65536)) := by
    rw [bin_oraj _ _ (by omega) (by omega)]
    exact congrArg (fun x => some (jn x)) (or_add a4 (a5 * 65536) 24 (by omega))
  have o2 : binVal .or (jn (a4 * 16777216 + a5 * 65536)) (jn (a6 * 256)) = some (jn (a4 * 16777216 + a5 * 65536 + a6 * 256)) := by
    rw [bin_oraj _ _ (by omega) (by omega)]
    have := or_add (a4 * 256 + a5) (a6 * 256) 16 (by omega)
    have e : (a4 * 256 + a5) * 2 ^ 16 = a4 * 16777216 + a5 * 65536 := by omega
    rw [e] at this
    rw [this]
  have o3 : binVal .or (jn (a4 * 16777216 + a5 * 65536 + a6 * 256)) (jn a7) = some (jn (be32 k)) := by
    rw [bin_oraj _ _ (by omega) (by omega)]
    have := or_add (a4 * 65536 + a5 * 256 + a6) a7 8 (by omega)
    have e : (a4 * 65536 + a5 * 256 + a6) * 2 ^ 8 = a4 * 16777216 + a5 * 65536 + a6 * 256 := by omega
    rw [e] at this
    rw [this, hbe]
  have s1 : binVal .shl (jn a4) (un 24) = some (jn (a4 * 16777216)) := bin_shlju a4 24 (by show a4 * 16777216 < _; omega)
  have s2 : binVal .shl (jn a5) (un 16) = some (jn (a5 * 65536)) := bin_shlju a5 16 (by show a5 * 65536 < _; omega)
  have s3 : binVal .shl (jn a6) (un 8) = some (jn (a6 * 256)) := bin_shlju a6 8 (by show a6 * 256 < _; omega)
  have v4 := cvt_j8 a4 b4; have v5 := cvt_j8 a5 b5; have v6 := cvt_j8 a6 b6; have v7 := cvt_j8 a7 b7
  refine wp_sr (by simp [runPre, AOp.ex, AOp.ex0, ex_mov, ex_bin, binA_lit, ex_cvt, ex_iaddrA, ex_iaddrS, ex_faddr, ex_load, ldA, ex_ext, ex_add64, add64A_un, ex_pick, ex_beq, ex_un, ex_len, lenA_sl, lenA_nil, lenA_str, lenA_own, lenRow_row, elA_own, elA_sl, elRow_row, ex_nilc, ex_build, ex_bslice, ex_fieldv, AOp.ro, AS.ev, AS.put, AS.fieldAddr, idxA_ptr, idxA_cptr, AS.peek, AS.poke, AS.blk, AS.setBlk, AV.nav, AV.upd, Blk.loc, Blk.cont, Blk.n, Blk.may, Blk.upd, AV.isAgg, AV.isTup, AV.sz, unVal, ownOk, fillAV, AV.sub, cvt_64j, cvt_64b, cvt_64w, cvt_8u, cvt_8w, bin_add64, bin_mul64, bin_sub64, bin_and51, bin_and32, bin_and1, bin_and8_1, bin_or64, bin_xor64, bin_or8, bin_shl64, bin_shl64j, bin_shr64, bin_shr64j, bin_shl8j, bin_shr8j, bin_quo64, bin_rem64, bin_quo32, bin_rem32, bin_addj, bin_subj, bin_quoj, bin_remj, bin_eqlj, bin_neqj, bin_lssj, bin_leqj, bin_gtrj, bin_geqj, bin_eql64, bin_lss64, bin_gtr64, bin_eql8, bin_rem8, lenA_tx, ex_prim, primA_some, AS.lits, prim_ix, prim_sub, prim_sub2, prim_min, prim_ib, ex_b2s, textOf_eq, textA_sl, textA_nil, lend_own, lendRow_row, lend_sl, lend_lit, bin_adds, bin_eqls, bin_neqs, bin_geq8, bin_leq8, bin_lss8, bin_gtr8, bin_neq8, bin_sub8, bin_quo8, bin_add8, bin_mulj, cvt_j8, cvt_8j, AOp.mineB, AV.place, ex_rdp, ex_rd, rdB, bnds, efF, bin_shrju, bin_shlju, listB_tx, listB_sl, listB_nil, ex_tups, bound_jn, AV.isText, keyA_arr, bl_len, zk_len, nameK_len, q1, k4, k5, k6, k7, e4, e5, e6, e7, o1, o2, o3, s1, s2, s3, v4, v5, v6, v7]; exact rfl) ?_
  have hnum : ∀ b : Bool, b = decide (ts.length ≤ be32 k ∨ nameK (be32 k) ≠ k) → numV ts.length k = if b then .int .i64 (-1) else jn (be32 k) := fun b e => by
    unfold numV
    subst e
    by_cases h : ts.length ≤ be32 k ∨ nameK (be32 k) ≠ k
    · rw [if_pos h, if_pos (by simpa using h)]
    · rw [if_neg h, if_neg (by simpa using h)]
  refine wp_seq' (wp_seq' (wp_rg ?_))
  have efin : ∀ (b : Bool) (R : List (Option Blk)) (s : AS), b = decide (ts.length ≤ be32 k ∨ nameK (be32 k) ≠ k) → RVal s (.tmp 4) = some (.lit (if b then .int .i64 (-1) else jn (be32 k))) → s.hp = H ++ R → ∃ s1, Le s s1 ∧ FinX [RV.tmp 4] s1 fun r H' => ∃ r' A, RelLe r r' ∧ r' ≠ .any ∧ HpLe H' A ∧ r' = .lit (numV ts.length k) ∧ A = H := fun b R s e hr hR =>
    ⟨s, Le.refl _, finX1 hr (by simp) ⟨_, H, RelLe.refl _, by simp, by rw [hR]; exact HpLe.trim _ _, by rw [hnum b e], rfl⟩⟩
  by_cases hle : ts.length ≤ be32 k
  · refine areg_end (by simp [runPre, AOp.ex, AOp.ex0, ex_mov, ex_bin, binA_lit, ex_cvt, ex_iaddrA, ex_iaddrS, ex_faddr, ex_load, ldA, ex_ext, ex_add64, add64A_un, ex_pick, ex_beq, ex_un, ex_len, lenA_sl, lenA_nil, lenA_str, lenA_own, lenRow_row, elA_own, elA_sl, elRow_row, ex_nilc, ex_build, ex_bslice, ex_fieldv, AOp.ro, AS.ev, AS.put, AS.fieldAddr, idxA_ptr, idxA_cptr, AS.peek, AS.poke, AS.blk, AS.setBlk, AV.nav, AV.upd, Blk.loc, Blk.cont, Blk.n, Blk.may, Blk.upd, AV.isAgg, AV.isTup, AV.sz, unVal, ownOk, fillAV, AV.sub, cvt_64j, cvt_64b, cvt_64w, cvt_8u, cvt_8w, bin_add64, bin_mul64, bin_sub64, bin_and51, bin_and32, bin_and1, bin_and8_1, bin_or64, bin_xor64, bin_or8, bin_shl64, bin_shl64j, bin_shr64, bin_shr64j, bin_shl8j, bin_shr8j, bin_quo64, bin_rem64, bin_quo32, bin_rem32, bin_addj, bin_subj, bin_quoj, bin_remj, bin_eqlj, bin_neqj, bin_lssj, bin_leqj, bin_gtrj, bin_geqj, bin_eql64, bin_lss64, bin_gtr64, bin_eql8, bin_rem8, lenA_tx, ex_prim, primA_some, AS.lits, prim_ix, prim_sub, prim_sub2, prim_min, prim_ib, ex_b2s, textOf_eq, textA_sl, textA_nil, lend_own, lendRow_row, lend_sl, lend_lit, bin_adds, bin_eqls, bin_neqs, bin_geq8, bin_leq8, bin_lss8, bin_gtr8, bin_neq8, bin_sub8, bin_quo8, bin_add8, bin_mulj, cvt_j8, cvt_8j, AOp.mineB, AV.place, ex_rdp, ex_rd, rdB, bnds, efF, bin_shrju, bin_shlju, listB_tx, listB_sl, listB_nil, ex_tups, bound_jn, AV.isText, keyA_arr, bl_len, zk_len, nameK_len, q1, q3, q4, hle]; exact rfl) ?_
    refine wp_cond_t rfl ?_
    refine wp_sr (by simp [runPre, AOp.ex, AOp.ex0, ex_mov, ex_bin, binA_lit, ex_cvt, ex_iaddrA, ex_iaddrS, ex_faddr, ex_load, ldA, ex_ext, ex_add64, add64A_un, ex_pick, ex_beq, ex_un, ex_len, lenA_sl, lenA_nil, lenA_str, lenA_own, lenRow_row, elA_own, elA_sl, elRow_row, ex_nilc, ex_build, ex_bslice, ex_fieldv, AOp.ro, AS.ev, AS.put, AS.fieldAddr, idxA_ptr, idxA_cptr, AS.peek, AS.poke, AS.blk, AS.setBlk, AV.nav, AV.upd, Blk.loc, Blk.cont, Blk.n, Blk.may, Blk.upd, AV.isAgg, AV.isTup, AV.sz, unVal, ownOk, fillAV, AV.sub, cvt_64j, cvt_64b, cvt_64w, cvt_8u, cvt_8w, bin_add64, bin_mul64, bin_sub64, bin_and51, bin_and32, bin_and1, bin_and8_1, bin_or64, bin_xor64, bin_or8, bin_shl64, bin_shl64j, bin_shr64, bin_shr64j, bin_shl8j, bin_shr8j, bin_quo64, bin_rem64, bin_quo32, bin_rem32, bin_addj, bin_subj, bin_quoj, bin_remj, bin_eqlj, bin_neqj, bin_lssj, bin_leqj, bin_gtrj, bin_geqj, bin_eql64, bin_lss64, bin_gtr64, bin_eql8, bin_rem8, lenA_tx, ex_prim, primA_some, AS.lits, prim_ix, prim_sub, prim_sub2, prim_min, prim_ib, ex_b2s, textOf_eq, textA_sl, textA_nil, lend_own, lendRow_row, lend_sl, lend_lit, bin_adds, bin_eqls, bin_neqs, bin_geq8, bin_leq8, bin_lss8, bin_gtr8, bin_neq8, bin_sub8, bin_quo8, bin_add8, bin_mulj, cvt_j8, cvt_8j, AOp.mineB, AV.place, ex_rdp, ex_rd, rdB, bnds, efF, bin_shrju, bin_shlju, listB_tx, listB_sl, listB_nil, ex_tups, bound_jn, AV.isText, keyA_arr, bl_len, zk_len, nameK_len]; exact rfl) (wp_ret' ?_)
    exact efin true _ _ (by simp [hle]) rfl rfl
  · refine areg_run 9 (by simp [runPre, AOp.ex, AOp.ex0, ex_mov, ex_bin, binA_lit, ex_cvt, ex_iaddrA, ex_iaddrS, ex_faddr, ex_load, ldA, ex_ext, ex_add64, add64A_un, ex_pick, ex_beq, ex_un, ex_len, lenA_sl, lenA_nil, lenA_str, lenA_own, lenRow_row, elA_own, elA_sl, elRow_row, ex_nilc, ex_build, ex_bslice, ex_fieldv, AOp.ro, AS.ev, AS.put, AS.fieldAddr, idxA_ptr, idxA_cptr, AS.peek, AS.poke, AS.blk, AS.setBlk, AV.nav, AV.upd, Blk.loc, Blk.cont, Blk.n, Blk.may, Blk.upd, AV.isAgg, AV.isTup, AV.sz, unVal, ownOk, fillAV, AV.sub, cvt_64j, cvt_64b, cvt_64w, cvt_8u, cvt_8w, bin_add64, bin_mul64, bin_sub64, bin_and51, bin_and32, bin_and1, bin_and8_1, bin_or64, bin_xor64, bin_or8, bin_shl64, bin_shl64j, bin_shr64, bin_shr64j, bin_shl8j, bin_shr8j, bin_quo64, bin_rem64, bin_quo32, bin_rem32, bin_addj, bin_subj, bin_quoj, bin_remj, bin_eqlj, bin_neqj, bin_lssj, bin_leqj, bin_gtrj, bin_geqj, bin_eql64, bin_lss64, bin_gtr64, bin_eql8, bin_rem8, lenA_tx, ex_prim, primA_some, AS.lits, prim_ix, prim_sub, prim_sub2, prim_min, prim_ib, ex_b2s, textOf_eq, textA_sl, textA_nil, lend_own, lendRow_row, lend_sl, lend_lit, bin_adds, bin_eqls, bin_neqs, bin_geq8, bin_leq8, bin_lss8, bin_gtr8, bin_neq8, bin_sub8, bin_quo8, bin_add8, bin_mulj, cvt_j8, cvt_8j, AOp.mineB, AV.place, ex_rdp, ex_rd, rdB, bnds, efF, bin_shrju, bin_shlju, listB_tx, listB_sl, listB_nil, ex_tups, bound_jn, AV.isText, keyA_arr, bl_len, zk_len, nameK_len, q1, q3, q4, hle]; exact rfl) ?_
    refine areg_g (by simp [AS.ev, AS.put]) (areg_cv (by simp [AS.ev, AS.coe, AS.put] <;> exact rfl) c1 ?_)
    refine areg_run 1 (by simp [runPre, AOp.ex, AOp.ex0, ex_mov, ex_bin, binA_lit, ex_cvt, ex_iaddrA, ex_iaddrS, ex_faddr, ex_load, ldA, ex_ext, ex_add64, add64A_un, ex_pick, ex_beq, ex_un, ex_len, lenA_sl, lenA_nil, lenA_str, lenA_own, lenRow_row, elA_own, elA_sl, elRow_row, ex_nilc, ex_build, ex_bslice, ex_fieldv, AOp.ro, AS.ev, AS.put, AS.fieldAddr, idxA_ptr, idxA_cptr, AS.peek, AS.poke, AS.blk, AS.setBlk, AV.nav, AV.upd, Blk.loc, Blk.cont, Blk.n, Blk.may, Blk.upd, AV.isAgg, AV.isTup, AV.sz, unVal, ownOk, fillAV, AV.sub, cvt_64j, cvt_64b, cvt_64w, cvt_8u, cvt_8w, bin_add64, bin_mul64, bin_sub64, bin_and51, bin_and32, bin_and1, bin_and8_1, bin_or64, bin_xor64, bin_or8, bin_shl64, bin_shl64j, bin_shr64, bin_shr64j, bin_shl8j, bin_shr8j, bin_quo64, bin_rem64, bin_quo32, bin_rem32, bin_addj, bin_subj, bin_quoj, bin_remj, bin_eqlj, bin_neqj, bin_lssj, bin_leqj, bin_gtrj, bin_geqj, bin_eql64, bin_lss64, bin_gtr64, bin_eql8, bin_rem8, lenA_tx, ex_prim, primA_some, AS.lits, prim_ix, prim_sub, prim_sub2, prim_min, prim_ib, ex_b2s, textOf_eq, textA_sl, textA_nil, lend_own, lendRow_row, lend_sl, lend_lit, bin_adds, bin_eqls, bin_neqs, bin_geq8, bin_leq8, bin_lss8, bin_gtr8, bin_neq8, bin_sub8, bin_quo8, bin_add8, bin_mulj, cvt_j8, cvt_8j, AOp.mineB, AV.place, ex_rdp, ex_rd, rdB, bnds, efF, bin_shrju, bin_shlju, listB_tx, listB_sl, listB_nil, ex_tups, bound_jn, AV.isText, keyA_arr, bl_len, zk_len, nameK_len, q1]; exact rfl) ?_
    have e1 := eq_key (nameK_len (be32 k)) hk
    refine areg_g (by simp [AS.ev, AS.put]) (areg_eq (by simp [AS.ev, AS.put] <;> exact rfl) (by simp [AS.ev, AS.put] <;> exact rfl) e1 rfl rfl ?_)
    by_cases hne : nameK (be32 k) = k
    · refine areg_end (by simp [runPre, AOp.ex, AOp.ex0, ex_mov, ex_bin, binA_lit, ex_cvt, ex_iaddrA, ex_iaddrS, ex_faddr, ex_load, ldA, ex_ext, ex_add64, add64A_un, ex_pick, ex_beq, ex_un, ex_len, lenA_sl, lenA_nil, lenA_str, lenA_own, lenRow_row, elA_own, elA_sl, elRow_row, ex_nilc, ex_build, ex_bslice, ex_fieldv, AOp.ro, AS.ev, AS.put, AS.fieldAddr, idxA_ptr, idxA_cptr, AS.peek, AS.poke, AS.blk, AS.setBlk, AV.nav, AV.upd, Blk.loc, Blk.cont, Blk.n, Blk.may, Blk.upd, AV.isAgg, AV.isTup, AV.sz, unVal, ownOk, fillAV, AV.sub, cvt_64j, cvt_64b, cvt_64w, cvt_8u, cvt_8w, bin_add64, bin_mul64, bin_sub64, bin_and51, bin_and32, bin_and1, bin_and8_1, bin_or64, bin_xor64, bin_or8, bin_shl64, bin_shl64j, bin_shr64, bin_shr64j, bin_shl8j, bin_shr8j, bin_quo64, bin_rem64, bin_quo32, bin_rem32, bin_addj, bin_subj, bin_quoj, bin_remj, bin_eqlj, bin_neqj, bin_lssj, bin_leqj, bin_gtrj, bin_geqj, bin_eql64, bin_lss64, bin_gtr64, bin_eql8, bin_rem8, lenA_tx, ex_prim, primA_some, AS.lits, prim_ix, prim_sub, prim_sub2, prim_min, prim_ib, ex_b2s, textOf_eq, textA_sl, textA_nil, lend_own, lendRow_row, lend_sl, lend_lit, bin_adds, bin_eqls, bin_neqs, bin_geq8, bin_leq8, bin_lss8, bin_gtr8, bin_neq8, bin_sub8, bin_quo8, bin_add8, bin_mulj, cvt_j8, cvt_8j, AOp.mineB, AV.place, ex_rdp, ex_rd, rdB, bnds, efF, bin_shrju, bin_shlju, listB_tx, listB_sl, listB_nil, ex_tups, bound_jn, AV.isText, keyA_arr, bl_len, zk_len, nameK_len, hne]; exact rfl) ?_
      refine wp_cond_f rfl (wp_skip' (wp_sr (by simp [runPre, AOp.ex, AOp.ex0, ex_mov, ex_bin, binA_lit, ex_cvt, ex_iaddrA, ex_iaddrS, ex_faddr, ex_load, ldA, ex_ext, ex_add64, add64A_un, ex_pick, ex_beq, ex_un, ex_len, lenA_sl, lenA_nil, lenA_str, lenA_own, lenRow_row, elA_own, elA_sl, elRow_row, ex_nilc, ex_build, ex_bslice, ex_fieldv, AOp.ro, AS.ev, AS.put, AS.fieldAddr, idxA_ptr, idxA_cptr, AS.peek, AS.poke, AS.blk, AS.setBlk, AV.nav, AV.upd, Blk.loc, Blk.cont, Blk.n, Blk.may, Blk.upd, AV.isAgg, AV.isTup, AV.sz, unVal, ownOk, fillAV, AV.sub, cvt_64j, cvt_64b, cvt_64w, cvt_8u, cvt_8w, bin_add64, bin_mul64, bin_sub64, bin_and51, bin_and32, bin_and1, bin_and8_1, bin_or64, bin_xor64, bin_or8, bin_shl64, bin_shl64j, bin_shr64, bin_shr64j, bin_shl8j, bin_shr8j, bin_quo64, bin_rem64, bin_quo32, bin_rem32, bin_addj, bin_subj, bin_quoj, bin_remj, bin_eqlj, bin_neqj, bin_lssj, bin_leqj, bin_gtrj, bin_geqj, bin_eql64, bin_lss64, bin_gtr64, bin_eql8, bin_rem8, lenA_tx, ex_prim, primA_some, AS.lits, prim_ix, prim_sub, prim_sub2, prim_min, prim_ib, ex_b2s, textOf_eq, textA_sl, textA_nil, lend_own, lendRow_row, lend_sl, lend_lit, bin_adds, bin_eqls, bin_neqs, bin_geq8, bin_leq8, bin_lss8, bin_gtr8, bin_neq8, bin_sub8, bin_quo8, bin_add8, bin_mulj, cvt_j8, cvt_8j, AOp.mineB, AV.place, ex_rdp, ex_rd, rdB, bnds, efF, bin_shrju, bin_shlju, listB_tx, listB_sl, listB_nil, ex_tups, bound_jn, AV.isText, keyA_arr, bl_len, zk_len, nameK_len]; exact rfl) (wp_ret' ?_)))
      exact efin false _ _ (by simp [hle, hne]) rfl rfl
    · refine areg_end (by simp [runPre, AOp.ex, AOp.ex0, ex_mov, ex_bin, binA_lit, ex_cvt, ex_iaddrA, ex_iaddrS, ex_faddr, ex_load, ldA, ex_ext, ex_add64, add64A_un, ex_pick, ex_beq, ex_un, ex_len, lenA_sl, lenA_nil, lenA_str, lenA_own, lenRow_row, elA_own, elA_sl, elRow_row, ex_nilc, ex_build, ex_bslice, ex_fieldv, AOp.ro, AS.ev, AS.put, AS.fieldAddr, idxA_ptr, idxA_cptr, AS.peek, AS.poke, AS.blk, AS.setBlk, AV.nav, AV.upd, Blk.loc, Blk.cont, Blk.n, Blk.may, Blk.upd, AV.isAgg, AV.isTup, AV.sz, unVal, ownOk, fillAV, AV.sub, cvt_64j, cvt_64b, cvt_64w, cvt_8u, cvt_8w, bin_add64, bin_mul64, bin_sub64, bin_and51, bin_and32, bin_and1, bin_and8_1, bin_or64, bin_xor64, bin_or8, bin_shl64, bin_shl64j, bin_shr64, bin_shr64j, bin_shl8j, bin_shr8j, bin_quo64, bin_rem64, bin_quo32, bin_rem32, bin_addj, bin_subj, bin_quoj, bin_remj, bin_eqlj, bin_neqj, bin_lssj, bin_leqj, bin_gtrj, bin_geqj, bin_eql64, bin_lss64, bin_gtr64, bin_eql8, bin_rem8, lenA_tx, ex_prim, primA_some, AS.lits, prim_ix, prim_sub, prim_sub2, prim_min, prim_ib, ex_b2s, textOf_eq, textA_sl, textA_nil, lend_own, lendRow_row, lend_sl, lend_lit, bin_adds, bin_eqls, bin_neqs, bin_geq8, bin_leq8, bin_lss8, bin_gtr8, bin_neq8, bin_sub8, bin_quo8, bin_add8, bin_mulj, cvt_j8, cvt_8j, AOp.mineB, AV.place, ex_rdp, ex_rd, rdB, bnds, efF, bin_shrju, bin_shlju, listB_tx, listB_sl, listB_nil, ex_tups, bound_jn, AV.isText, keyA_arr, bl_len, zk_len, nameK_len, hne]; exact rfl) ?_
      refine wp_cond_t rfl ?_
      refine wp_sr (by simp [runPre, AOp.ex, AOp.ex0, ex_mov, ex_bin, binA_lit, ex_cvt, ex_iaddrA, ex_iaddrS, ex_faddr, ex_load, ldA, ex_ext, ex_add64, add64A_un, ex_pick, ex_beq, ex_un, ex_len, lenA_sl, lenA_nil, lenA_str, lenA_own, lenRow_row, elA_own, elA_sl, elRow_row, ex_nilc, ex_build, ex_bslice, ex_fieldv, AOp.ro, AS.ev, AS.put, AS.fieldAddr, idxA_ptr, idxA_cptr, AS.peek, AS.poke, AS.blk, AS.setBlk, AV.nav, AV.upd, Blk.loc, Blk.cont, Blk.n, Blk.may, Blk.upd, AV.isAgg, AV.isTup, AV.sz, unVal, ownOk, fillAV, AV.sub, cvt_64j, cvt_64b, cvt_64w, cvt_8u, cvt_8w, bin_add64, bin_mul64, bin_sub64, bin_and51, bin_and32, bin_and1, bin_and8_1, bin_or64, bin_xor64, bin_or8, bin_shl64, bin_shl64j, bin_shr64, bin_shr64j, bin_shl8j, bin_shr8j, bin_quo64, bin_rem64, bin_quo32, bin_rem32, bin_addj, bin_subj, bin_quoj, bin_remj, bin_eqlj, bin_neqj, bin_lssj, bin_leqj, bin_gtrj, bin_geqj, bin_eql64, bin_lss64, bin_gtr64, bin_eql8, bin_rem8, lenA_tx, ex_prim, primA_some, AS.lits, prim_ix, prim_sub, prim_sub2, prim_min, prim_ib, ex_b2s, textOf_eq, textA_sl, textA_nil, lend_own, lendRow_row, lend_sl, lend_lit, bin_adds, bin_eqls, bin_neqs, bin_geq8, bin_leq8, bin_lss8, bin_gtr8, bin_neq8, bin_sub8, bin_quo8, bin_add8, bin_mulj, cvt_j8, cvt_8j, AOp.mineB, AV.place, ex_rdp, ex_rd, rdB, bnds, efF, bin_shrju, bin_shlju, listB_tx, listB_sl, listB_nil, ex_tups, bound_jn, AV.isText, keyA_arr, bl_len, zk_len, nameK_len]; exact rfl) (wp_ret' ?_)
      exact efin true _ _ (by simp [hle, hne]) rfl rfl
end Go.Cab

/- Free kit: put. -/
-- TEXTS
-- KIT
namespace Go.Cab
open Classical
def fb422 : AC := (.seq (.reg [⟨(.some 8), .none, (.alloc 32 (.arr 1 (List.replicate 32 (.lit (bn 0))))), [], .none⟩]) (.seq (.reg [⟨(.some 13), .none, (.mov (.tmp 1)), [], .none⟩, ⟨(.some 14), .none, (.mov (.tmp 2)), [], .none⟩, ⟨(.some 15), .none, (.mov (.tmp 3)), [], .none⟩, ⟨(.some 16), .none, (.call 15 [(.tmp 15)]), [], .none⟩, ⟨(.some 17), .none, (.build (.st [1, 1, 1] [(.lit (jn 0)), (.lit (tx [])), (.lit (.slice .none 0 0))]) [(0, (.tmp 13)), (1, (.tmp 14)), (2, (.tmp 16))]), [], .none⟩, ⟨(.some 9), .none, (.alloc 3 (.st [1, 1, 1] [(.lit (jn 0)), (.lit (tx [])), (.lit (.slice .none 0 0))])), [], .none⟩, ⟨.none, .none, (.store 3 (.tmp 9) (.tmp 17)), [], .none⟩]) (.seq (.reg [⟨(.some 18), .none, (.load .true 3 (.tmp 9)), [], .none⟩, ⟨(.some 19), .none, (.call 24 [(.tmp 18)]), [], .none⟩, ⟨(.some 10), .none, (.mov (.tmp 19)), [], .none⟩]) (.seq (.reg [⟨(.some 21), .none, (.mov (.tmp 0)), [], .none⟩, ⟨(.some 22), .none, (.nilc (.tmp 21)), [], .none⟩, ⟨(.some 23), .none, (.faddr 1 1 (.tmp 22)), [], .none⟩, ⟨(.some 24), .none, (.load .false 1 (.tmp 23)), [], .none⟩, ⟨(.some 25), .none, (.mov (.tmp 10)), [], .none⟩, ⟨(.some 26), .none, (.rd (.lookup (jn 0)) [(.tmp 24), (.tmp 25)]), [], .none⟩, ⟨(.some 20), .none, (.mov (.tmp 26)), [], .none⟩, ⟨(.some 27), .none, (.ext (.tmp 20) 0), [], .none⟩, ⟨(.some 28), .none, (.ext (.tmp 20) 1), [], .none⟩, ⟨(.some 11), .none, (.mov (.tmp 27)), [], .none⟩, ⟨(.some 12), .none, (.mov (.tmp 28)), [], .none⟩]) (.seq (.seq (.reg [⟨(.some 29), .none, (.mov (.tmp 12)), [], .none⟩, ⟨(.some 30), .none, (.un .not (.tmp 29)), [], .none⟩]) (.cond (.tmp 30) (.seq (.reg [⟨(.some 31), .none, (.mov (.tmp 0)), [], .none⟩, ⟨(.some 32), .none, (.nilc (.tmp 31)), [], .none⟩, ⟨(.some 33), .none, (.faddr 0 0 (.tmp 32)), [], .none⟩, ⟨(.some 34), .none, (.load .false 1 (.tmp 33)), [], .none⟩, ⟨(.some 35), .none, (.len .false (.tmp 34)), [], .none⟩, ⟨(.some 11), .none, (.mov (.tmp 35)), [], .none⟩]) (.reg [⟨(.some 36), .none, (.mov (.tmp 0)), [], .none⟩, ⟨(.some 37), .none, (.nilc (.tmp 36)), [], .none⟩, ⟨(.some 38), .none, (.faddr 1 1 (.tmp 37)), [], .none⟩, ⟨(.some 39), .none, (.load .false 1 (.tmp 38)), [], (.some 0)⟩, ⟨(.some 40), .none, (.mov (.tmp 10)), [], .none⟩, ⟨(.some 41), .none, (.mov (.tmp 0)), [], .none⟩, ⟨(.some 42), .none, (.mov (.tmp 11)), [], .none⟩, ⟨(.some 43), .none, (.mov (.tmp 0)), [], .none⟩, ⟨(.some 44), .none, (.nilc (.tmp 43)), [], .none⟩, ⟨(.some 45), .none, (.faddr 0 0 (.tmp 44)), [], .none⟩, ⟨(.some 46), .none, (.load .false 1 (.tmp 45)), [], .none⟩, ⟨(.some 47), .none, (.load .true 3 (.tmp 9)), [], (.some 9)⟩, ⟨(.some 48), .none, (.bslice 3 (.st [1, 1, 1] [(.lit (jn 0)), (.lit (tx [])), (.lit (.slice .none 0 0))]) 1 [(0, (.tmp 47))]), [], .none⟩, ⟨(.some 49), .none, (.append 74 3 48 (.tmp 46) (.tmp 48)), [0], .none⟩, ⟨(.some 50), .none, (.ef (.mapEntry (jn 0)) [(.tmp 39), (.tmp 40)]), [], .none⟩, ⟨(.some 51), .none, (.ext (.tmp 50) 1), [], .none⟩, ⟨.none, .none, (.ef .entryStore [(.tmp 39), (.tmp 51), (.tmp 42)]), [], .none⟩, ⟨(.some 52), .none, (.nilc (.tmp 41)), [], .none⟩, ⟨(.some 53), .none, (.faddr 0 0 (.tmp 52)), [], .none⟩, ⟨.none, .none, (.store 1 (.tmp 53) (.tmp 49)), [], .none⟩])) .skip)) (.seq (.reg [⟨(.some 54), .none, (.mov (.tmp 11)), [], .none⟩, ⟨(.some 55), .none, (.call 25 [(.tmp 54)]), [], .none⟩, ⟨.none, .none, (.store 32 (.tmp 8) (.tmp 55)), [], .none⟩]) .ret))))))
def fc422 : FC := ⟨4, 56, [(.cell 8 .true 32)], fb422⟩
theorem fc422_eq : compF Go.Proofs.Try.prog 17 = some fc422 := by kernel_rfl

/-- Where a shape stands. -/
def findT (s : List UInt8) : List Term → Nat → Option Nat
  | [], _ => none
  | x :: xs, i => if s = shapeT x then some i else findT s xs (i + 1)
theorem findT_lt {s : List UInt8} : ∀ {ts : List Term} {i n : Nat}, findT s ts i = some n → i ≤ n ∧ n < i + ts.length
  | [], _, _, h => by cases h
  | x :: xs, i, n, h => by
    unfold findT at h
    split at h
    · cases h; simp
    · have := findT_lt h
      simp only [List.length_cons]; omega
/-- The table behind, and the name's number. -/
def putT (ts : List Term) (x : Term) : List Term := match findT (shapeT x) ts 0 with | some _ => ts | none => ts ++ [x]
def putN (ts : List Term) (x : Term) : Nat := match findT (shapeT x) ts 0 with | some n => n | none => ts.length
theorem putN_lt (ts : List Term) (x : Term) : putN ts x < (putT ts x).length := by
  unfold putN putT
  cases h : findT (shapeT x) ts 0 with
  | none => simp
  | some n => have := findT_lt h; simp; omega
theorem putT_len (ts : List Term) (x : Term) : ts.length ≤ (putT ts x).length ∧ (putT ts x).length ≤ ts.length + 1 := by
  unfold putT
  cases findT (shapeT x) ts 0 <;> simp

theorem bytes_beq (a b : List UInt8) : ((ByteArray.mk ⟨a⟩) == (ByteArray.mk ⟨b⟩)) = decide (a = b) := by
  rw [Bool.eq_iff_iff]
  show (((⟨a⟩ : Array UInt8) == ⟨b⟩) = true) ↔ _
  simp
theorem lookS_es (s : List UInt8) : ∀ (ts : List Term) (i : Nat), lookS ⟨⟨s⟩⟩ (esF ts i) i = some ((findT s ts i).map fun n => (n, jn n, n))
  | [], _ => rfl
  | x :: xs, i => by
    show lookS ⟨⟨s⟩⟩ ((.string ⟨⟨shapeT x⟩⟩, jn i, i) :: esF xs (i + 1)) i = _
    unfold lookS findT
    rw [bytes_beq]
    by_cases h : s = shapeT x
    · rw [if_pos h, if_pos (by simpa using h)]; rfl
    · rw [if_neg h, if_neg (by simpa using h)]
      exact lookS_es s xs (i + 1)
theorem esF_app (x : Term) : ∀ (ts : List Term) (i : Nat), esF (ts ++ [x]) i = esF ts i ++ [(tx (shapeT x), jn (i + ts.length), i + ts.length)]
  | [], i => by simp [esF]
  | y :: ys, i => by simp only [List.cons_append, esF, esF_app x ys (i + 1), List.length_cons]; rw [show i + 1 + ys.length = i + (ys.length + 1) by omega]
theorem esF_lt : ∀ (ts : List Term) (i : Nat), ∀ e ∈ esF ts i, e.2.2 < i + ts.length
  | [], _, e, h => by cases h
  | x :: xs, i, e, h => by
    simp only [esF, List.mem_cons] at h
    rcases h with rfl | h
    · simp
    · have := esF_lt xs (i + 1) e h
      simp only [List.length_cons]; omega

def lookR (z : Value) : Option (Nat × Value × Nat) → AV
  | some (_, v, _) => .tup [.lit v, .lit (.bool true)]
  | none => .tup [.lit z, .lit (.bool false)]
section
variable {P : Program} {s : AS} {K : AS → Prop} {xs : List AOp}
theorem areg_look {d : Option Tmp} {x y : Operand} {z : Value} {b r c : Nat} {sh : List UInt8} {es : List (Value × Value × Nat)} {o : Option (Nat × Value × Nat)} (hx : s.ev x = .own b (.map (some r))) (hy : s.ev y = .lit (tx sh)) (hb : s.blk b = some (.map r es c)) (hl : lookS ⟨⟨sh⟩⟩ es 0 = some o)
    (h : AReg P xs (s.put d (lookR z o)) K) : AReg P (⟨d, none, .rd (.lookup z) [x, y], [], none⟩ :: xs) s K := by
  refine AOp.ex_go (s' := s.put d (lookR z o)) ?_ h
  have hro : (AOp.ro ⟨d, none, .rd (.lookup z) [x, y], [], none⟩ s.nr) = tt := by funext b; rfl
  simp only [AOp.ex, AOp.ex0, AOp.mineB, if_true, ex_rd, List.map_cons, List.map_nil, hx, hy, rdB]
  simp only [hro, tt, if_true, lookA, tx, hb, hl]
  cases o with
  | none => rfl
  | some o => obtain ⟨a, v, n⟩ := o; rfl

theorem entry_new {hp : List (Option Blk)} {b r : Nat} {sh : List UInt8} {ts : List Term} (hb : hp[b]? = some (some (.map r (esOf ts) ts.length))) (hl : findT sh ts 0 = none) :
    entryA hp (jn 0) (.own b (.map (some r))) (.lit (tx sh)) = some (.tup [.lit (jn 0), .lit (jn ts.length)], hp.set b (some (.map r (esOf ts ++ [(tx sh, jn 0, ts.length)]) (ts.length + 1)))) := by
  have := lookS_es sh ts 0
  rw [hl] at this
  unfold esOf at *
  simp only [entryA, tx, hb, Option.join_some, this]
  rfl
theorem stamp_new {hp : List (Option Blk)} {b r : Nat} {x : Term} {ts : List Term} (hb : hp[b]? = some (some (.map r (esOf ts ++ [(tx (shapeT x), jn 0, ts.length)]) (ts.length + 1)))) :
    stampA hp (.own b (.map (some r))) (.lit (jn ts.length)) (.lit (jn ts.length)) = some (.any, hp.set b (some (tmk r (ts ++ [x])))) := by
  have e : (esOf ts ++ [(tx (shapeT x), jn 0, ts.length)]).map (fun e => if ((e.2.2 : Nat) : Int) = (ts.length : Int) then (e.1, jn ts.length, e.2.2) else e) = esOf (ts ++ [x]) := by
    unfold esOf
    rw [esF_app, List.map_append, Nat.zero_add]
    congr 1
    · rw [List.map_congr_left (g := id), List.map_id]
      intro e he
      have := esF_lt ts 0 e he
      simp only [id]
      rw [if_neg (by omega)]
    · simp
  unfold stampA
  simp only [jn, hb, Option.join_some]
  rw [if_pos]
  · simp only [jn] at e
    rw [e]
    simp [tmk]
  · refine ⟨trivial, rfl, ?_⟩
    simp
end

/-- Blocks of the caller, and those behind them. -/
theorem cat1 (N : Nat) (G L : List (Option Blk)) (k : Nat) (h : G.length = N) : (G ++ L)[N + k]? = L[k]? := by rw [List.getElem?_append_right (by omega), h, Nat.add_sub_cancel_left]
theorem cat2 (N : Nat) (G L : List (Option Blk)) (k : Nat) (x : Option Blk) (h : G.length = N) : (G ++ L).set (N + k) x = G ++ L.set k x := by rw [List.set_append_right _ _ (by omega), h, Nat.add_sub_cancel_left]
theorem cat3 (N : Nat) (G L : List (Option Blk)) (i : Nat) (x : Option Blk) (h : G.length = N) (hi : i < N) : (G ++ L).set i x = G.set i x ++ L := List.set_append_left _ _ (by omega)
theorem cat4 (N : Nat) (G L : List (Option Blk)) (i : Nat) (h : G.length = N) (hi : i < N) : (G ++ L)[i]? = G[i]? := List.getElem?_append_left (by omega)

/-- What putting comes to. -/
def PutK (H : List (Option Blk)) (t : Tb) (ts : List Term) (x : Term) (r : AV) (H' : List (Option Blk)) : Prop := r = keyA (nameK (putN ts x)) ∧ ∃ V', H' = tbOf H t V' (putT ts x)

structure TermOk (x : Term) : Prop where
  kind : x.kind < 256
  text : x.text.length < 100000
  keys : x.keys.length < 100000
  k32 : ∀ k ∈ x.keys, k.length = 32

set_option maxHeartbeats 16000000 in
theorem put_call {H : List (Option Blk)} {t : Tb} {V : Value} {ts : List Term} (hh : TbOk H t V ts) (hn : ts.length < 100000) (x : Term) (hx : TermOk x) :
    XCall Go.Proofs.Try.prog 17 [.ptr t.b t.l 0 [], .lit (jn x.kind), .lit (tx x.text), .sl 32 (klA x.keys)] H (PutK H t ts x) := by
  have h422 := fc422_eq
  refine XCall.le ?_
  obtain ⟨kd, text, keys⟩ := x
  obtain ⟨hx1, hx2, hx3, hx4⟩ := hx
  simp only at hx1 hx2 hx3 hx4 ⊢
  have c1 := clone_call (klA keys) (by rw [klA_len]; exact hx3)
  have c2 := shape_call ⟨kd, text, keys⟩ hx1 hx2 hx3 hx4
  unfold termA at c2
  simp only at c2
  have lb := hh.lb; have lj := hh.lj; have lm := hh.lm
  have n1 := hh.bj; have n2 := hh.bm; have n3 := hh.jm
  have n1' := n1.symm; have n2' := n2.symm; have n3' := n3.symm
  have gb := hh.hb; have gj := hh.hj; have gm := hh.hm
  unfold tbk at gb
  unfold trk at gj
  unfold tmk at gm
  have bd1 : (ts.map termA).length + 1 ≤ maxLen := by rw [List.length_map]; simp [maxLen]; omega
  have bd2 : ((ts.map termA).length + 1) * 48 ≤ 140737488355328 := by rw [List.length_map]; omega
  refine XCall.of h422 rfl ?_; show AC.wp _ fb422 ⟨H.length, [.ptr t.b t.l 0 [], .lit (jn kd), .lit (tx text), .sl 32 (klA keys)] ++ List.replicate (56 - 4) .any, H ++ List.replicate 56 none⟩ (fun x s => match x with | .exit _ => False | _ => ∃ s1, Le s s1 ∧ FinX [(.cell 8 .true 32)] s1 _); unfold fb422
  generalize hN : H.length = N at *
  have p1 : ∀ L k, (H ++ L)[N + k]? = L[k]? := fun L k => cat1 N H L k hN
  have p2 : ∀ L k x, (H ++ L).set (N + k) x = H ++ L.set k x := fun L k x => cat2 N H L k x hN
  have pb : ∀ L, (H ++ L)[t.b]? = some (some (.box t.l 2 (.st [1, 1] [.own t.j V, .own t.m (.map (some t.r))]))) := fun L => by rw [cat4 N H L _ hN lb]; exact gb
  have pj : ∀ L, (H ++ L)[t.j]? = some (some (.row 74 V 3 (ts.map termA) 0)) := fun L => by rw [cat4 N H L _ hN lj]; exact gj
  have pm : ∀ L, (H ++ L)[t.m]? = some (some (.map t.r (esOf ts) ts.length)) := fun L => by rw [cat4 N H L _ hN lm]; exact gm
  have psj : ∀ L x, (H ++ L).set t.j x = H.set t.j x ++ L := fun L x => cat3 N H L _ x hN lj
  refine wp_sg (areg_al' zk_eq.symm fun l => areg_end (by simp [runPre, AOp.ex, AOp.ex0, ex_mov, ex_bin, binA_lit, ex_cvt, ex_iaddrA, ex_iaddrS, ex_faddr, ex_load, ldA, ex_ext, ex_add64, add64A_un, ex_pick, ex_beq, ex_un, ex_len, lenA_sl, lenA_nil, lenA_str, lenA_own, lenRow_row, elA_own, elA_sl, elRow_row, ex_nilc, ex_build, ex_bslice, ex_fieldv, AOp.ro, AS.ev, AS.put, AS.fieldAddr, idxA_ptr, idxA_cptr, AS.peek, AS.poke, AS.blk, AS.setBlk, AV.nav, AV.upd, Blk.loc, Blk.cont, Blk.n, Blk.may, Blk.upd, AV.isAgg, AV.isTup, AV.sz, unVal, ownOk, fillAV, AV.sub, cvt_64j, cvt_64b, cvt_64w, cvt_8u, cvt_8w, bin_add64, bin_mul64, bin_sub64, bin_and51, bin_and32, bin_and1, bin_and8_1, bin_or64, bin_xor64, bin_or8, bin_shl64, bin_shl64j, bin_shr64, bin_shr64j, bin_shl8j, bin_shr8j, bin_quo64, bin_rem64, bin_quo32, bin_rem32, bin_addj, bin_subj, bin_quoj, bin_remj, bin_eqlj, bin_neqj, bin_lssj, bin_leqj, bin_gtrj, bin_geqj, bin_eql64, bin_lss64, bin_gtr64, bin_eql8, bin_rem8, lenA_tx, ex_prim, primA_some, AS.lits, prim_ix, prim_sub, prim_sub2, prim_min, prim_ib, ex_b2s, textOf_eq, textA_sl, textA_nil, lend_own, lendRow_row, lend_sl, lend_lit, bin_adds, bin_eqls, bin_neqs, bin_geq8, bin_leq8, bin_lss8, bin_gtr8, bin_neq8, bin_sub8, bin_quo8, bin_add8, bin_mulj, cvt_j8, cvt_8j, AOp.mineB, AV.place, ex_rdp, ex_rd, rdB, bnds, efF, bin_shrju, bin_shlju, listB_tx, listB_sl, listB_nil, ex_tups, bound_jn, AV.isText, keyA_arr, bl_len, zk_len, nameK_len, p2]; exact rfl) ?_)
  refine wp_sg ?_
  refine areg_run 3 (by simp [runPre, AOp.ex, AOp.ex0, ex_mov, ex_bin, binA_lit, ex_cvt, ex_iaddrA, ex_iaddrS, ex_faddr, ex_load, ldA, ex_ext, ex_add64, add64A_un, ex_pick, ex_beq, ex_un, ex_len, lenA_sl, lenA_nil, lenA_str, lenA_own, lenRow_row, elA_own, elA_sl, elRow_row, ex_nilc, ex_build, ex_bslice, ex_fieldv, AOp.ro, AS.ev, AS.put, AS.fieldAddr, idxA_ptr, idxA_cptr, AS.peek, AS.poke, AS.blk, AS.setBlk, AV.nav, AV.upd, Blk.loc, Blk.cont, Blk.n, Blk.may, Blk.upd, AV.isAgg, AV.isTup, AV.sz, unVal, ownOk, fillAV, AV.sub, cvt_64j, cvt_64b, cvt_64w, cvt_8u, cvt_8w, bin_add64, bin_mul64, bin_sub64, bin_and51, bin_and32, bin_and1, bin_and8_1, bin_or64, bin_xor64, bin_or8, bin_shl64, bin_shl64j, bin_shr64, bin_shr64j, bin_shl8j, bin_shr8j, bin_quo64, bin_rem64, bin_quo32, bin_rem32, bin_addj, bin_subj, bin_quoj, bin_remj, bin_eqlj, bin_neqj, bin_lssj, bin_leqj, bin_gtrj, bin_geqj, bin_eql64, bin_lss64, bin_gtr64, bin_eql8, bin_rem8, lenA_tx, ex_prim, primA_some, AS.lits, prim_ix, prim_sub, prim_sub2, prim_min, prim_ib, ex_b2s, textOf_eq, textA_sl, textA_nil, lend_own, lendRow_row, lend_sl, lend_lit, bin_adds, bin_eqls, bin_neqs, bin_geq8, bin_leq8, bin_lss8, bin_gtr8, bin_neq8, bin_sub8, bin_quo8, bin_add8, bin_mulj, cvt_j8, cvt_8j, AOp.mineB, AV.place, ex_rdp, ex_rd, rdB, bnds, efF, bin_shrju, bin_shlju, listB_tx, listB_sl, listB_nil, ex_tups, bound_jn, AV.isText, keyA_arr, bl_len, zk_len, nameK_len]; exact rfl) ?_
  refine areg_ca (by simp [AS.ev, AS.coe, AS.put] <;> exact rfl) c1 ?_
  refine areg_run 1 (by simp [runPre, AOp.ex, AOp.ex0, ex_mov, ex_bin, binA_lit, ex_cvt, ex_iaddrA, ex_iaddrS, ex_faddr, ex_load, ldA, ex_ext, ex_add64, add64A_un, ex_pick, ex_beq, ex_un, ex_len, lenA_sl, lenA_nil, lenA_str, lenA_own, lenRow_row, elA_own, elA_sl, elRow_row, ex_nilc, ex_build, ex_bslice, ex_fieldv, AOp.ro, AS.ev, AS.put, AS.fieldAddr, idxA_ptr, idxA_cptr, AS.peek, AS.poke, AS.blk, AS.setBlk, AV.nav, AV.upd, Blk.loc, Blk.cont, Blk.n, Blk.may, Blk.upd, AV.isAgg, AV.isTup, AV.sz, unVal, ownOk, fillAV, AV.sub, cvt_64j, cvt_64b, cvt_64w, cvt_8u, cvt_8w, bin_add64, bin_mul64, bin_sub64, bin_and51, bin_and32, bin_and1, bin_and8_1, bin_or64, bin_xor64, bin_or8, bin_shl64, bin_shl64j, bin_shr64, bin_shr64j, bin_shl8j, bin_shr8j, bin_quo64, bin_rem64, bin_quo32, bin_rem32, bin_addj, bin_subj, bin_quoj, bin_remj, bin_eqlj, bin_neqj, bin_lssj, bin_leqj, bin_gtrj, bin_geqj, bin_eql64, bin_lss64, bin_gtr64, bin_eql8, bin_rem8, lenA_tx, ex_prim, primA_some, AS.lits, prim_ix, prim_sub, prim_sub2, prim_min, prim_ib, ex_b2s, textOf_eq, textA_sl, textA_nil, lend_own, lendRow_row, lend_sl, lend_lit, bin_adds, bin_eqls, bin_neqs, bin_geq8, bin_leq8, bin_lss8, bin_gtr8, bin_neq8, bin_sub8, bin_quo8, bin_add8, bin_mulj, cvt_j8, cvt_8j, AOp.mineB, AV.place, ex_rdp, ex_rd, rdB, bnds, efF, bin_shrju, bin_shlju, listB_tx, listB_sl, listB_nil, ex_tups, bound_jn, AV.isText, keyA_arr, bl_len, zk_len, nameK_len]; exact rfl) ?_
  refine areg_al' rfl fun l2 => areg_end (by simp [runPre, AOp.ex, AOp.ex0, ex_mov, ex_bin, binA_lit, ex_cvt, ex_iaddrA, ex_iaddrS, ex_faddr, ex_load, ldA, ex_ext, ex_add64, add64A_un, ex_pick, ex_beq, ex_un, ex_len, lenA_sl, lenA_nil, lenA_str, lenA_own, lenRow_row, elA_own, elA_sl, elRow_row, ex_nilc, ex_build, ex_bslice, ex_fieldv, AOp.ro, AS.ev, AS.put, AS.fieldAddr, idxA_ptr, idxA_cptr, AS.peek, AS.poke, AS.blk, AS.setBlk, AV.nav, AV.upd, Blk.loc, Blk.cont, Blk.n, Blk.may, Blk.upd, AV.isAgg, AV.isTup, AV.sz, unVal, ownOk, fillAV, AV.sub, cvt_64j, cvt_64b, cvt_64w, cvt_8u, cvt_8w, bin_add64, bin_mul64, bin_sub64, bin_and51, bin_and32, bin_and1, bin_and8_1, bin_or64, bin_xor64, bin_or8, bin_shl64, bin_shl64j, bin_shr64, bin_shr64j, bin_shl8j, bin_shr8j, bin_quo64, bin_rem64, bin_quo32, bin_rem32, bin_addj, bin_subj, bin_quoj, bin_remj, bin_eqlj, bin_neqj, bin_lssj, bin_leqj, bin_gtrj, bin_geqj, bin_eql64, bin_lss64, bin_gtr64, bin_eql8, bin_rem8, lenA_tx, ex_prim, primA_some, AS.lits, prim_ix, prim_sub, prim_sub2, prim_min, prim_ib, ex_b2s, textOf_eq, textA_sl, textA_nil, lend_own, lendRow_row, lend_sl, lend_lit, bin_adds, bin_eqls, bin_neqs, bin_geq8, bin_leq8, bin_lss8, bin_gtr8, bin_neq8, bin_sub8, bin_quo8, bin_add8, bin_mulj, cvt_j8, cvt_8j, AOp.mineB, AV.place, ex_rdp, ex_rd, rdB, bnds, efF, bin_shrju, bin_shlju, listB_tx, listB_sl, listB_nil, ex_tups, bound_jn, AV.isText, keyA_arr, bl_len, zk_len, nameK_len, p1, p2]; exact rfl) ?_
  refine wp_sg ?_
  refine areg_run 1 (by simp [runPre, AOp.ex, AOp.ex0, ex_mov, ex_bin, binA_lit, ex_cvt, ex_iaddrA, ex_iaddrS, ex_faddr, ex_load, ldA, ex_ext, ex_add64, add64A_un, ex_pick, ex_beq, ex_un, ex_len, lenA_sl, lenA_nil, lenA_str, lenA_own, lenRow_row, elA_own, elA_sl, elRow_row, ex_nilc, ex_build, ex_bslice, ex_fieldv, AOp.ro, AS.ev, AS.put, AS.fieldAddr, idxA_ptr, idxA_cptr, AS.peek, AS.poke, AS.blk, AS.setBlk, AV.nav, AV.upd, Blk.loc, Blk.cont, Blk.n, Blk.may, Blk.upd, AV.isAgg, AV.isTup, AV.sz, unVal, ownOk, fillAV, AV.sub, cvt_64j, cvt_64b, cvt_64w, cvt_8u, cvt_8w, bin_add64, bin_mul64, bin_sub64, bin_and51, bin_and32, bin_and1, bin_and8_1, bin_or64, bin_xor64, bin_or8, bin_shl64, bin_shl64j, bin_shr64, bin_shr64j, bin_shl8j, bin_shr8j, bin_quo64, bin_rem64, bin_quo32, bin_rem32, bin_addj, bin_subj, bin_quoj, bin_remj, bin_eqlj, bin_neqj, bin_lssj, bin_leqj, bin_gtrj, bin_geqj, bin_eql64, bin_lss64, bin_gtr64, bin_eql8, bin_rem8, lenA_tx, ex_prim, primA_some, AS.lits, prim_ix, prim_sub, prim_sub2, prim_min, prim_ib, ex_b2s, textOf_eq, textA_sl, textA_nil, lend_own, lendRow_row, lend_sl, lend_lit, bin_adds, bin_eqls, bin_neqs, bin_geq8, bin_leq8, bin_lss8, bin_gtr8, bin_neq8, bin_sub8, bin_quo8, bin_add8, bin_mulj, cvt_j8, cvt_8j, AOp.mineB, AV.place, ex_rdp, ex_rd, rdB, bnds, efF, bin_shrju, bin_shlju, listB_tx, listB_sl, listB_nil, ex_tups, bound_jn, AV.isText, keyA_arr, bl_len, zk_len, nameK_len, p1, p2]; exact rfl) ?_
  refine areg_ca (by simp [AS.ev, AS.coe, AS.put] <;> exact rfl) c2 ?_
  refine areg_end (by simp [runPre, AOp.ex, AOp.ex0, ex_mov, ex_bin, binA_lit, ex_cvt, ex_iaddrA, ex_iaddrS, ex_faddr, ex_load, ldA, ex_ext, ex_add64, add64A_un, ex_pick, ex_beq, ex_un, ex_len, lenA_sl, lenA_nil, lenA_str, lenA_own, lenRow_row, elA_own, elA_sl, elRow_row, ex_nilc, ex_build, ex_bslice, ex_fieldv, AOp.ro, AS.ev, AS.put, AS.fieldAddr, idxA_ptr, idxA_cptr, AS.peek, AS.poke, AS.blk, AS.setBlk, AV.nav, AV.upd, Blk.loc, Blk.cont, Blk.n, Blk.may, Blk.upd, AV.isAgg, AV.isTup, AV.sz, unVal, ownOk, fillAV, AV.sub, cvt_64j, cvt_64b, cvt_64w, cvt_8u, cvt_8w, bin_add64, bin_mul64, bin_sub64, bin_and51, bin_and32, bin_and1, bin_and8_1, bin_or64, bin_xor64, bin_or8, bin_shl64, bin_shl64j, bin_shr64, bin_shr64j, bin_shl8j, bin_shr8j, bin_quo64, bin_rem64, bin_quo32, bin_rem32, bin_addj, bin_subj, bin_quoj, bin_remj, bin_eqlj, bin_neqj, bin_lssj, bin_leqj, bin_gtrj, bin_geqj, bin_eql64, bin_lss64, bin_gtr64, bin_eql8, bin_rem8, lenA_tx, ex_prim, primA_some, AS.lits, prim_ix, prim_sub, prim_sub2, prim_min, prim_ib, ex_b2s, textOf_eq, textA_sl, textA_nil, lend_own, lendRow_row, lend_sl, lend_lit, bin_adds, bin_eqls, bin_neqs, bin_geq8, bin_leq8, bin_lss8, bin_gtr8, bin_neq8, bin_sub8, bin_quo8, bin_add8, bin_mulj, cvt_j8, cvt_8j, AOp.mineB, AV.place, ex_rdp, ex_rd, rdB, bnds, efF, bin_shrju, bin_shlju, listB_tx, listB_sl, listB_nil, ex_tups, bound_jn, AV.isText, keyA_arr, bl_len, zk_len, nameK_len]; exact rfl) ?_
  refine wp_sg ?_
  refine areg_run 5 (by simp [runPre, AOp.ex, AOp.ex0, ex_mov, ex_bin, binA_lit, ex_cvt, ex_iaddrA, ex_iaddrS, ex_faddr, ex_load, ldA, ex_ext, ex_add64, add64A_un, ex_pick, ex_beq, ex_un, ex_len, lenA_sl, lenA_nil, lenA_str, lenA_own, lenRow_row, elA_own, elA_sl, elRow_row, ex_nilc, ex_build, ex_bslice, ex_fieldv, AOp.ro, AS.ev, AS.put, AS.fieldAddr, idxA_ptr, idxA_cptr, AS.peek, AS.poke, AS.blk, AS.setBlk, AV.nav, AV.upd, Blk.loc, Blk.cont, Blk.n, Blk.may, Blk.upd, AV.isAgg, AV.isTup, AV.sz, unVal, ownOk, fillAV, AV.sub, cvt_64j, cvt_64b, cvt_64w, cvt_8u, cvt_8w, bin_add64, bin_mul64, bin_sub64, bin_and51, bin_and32, bin_and1, bin_and8_1, bin_or64, bin_xor64, bin_or8, bin_shl64, bin_shl64j, bin_shr64, bin_shr64j, bin_shl8j, bin_shr8j, bin_quo64, bin_rem64, bin_quo32, bin_rem32, bin_addj, bin_subj, bin_quoj, bin_remj, bin_eqlj, bin_neqj, bin_lssj, bin_leqj, bin_gtrj, bin_geqj, bin_eql64, bin_lss64, bin_gtr64, bin_eql8, bin_rem8, lenA_tx, ex_prim, primA_some, AS.lits, prim_ix, prim_sub, prim_sub2, prim_min, prim_ib, ex_b2s, textOf_eq, textA_sl, textA_nil, lend_own, lendRow_row, lend_sl, lend_lit, bin_adds, bin_eqls, bin_neqs, bin_geq8, bin_leq8, bin_lss8, bin_gtr8, bin_neq8, bin_sub8, bin_quo8, bin_add8, bin_mulj, cvt_j8, cvt_8j, AOp.mineB, AV.place, ex_rdp, ex_rd, rdB, bnds, efF, bin_shrju, bin_shlju, listB_tx, listB_sl, listB_nil, ex_tups, bound_jn, AV.isText, keyA_arr, bl_len, zk_len, nameK_len, p1, p2, pb]; exact rfl) ?_
  refine areg_look (b := t.m) (r := t.r) (es := esOf ts) (c := ts.length) (o := (findT (shapeT ⟨kd, text, keys⟩) ts 0).map fun n => (n, jn n, n)) rfl rfl (by simp only [AS.blk, AS.put, pm]; rfl) (lookS_es _ _ _) ?_
  have efin : ∀ (V' : Value) (ts' : List Term) (n : Nat) (s : AS), ts' = putT ts ⟨kd, text, keys⟩ → n = putN ts ⟨kd, text, keys⟩ → RVal s (.cell 8 true 32) = some (keyA (nameK n)) → HpLe s.hp (tbOf H t V' ts') → ∃ s1, Le s s1 ∧ FinX [RV.cell 8 true 32] s1 fun r H' => ∃ r' A, RelLe r r' ∧ r' ≠ .any ∧ HpLe H' A ∧ PutK H t ts ⟨kd, text, keys⟩ r' A := fun V' ts' n s e1 e2 hr hp =>
    ⟨s, Le.refl _, [], _, ⟨hr, by simp [keyA]⟩, keyA (nameK n), _, RelLe.refl _, by simp [keyA], hp, by rw [e2], V', by rw [e1]⟩
  cases hf : findT (shapeT ⟨kd, text, keys⟩) ts 0 with
  | some n =>
    have hnlt := (findT_lt hf).2
    have c3 := name_call n (by omega)
    refine areg_end (by simp [runPre, AOp.ex, AOp.ex0, ex_mov, ex_bin, binA_lit, ex_cvt, ex_iaddrA, ex_iaddrS, ex_faddr, ex_load, ldA, ex_ext, ex_add64, add64A_un, ex_pick, ex_beq, ex_un, ex_len, lenA_sl, lenA_nil, lenA_str, lenA_own, lenRow_row, elA_own, elA_sl, elRow_row, ex_nilc, ex_build, ex_bslice, ex_fieldv, AOp.ro, AS.ev, AS.put, AS.fieldAddr, idxA_ptr, idxA_cptr, AS.peek, AS.poke, AS.blk, AS.setBlk, AV.nav, AV.upd, Blk.loc, Blk.cont, Blk.n, Blk.may, Blk.upd, AV.isAgg, AV.isTup, AV.sz, unVal, ownOk, fillAV, AV.sub, cvt_64j, cvt_64b, cvt_64w, cvt_8u, cvt_8w, bin_add64, bin_mul64, bin_sub64, bin_and51, bin_and32, bin_and1, bin_and8_1, bin_or64, bin_xor64, bin_or8, bin_shl64, bin_shl64j, bin_shr64, bin_shr64j, bin_shl8j, bin_shr8j, bin_quo64, bin_rem64, bin_quo32, bin_rem32, bin_addj, bin_subj, bin_quoj, bin_remj, bin_eqlj, bin_neqj, bin_lssj, bin_leqj, bin_gtrj, bin_geqj, bin_eql64, bin_lss64, bin_gtr64, bin_eql8, bin_rem8, lenA_tx, ex_prim, primA_some, AS.lits, prim_ix, prim_sub, prim_sub2, prim_min, prim_ib, ex_b2s, textOf_eq, textA_sl, textA_nil, lend_own, lendRow_row, lend_sl, lend_lit, bin_adds, bin_eqls, bin_neqs, bin_geq8, bin_leq8, bin_lss8, bin_gtr8, bin_neq8, bin_sub8, bin_quo8, bin_add8, bin_mulj, cvt_j8, cvt_8j, AOp.mineB, AV.place, ex_rdp, ex_rd, rdB, bnds, efF, bin_shrju, bin_shlju, listB_tx, listB_sl, listB_nil, ex_tups, bound_jn, AV.isText, keyA_arr, bl_len, zk_len, nameK_len, lookR]; exact rfl) ?_
    refine wp_seq' (wp_seq' (wp_r (by simp [runPre, AOp.ex, AOp.ex0, ex_mov, ex_bin, binA_lit, ex_cvt, ex_iaddrA, ex_iaddrS, ex_faddr, ex_load, ldA, ex_ext, ex_add64, add64A_un, ex_pick, ex_beq, ex_un, ex_len, lenA_sl, lenA_nil, lenA_str, lenA_own, lenRow_row, elA_own, elA_sl, elRow_row, ex_nilc, ex_build, ex_bslice, ex_fieldv, AOp.ro, AS.ev, AS.put, AS.fieldAddr, idxA_ptr, idxA_cptr, AS.peek, AS.poke, AS.blk, AS.setBlk, AV.nav, AV.upd, Blk.loc, Blk.cont, Blk.n, Blk.may, Blk.upd, AV.isAgg, AV.isTup, AV.sz, unVal, ownOk, fillAV, AV.sub, cvt_64j, cvt_64b, cvt_64w, cvt_8u, cvt_8w, bin_add64, bin_mul64, bin_sub64, bin_and51, bin_and32, bin_and1, bin_and8_1, bin_or64, bin_xor64, bin_or8, bin_shl64, bin_shl64j, bin_shr64, bin_shr64j, bin_shl8j, bin_shr8j, bin_quo64, bin_rem64, bin_quo32, bin_rem32, bin_addj, bin_subj, bin_quoj, bin_remj, bin_eqlj, bin_neqj, bin_lssj, bin_leqj, bin_gtrj, bin_geqj, bin_eql64, bin_lss64, bin_gtr64, bin_eql8, bin_rem8, lenA_tx, ex_prim, primA_some, AS.lits, prim_ix, prim_sub, prim_sub2, prim_min, prim_ib, ex_b2s, textOf_eq, textA_sl, textA_nil, lend_own, lendRow_row, lend_sl, lend_lit, bin_adds, bin_eqls, bin_neqs, bin_geq8, bin_leq8, bin_lss8, bin_gtr8, bin_neq8, bin_sub8, bin_quo8, bin_add8, bin_mulj, cvt_j8, cvt_8j, AOp.mineB, AV.place, ex_rdp, ex_rd, rdB, bnds, efF, bin_shrju, bin_shlju, listB_tx, listB_sl, listB_nil, ex_tups, bound_jn, AV.isText, keyA_arr, bl_len, zk_len, nameK_len]; exact rfl) (wp_cond_f rfl (wp_skip' ?_))))
    refine wp_sg ?_
    refine areg_run 1 (by simp [runPre, AOp.ex, AOp.ex0, ex_mov, ex_bin, binA_lit, ex_cvt, ex_iaddrA, ex_iaddrS, ex_faddr, ex_load, ldA, ex_ext, ex_add64, add64A_un, ex_pick, ex_beq, ex_un, ex_len, lenA_sl, lenA_nil, lenA_str, lenA_own, lenRow_row, elA_own, elA_sl, elRow_row, ex_nilc, ex_build, ex_bslice, ex_fieldv, AOp.ro, AS.ev, AS.put, AS.fieldAddr, idxA_ptr, idxA_cptr, AS.peek, AS.poke, AS.blk, AS.setBlk, AV.nav, AV.upd, Blk.loc, Blk.cont, Blk.n, Blk.may, Blk.upd, AV.isAgg, AV.isTup, AV.sz, unVal, ownOk, fillAV, AV.sub, cvt_64j, cvt_64b, cvt_64w, cvt_8u, cvt_8w, bin_add64, bin_mul64, bin_sub64, bin_and51, bin_and32, bin_and1, bin_and8_1, bin_or64, bin_xor64, bin_or8, bin_shl64, bin_shl64j, bin_shr64, bin_shr64j, bin_shl8j, bin_shr8j, bin_quo64, bin_rem64, bin_quo32, bin_rem32, bin_addj, bin_subj, bin_quoj, bin_remj, bin_eqlj, bin_neqj, bin_lssj, bin_leqj, bin_gtrj, bin_geqj, bin_eql64, bin_lss64, bin_gtr64, bin_eql8, bin_rem8, lenA_tx, ex_prim, primA_some, AS.lits, prim_ix, prim_sub, prim_sub2, prim_min, prim_ib, ex_b2s, textOf_eq, textA_sl, textA_nil, lend_own, lendRow_row, lend_sl, lend_lit, bin_adds, bin_eqls, bin_neqs, bin_geq8, bin_leq8, bin_lss8, bin_gtr8, bin_neq8, bin_sub8, bin_quo8, bin_add8, bin_mulj, cvt_j8, cvt_8j, AOp.mineB, AV.place, ex_rdp, ex_rd, rdB, bnds, efF, bin_shrju, bin_shlju, listB_tx, listB_sl, listB_nil, ex_tups, bound_jn, AV.isText, keyA_arr, bl_len, zk_len, nameK_len]; exact rfl) ?_
    refine areg_ca (by simp [AS.ev, AS.coe, AS.put] <;> exact rfl) c3 ?_
    refine areg_end (by simp [runPre, AOp.ex, AOp.ex0, ex_mov, ex_bin, binA_lit, ex_cvt, ex_iaddrA, ex_iaddrS, ex_faddr, ex_load, ldA, ex_ext, ex_add64, add64A_un, ex_pick, ex_beq, ex_un, ex_len, lenA_sl, lenA_nil, lenA_str, lenA_own, lenRow_row, elA_own, elA_sl, elRow_row, ex_nilc, ex_build, ex_bslice, ex_fieldv, AOp.ro, AS.ev, AS.put, AS.fieldAddr, idxA_ptr, idxA_cptr, AS.peek, AS.poke, AS.blk, AS.setBlk, AV.nav, AV.upd, Blk.loc, Blk.cont, Blk.n, Blk.may, Blk.upd, AV.isAgg, AV.isTup, AV.sz, unVal, ownOk, fillAV, AV.sub, cvt_64j, cvt_64b, cvt_64w, cvt_8u, cvt_8w, bin_add64, bin_mul64, bin_sub64, bin_and51, bin_and32, bin_and1, bin_and8_1, bin_or64, bin_xor64, bin_or8, bin_shl64, bin_shl64j, bin_shr64, bin_shr64j, bin_shl8j, bin_shr8j, bin_quo64, bin_rem64, bin_quo32, bin_rem32, bin_addj, bin_subj, bin_quoj, bin_remj, bin_eqlj, bin_neqj, bin_lssj, bin_leqj, bin_gtrj, bin_geqj, bin_eql64, bin_lss64, bin_gtr64, bin_eql8, bin_rem8, lenA_tx, ex_prim, primA_some, AS.lits, prim_ix, prim_sub, prim_sub2, prim_min, prim_ib, ex_b2s, textOf_eq, textA_sl, textA_nil, lend_own, lendRow_row, lend_sl, lend_lit, bin_adds, bin_eqls, bin_neqs, bin_geq8, bin_leq8, bin_lss8, bin_gtr8, bin_neq8, bin_sub8, bin_quo8, bin_add8, bin_mulj, cvt_j8, cvt_8j, AOp.mineB, AV.place, ex_rdp, ex_rd, rdB, bnds, efF, bin_shrju, bin_shlju, listB_tx, listB_sl, listB_nil, ex_tups, bound_jn, AV.isText, keyA_arr, bl_len, zk_len, nameK_len, p1, p2, nameK_len]; exact rfl) (wp_ret' ?_)
    refine efin V ts n _ (by simp [putT, hf]) (by simp [putN, hf]) (by simp [RVal, AS.ev, AS.peek, AS.blk, p1, Blk.loc, Blk.cont, Blk.n, AV.nav, AV.isAgg, AV.isTup]; rfl) ?_
    rw [hh.self]
    exact HpLe.trim _ _
  | none =>
    have c3 := name_call ts.length (by omega)
    refine areg_end (by simp [runPre, AOp.ex, AOp.ex0, ex_mov, ex_bin, binA_lit, ex_cvt, ex_iaddrA, ex_iaddrS, ex_faddr, ex_load, ldA, ex_ext, ex_add64, add64A_un, ex_pick, ex_beq, ex_un, ex_len, lenA_sl, lenA_nil, lenA_str, lenA_own, lenRow_row, elA_own, elA_sl, elRow_row, ex_nilc, ex_build, ex_bslice, ex_fieldv, AOp.ro, AS.ev, AS.put, AS.fieldAddr, idxA_ptr, idxA_cptr, AS.peek, AS.poke, AS.blk, AS.setBlk, AV.nav, AV.upd, Blk.loc, Blk.cont, Blk.n, Blk.may, Blk.upd, AV.isAgg, AV.isTup, AV.sz, unVal, ownOk, fillAV, AV.sub, cvt_64j, cvt_64b, cvt_64w, cvt_8u, cvt_8w, bin_add64, bin_mul64, bin_sub64, bin_and51, bin_and32, bin_and1, bin_and8_1, bin_or64, bin_xor64, bin_or8, bin_shl64, bin_shl64j, bin_shr64, bin_shr64j, bin_shl8j, bin_shr8j, bin_quo64, bin_rem64, bin_quo32, bin_rem32, bin_addj, bin_subj, bin_quoj, bin_remj, bin_eqlj, bin_neqj, bin_lssj, bin_leqj, bin_gtrj, bin_geqj, bin_eql64, bin_lss64, bin_gtr64, bin_eql8, bin_rem8, lenA_tx, ex_prim, primA_some, AS.lits, prim_ix, prim_sub, prim_sub2, prim_min, prim_ib, ex_b2s, textOf_eq, textA_sl, textA_nil, lend_own, lendRow_row, lend_sl, lend_lit, bin_adds, bin_eqls, bin_neqs, bin_geq8, bin_leq8, bin_lss8, bin_gtr8, bin_neq8, bin_sub8, bin_quo8, bin_add8, bin_mulj, cvt_j8, cvt_8j, AOp.mineB, AV.place, ex_rdp, ex_rd, rdB, bnds, efF, bin_shrju, bin_shlju, listB_tx, listB_sl, listB_nil, ex_tups, bound_jn, AV.isText, keyA_arr, bl_len, zk_len, nameK_len, lookR]; exact rfl) ?_
    refine wp_seq' (wp_seq' (wp_r (by simp [runPre, AOp.ex, AOp.ex0, ex_mov, ex_bin, binA_lit, ex_cvt, ex_iaddrA, ex_iaddrS, ex_faddr, ex_load, ldA, ex_ext, ex_add64, add64A_un, ex_pick, ex_beq, ex_un, ex_len, lenA_sl, lenA_nil, lenA_str, lenA_own, lenRow_row, elA_own, elA_sl, elRow_row, ex_nilc, ex_build, ex_bslice, ex_fieldv, AOp.ro, AS.ev, AS.put, AS.fieldAddr, idxA_ptr, idxA_cptr, AS.peek, AS.poke, AS.blk, AS.setBlk, AV.nav, AV.upd, Blk.loc, Blk.cont, Blk.n, Blk.may, Blk.upd, AV.isAgg, AV.isTup, AV.sz, unVal, ownOk, fillAV, AV.sub, cvt_64j, cvt_64b, cvt_64w, cvt_8u, cvt_8w, bin_add64, bin_mul64, bin_sub64, bin_and51, bin_and32, bin_and1, bin_and8_1, bin_or64, bin_xor64, bin_or8, bin_shl64, bin_shl64j, bin_shr64, bin_shr64j, bin_shl8j, bin_shr8j, bin_quo64, bin_rem64, bin_quo32, bin_rem32, bin_addj, bin_subj, bin_quoj, bin_remj, bin_eqlj, bin_neqj, bin_lssj, bin_leqj, bin_gtrj, bin_geqj, bin_eql64, bin_lss64, bin_gtr64, bin_eql8, bin_rem8, lenA_tx, ex_prim, primA_some, AS.lits, prim_ix, prim_sub, prim_sub2, prim_min, prim_ib, ex_b2s, textOf_eq, textA_sl, textA_nil, lend_own, lendRow_row, lend_sl, lend_lit, bin_adds, bin_eqls, bin_neqs, bin_geq8, bin_leq8, bin_lss8, bin_gtr8, bin_neq8, bin_sub8, bin_quo8, bin_add8, bin_mulj, cvt_j8, cvt_8j, AOp.mineB, AV.place, ex_rdp, ex_rd, rdB, bnds, efF, bin_shrju, bin_shlju, listB_tx, listB_sl, listB_nil, ex_tups, bound_jn, AV.isText, keyA_arr, bl_len, zk_len, nameK_len]; exact rfl) (wp_cond_t rfl ?_)))
    refine wp_sr (by simp [runPre, AOp.ex, AOp.ex0, ex_mov, ex_bin, binA_lit, ex_cvt, ex_iaddrA, ex_iaddrS, ex_faddr, ex_load, ldA, ex_ext, ex_add64, add64A_un, ex_pick, ex_beq, ex_un, ex_len, lenA_sl, lenA_nil, lenA_str, lenA_own, lenRow_row, elA_own, elA_sl, elRow_row, ex_nilc, ex_build, ex_bslice, ex_fieldv, AOp.ro, AS.ev, AS.put, AS.fieldAddr, idxA_ptr, idxA_cptr, AS.peek, AS.poke, AS.blk, AS.setBlk, AV.nav, AV.upd, Blk.loc, Blk.cont, Blk.n, Blk.may, Blk.upd, AV.isAgg, AV.isTup, AV.sz, unVal, ownOk, fillAV, AV.sub, cvt_64j, cvt_64b, cvt_64w, cvt_8u, cvt_8w, bin_add64, bin_mul64, bin_sub64, bin_and51, bin_and32, bin_and1, bin_and8_1, bin_or64, bin_xor64, bin_or8, bin_shl64, bin_shl64j, bin_shr64, bin_shr64j, bin_shl8j, bin_shr8j, bin_quo64, bin_rem64, bin_quo32, bin_rem32, bin_addj, bin_subj, bin_quoj, bin_remj, bin_eqlj, bin_neqj, bin_lssj, bin_leqj, bin_gtrj, bin_geqj, bin_eql64, bin_lss64, bin_gtr64, bin_eql8, bin_rem8, lenA_tx, ex_prim, primA_some, AS.lits, prim_ix, prim_sub, prim_sub2, prim_min, prim_ib, ex_b2s, textOf_eq, textA_sl, textA_nil, lend_own, lendRow_row, lend_sl, lend_lit, bin_adds, bin_eqls, bin_neqs, bin_geq8, bin_leq8, bin_lss8, bin_gtr8, bin_neq8, bin_sub8, bin_quo8, bin_add8, bin_mulj, cvt_j8, cvt_8j, AOp.mineB, AV.place, ex_rdp, ex_rd, rdB, bnds, efF, bin_shrju, bin_shlju, listB_tx, listB_sl, listB_nil, ex_tups, bound_jn, AV.isText, keyA_arr, bl_len, zk_len, nameK_len, p1, pb, pj]; exact rfl) ?_
    refine wp_rg ?_
    refine areg_run 13 (by simp [runPre, AOp.ex, AOp.ex0, ex_mov, ex_bin, binA_lit, ex_cvt, ex_iaddrA, ex_iaddrS, ex_faddr, ex_load, ldA, ex_ext, ex_add64, add64A_un, ex_pick, ex_beq, ex_un, ex_len, lenA_sl, lenA_nil, lenA_str, lenA_own, lenRow_row, elA_own, elA_sl, elRow_row, ex_nilc, ex_build, ex_bslice, ex_fieldv, AOp.ro, AS.ev, AS.put, AS.fieldAddr, idxA_ptr, idxA_cptr, AS.peek, AS.poke, AS.blk, AS.setBlk, AV.nav, AV.upd, Blk.loc, Blk.cont, Blk.n, Blk.may, Blk.upd, AV.isAgg, AV.isTup, AV.sz, unVal, ownOk, fillAV, AV.sub, cvt_64j, cvt_64b, cvt_64w, cvt_8u, cvt_8w, bin_add64, bin_mul64, bin_sub64, bin_and51, bin_and32, bin_and1, bin_and8_1, bin_or64, bin_xor64, bin_or8, bin_shl64, bin_shl64j, bin_shr64, bin_shr64j, bin_shl8j, bin_shr8j, bin_quo64, bin_rem64, bin_quo32, bin_rem32, bin_addj, bin_subj, bin_quoj, bin_remj, bin_eqlj, bin_neqj, bin_lssj, bin_leqj, bin_gtrj, bin_geqj, bin_eql64, bin_lss64, bin_gtr64, bin_eql8, bin_rem8, lenA_tx, ex_prim, primA_some, AS.lits, prim_ix, prim_sub, prim_sub2, prim_min, prim_ib, ex_b2s, textOf_eq, textA_sl, textA_nil, lend_own, lendRow_row, lend_sl, lend_lit, bin_adds, bin_eqls, bin_neqs, bin_geq8, bin_leq8, bin_lss8, bin_gtr8, bin_neq8, bin_sub8, bin_quo8, bin_add8, bin_mulj, cvt_j8, cvt_8j, AOp.mineB, AV.place, ex_rdp, ex_rd, rdB, bnds, efF, bin_shrju, bin_shlju, listB_tx, listB_sl, listB_nil, ex_tups, bound_jn, AV.isText, keyA_arr, bl_len, zk_len, nameK_len, p1, pb, pj, pm]; exact rfl) ?_
    have hG1 : (H.set t.j none).length = N := by rw [List.length_set]; exact hN
    have q2 : ∀ L k x, (H.set t.j none ++ L).set (N + k) x = H.set t.j none ++ L.set k x := fun L k x => cat2 N _ L k x hG1
    have qm : ∀ L, (H.set t.j none ++ L)[t.m]? = some (some (.map t.r (esOf ts) ts.length)) := fun L => by rw [cat4 N _ L _ hG1 lm, List.getElem?_set_ne n3]; exact gm
    have qsm : ∀ L x, (H.set t.j none ++ L).set t.m x = (H.set t.j none).set t.m x ++ L := fun L x => cat3 N _ L _ x hG1 lm
    have hG2 : ∀ M, ((H.set t.j none).set t.m M).length = N := fun M => by rw [List.length_set]; exact hG1
    have qm2 : ∀ M L, ((H.set t.j none).set t.m M ++ L)[t.m]? = some M := fun M L => by rw [cat4 N _ L _ (hG2 M) lm, List.getElem?_set_self (by omega)]
    have qsm2 : ∀ M M' L, ((H.set t.j none).set t.m M ++ L).set t.m M' = (H.set t.j none).set t.m M' ++ L := fun M M' L => by rw [cat3 N _ L _ _ (hG2 M) lm, List.set_set]
    have qb2 : ∀ M L, ((H.set t.j none).set t.m M ++ L)[t.b]? = some (some (.box t.l 2 (.st [1, 1] [.own t.j V, .own t.m (.map (some t.r))]))) := fun M L => by
      rw [cat4 N _ L _ (hG2 M) lb, List.getElem?_set_ne n2', List.getElem?_set_ne n1']; exact gb
    have qsb2 : ∀ M L B, ((H.set t.j none).set t.m M ++ L).set t.b B = ((H.set t.j none).set t.m M).set t.b B ++ L := fun M L B => cat3 N _ L _ _ (hG2 M) lb
    have hG3 : ∀ M B, (((H.set t.j none).set t.m M).set t.b B).length = N := fun M B => by rw [List.length_set]; exact hG2 M
    have r1 : ∀ M B L k, (((H.set t.j none).set t.m M).set t.b B ++ L)[N + k]? = L[k]? := fun M B L k => cat1 N _ L k (hG3 M B)
    have r2 : ∀ M B L k x, (((H.set t.j none).set t.m M).set t.b B ++ L).set (N + k) x = ((H.set t.j none).set t.m M).set t.b B ++ L.set k x := fun M B L k x => cat2 N _ L k x (hG3 M B)
    refine areg_ap (b := t.j) (V := V) (ys := [termA ⟨kd, text, keys⟩]) rfl (by simp only [AS.blk, pj]; rfl) (by simp [AS.ev, AS.coe, termA]) bd1 bd2 (fun V' => ?_) (by
      intro t' ht' b hb
      simp at ht'
      subst ht'
      simp [AS.ev, AV.place] at hb
      subst hb
      exact ⟨by simp [AS.slot]; omega, fun b' V e => by cases e; exact n1'⟩)
    refine areg_run 0 (by simp [runPre, AOp.ex, AOp.ex0, ex_mov, ex_bin, binA_lit, ex_cvt, ex_iaddrA, ex_iaddrS, ex_faddr, ex_load, ldA, ex_ext, ex_add64, add64A_un, ex_pick, ex_beq, ex_un, ex_len, lenA_sl, lenA_nil, lenA_str, lenA_own, lenRow_row, elA_own, elA_sl, elRow_row, ex_nilc, ex_build, ex_bslice, ex_fieldv, AOp.ro, AS.ev, AS.put, AS.fieldAddr, idxA_ptr, idxA_cptr, AS.peek, AS.poke, AS.blk, AS.setBlk, AV.nav, AV.upd, Blk.loc, Blk.cont, Blk.n, Blk.may, Blk.upd, AV.isAgg, AV.isTup, AV.sz, unVal, ownOk, fillAV, AV.sub, cvt_64j, cvt_64b, cvt_64w, cvt_8u, cvt_8w, bin_add64, bin_mul64, bin_sub64, bin_and51, bin_and32, bin_and1, bin_and8_1, bin_or64, bin_xor64, bin_or8, bin_shl64, bin_shl64j, bin_shr64, bin_shr64j, bin_shl8j, bin_shr8j, bin_quo64, bin_rem64, bin_quo32, bin_rem32, bin_addj, bin_subj, bin_quoj, bin_remj, bin_eqlj, bin_neqj, bin_lssj, bin_leqj, bin_gtrj, bin_geqj, bin_eql64, bin_lss64, bin_gtr64, bin_eql8, bin_rem8, lenA_tx, ex_prim, primA_some, AS.lits, prim_ix, prim_sub, prim_sub2, prim_min, prim_ib, ex_b2s, textOf_eq, textA_sl, textA_nil, lend_own, lendRow_row, lend_sl, lend_lit, bin_adds, bin_eqls, bin_neqs, bin_geq8, bin_leq8, bin_lss8, bin_gtr8, bin_neq8, bin_sub8, bin_quo8, bin_add8, bin_mulj, cvt_j8, cvt_8j, AOp.mineB, AV.place, ex_rdp, ex_rd, rdB, bnds, efF, bin_shrju, bin_shlju, listB_tx, listB_sl, listB_nil, ex_tups, bound_jn, AV.isText, keyA_arr, bl_len, zk_len, nameK_len, psj, q2]; exact rfl) ?_
    refine areg_ef0 (us := [.own t.m (.map (some t.r)), .lit (tx (shapeT ⟨kd, text, keys⟩))]) rfl (entry_new (by simp only [qm]) hf) ?_
    refine areg_run 1 (by simp [runPre, AOp.ex, AOp.ex0, ex_mov, ex_bin, binA_lit, ex_cvt, ex_iaddrA, ex_iaddrS, ex_faddr, ex_load, ldA, ex_ext, ex_add64, add64A_un, ex_pick, ex_beq, ex_un, ex_len, lenA_sl, lenA_nil, lenA_str, lenA_own, lenRow_row, elA_own, elA_sl, elRow_row, ex_nilc, ex_build, ex_bslice, ex_fieldv, AOp.ro, AS.ev, AS.put, AS.fieldAddr, idxA_ptr, idxA_cptr, AS.peek, AS.poke, AS.blk, AS.setBlk, AV.nav, AV.upd, Blk.loc, Blk.cont, Blk.n, Blk.may, Blk.upd, AV.isAgg, AV.isTup, AV.sz, unVal, ownOk, fillAV, AV.sub, cvt_64j, cvt_64b, cvt_64w, cvt_8u, cvt_8w, bin_add64, bin_mul64, bin_sub64, bin_and51, bin_and32, bin_and1, bin_and8_1, bin_or64, bin_xor64, bin_or8, bin_shl64, bin_shl64j, bin_shr64, bin_shr64j, bin_shl8j, bin_shr8j, bin_quo64, bin_rem64, bin_quo32, bin_rem32, bin_addj, bin_subj, bin_quoj, bin_remj, bin_eqlj, bin_neqj, bin_lssj, bin_leqj, bin_gtrj, bin_geqj, bin_eql64, bin_lss64, bin_gtr64, bin_eql8, bin_rem8, lenA_tx, ex_prim, primA_some, AS.lits, prim_ix, prim_sub, prim_sub2, prim_min, prim_ib, ex_b2s, textOf_eq, textA_sl, textA_nil, lend_own, lendRow_row, lend_sl, lend_lit, bin_adds, bin_eqls, bin_neqs, bin_geq8, bin_leq8, bin_lss8, bin_gtr8, bin_neq8, bin_sub8, bin_quo8, bin_add8, bin_mulj, cvt_j8, cvt_8j, AOp.mineB, AV.place, ex_rdp, ex_rd, rdB, bnds, efF, bin_shrju, bin_shlju, listB_tx, listB_sl, listB_nil, ex_tups, bound_jn, AV.isText, keyA_arr, bl_len, zk_len, nameK_len, qsm]; exact rfl) ?_
    refine areg_ef0 (us := [.own t.m (.map (some t.r)), .lit (jn ts.length), .lit (jn ts.length)]) rfl (stamp_new (x := ⟨kd, text, keys⟩) (by simp only [qm2])) ?_
    refine areg_end (by simp [runPre, AOp.ex, AOp.ex0, ex_mov, ex_bin, binA_lit, ex_cvt, ex_iaddrA, ex_iaddrS, ex_faddr, ex_load, ldA, ex_ext, ex_add64, add64A_un, ex_pick, ex_beq, ex_un, ex_len, lenA_sl, lenA_nil, lenA_str, lenA_own, lenRow_row, elA_own, elA_sl, elRow_row, ex_nilc, ex_build, ex_bslice, ex_fieldv, AOp.ro, AS.ev, AS.put, AS.fieldAddr, idxA_ptr, idxA_cptr, AS.peek, AS.poke, AS.blk, AS.setBlk, AV.nav, AV.upd, Blk.loc, Blk.cont, Blk.n, Blk.may, Blk.upd, AV.isAgg, AV.isTup, AV.sz, unVal, ownOk, fillAV, AV.sub, cvt_64j, cvt_64b, cvt_64w, cvt_8u, cvt_8w, bin_add64, bin_mul64, bin_sub64, bin_and51, bin_and32, bin_and1, bin_and8_1, bin_or64, bin_xor64, bin_or8, bin_shl64, bin_shl64j, bin_shr64, bin_shr64j, bin_shl8j, bin_shr8j, bin_quo64, bin_rem64, bin_quo32, bin_rem32, bin_addj, bin_subj, bin_quoj, bin_remj, bin_eqlj, bin_neqj, bin_lssj, bin_leqj, bin_gtrj, bin_geqj, bin_eql64, bin_lss64, bin_gtr64, bin_eql8, bin_rem8, lenA_tx, ex_prim, primA_some, AS.lits, prim_ix, prim_sub, prim_sub2, prim_min, prim_ib, ex_b2s, textOf_eq, textA_sl, textA_nil, lend_own, lendRow_row, lend_sl, lend_lit, bin_adds, bin_eqls, bin_neqs, bin_geq8, bin_leq8, bin_lss8, bin_gtr8, bin_neq8, bin_sub8, bin_quo8, bin_add8, bin_mulj, cvt_j8, cvt_8j, AOp.mineB, AV.place, ex_rdp, ex_rd, rdB, bnds, efF, bin_shrju, bin_shlju, listB_tx, listB_sl, listB_nil, ex_tups, bound_jn, AV.isText, keyA_arr, bl_len, zk_len, nameK_len, qsm2, qb2, qsb2]; exact rfl) ?_
    refine wp_sg ?_
    refine areg_run 1 (by simp [runPre, AOp.ex, AOp.ex0, ex_mov, ex_bin, binA_lit, ex_cvt, ex_iaddrA, ex_iaddrS, ex_faddr, ex_load, ldA, ex_ext, ex_add64, add64A_un, ex_pick, ex_beq, ex_un, ex_len, lenA_sl, lenA_nil, lenA_str, lenA_own, lenRow_row, elA_own, elA_sl, elRow_row, ex_nilc, ex_build, ex_bslice, ex_fieldv, AOp.ro, AS.ev, AS.put, AS.fieldAddr, idxA_ptr, idxA_cptr, AS.peek, AS.poke, AS.blk, AS.setBlk, AV.nav, AV.upd, Blk.loc, Blk.cont, Blk.n, Blk.may, Blk.upd, AV.isAgg, AV.isTup, AV.sz, unVal, ownOk, fillAV, AV.sub, cvt_64j, cvt_64b, cvt_64w, cvt_8u, cvt_8w, bin_add64, bin_mul64, bin_sub64, bin_and51, bin_and32, bin_and1, bin_and8_1, bin_or64, bin_xor64, bin_or8, bin_shl64, bin_shl64j, bin_shr64, bin_shr64j, bin_shl8j, bin_shr8j, bin_quo64, bin_rem64, bin_quo32, bin_rem32, bin_addj, bin_subj, bin_quoj, bin_remj, bin_eqlj, bin_neqj, bin_lssj, bin_leqj, bin_gtrj, bin_geqj, bin_eql64, bin_lss64, bin_gtr64, bin_eql8, bin_rem8, lenA_tx, ex_prim, primA_some, AS.lits, prim_ix, prim_sub, prim_sub2, prim_min, prim_ib, ex_b2s, textOf_eq, textA_sl, textA_nil, lend_own, lendRow_row, lend_sl, lend_lit, bin_adds, bin_eqls, bin_neqs, bin_geq8, bin_leq8, bin_lss8, bin_gtr8, bin_neq8, bin_sub8, bin_quo8, bin_add8, bin_mulj, cvt_j8, cvt_8j, AOp.mineB, AV.place, ex_rdp, ex_rd, rdB, bnds, efF, bin_shrju, bin_shlju, listB_tx, listB_sl, listB_nil, ex_tups, bound_jn, AV.isText, keyA_arr, bl_len, zk_len, nameK_len]; exact rfl) ?_
    refine areg_ca (by simp [AS.ev, AS.coe, AS.put] <;> exact rfl) c3 ?_
    refine areg_end (by simp [runPre, AOp.ex, AOp.ex0, ex_mov, ex_bin, binA_lit, ex_cvt, ex_iaddrA, ex_iaddrS, ex_faddr, ex_load, ldA, ex_ext, ex_add64, add64A_un, ex_pick, ex_beq, ex_un, ex_len, lenA_sl, lenA_nil, lenA_str, lenA_own, lenRow_row, elA_own, elA_sl, elRow_row, ex_nilc, ex_build, ex_bslice, ex_fieldv, AOp.ro, AS.ev, AS.put, AS.fieldAddr, idxA_ptr, idxA_cptr, AS.peek, AS.poke, AS.blk, AS.setBlk, AV.nav, AV.upd, Blk.loc, Blk.cont, Blk.n, Blk.may, Blk.upd, AV.isAgg, AV.isTup, AV.sz, unVal, ownOk, fillAV, AV.sub, cvt_64j, cvt_64b, cvt_64w, cvt_8u, cvt_8w, bin_add64, bin_mul64, bin_sub64, bin_and51, bin_and32, bin_and1, bin_and8_1, bin_or64, bin_xor64, bin_or8, bin_shl64, bin_shl64j, bin_shr64, bin_shr64j, bin_shl8j, bin_shr8j, bin_quo64, bin_rem64, bin_quo32, bin_rem32, bin_addj, bin_subj, bin_quoj, bin_remj, bin_eqlj, bin_neqj, bin_lssj, bin_leqj, bin_gtrj, bin_geqj, bin_eql64, bin_lss64, bin_gtr64, bin_eql8, bin_rem8, lenA_tx, ex_prim, primA_some, AS.lits, prim_ix, prim_sub, prim_sub2, prim_min, prim_ib, ex_b2s, textOf_eq, textA_sl, textA_nil, lend_own, lendRow_row, lend_sl, lend_lit, bin_adds, bin_eqls, bin_neqs, bin_geq8, bin_leq8, bin_lss8, bin_gtr8, bin_neq8, bin_sub8, bin_quo8, bin_add8, bin_mulj, cvt_j8, cvt_8j, AOp.mineB, AV.place, ex_rdp, ex_rd, rdB, bnds, efF, bin_shrju, bin_shlju, listB_tx, listB_sl, listB_nil, ex_tups, bound_jn, AV.isText, keyA_arr, bl_len, zk_len, nameK_len, r1, r2, nameK_len]; exact rfl) (wp_ret' ?_)
    refine efin V' (ts ++ [⟨kd, text, keys⟩]) ts.length _ (by simp [putT, hf]) (by simp [putN, hf]) (by simp [RVal, AS.ev, AS.peek, AS.blk, r1, Blk.loc, Blk.cont, Blk.n, AV.nav, AV.isAgg, AV.isTup]; rfl) ?_
    have hsw := HpLe.swap (hp := (((H.set t.j none).set t.m (some (tmk t.r (ts ++ [⟨kd, text, keys⟩])))).set t.b (some (.box t.l 2 (.st [1, 1] [.own (N + 49) V', .own t.m (.map (some t.r))])))) ++ ([none, none, none, none, none, none, none, none, some (.box l 32 (.arr 1 (bl (nameK ts.length)))), some (.box l2 3 (.st [1, 1, 1] [.lit (jn kd), .lit (tx text), .sl 32 (klA keys)]))] ++ List.replicate 39 none ++ [some (.row 74 V' 3 (ts.map termA ++ [termA ⟨kd, text, keys⟩]) 0)] ++ List.replicate 6 none)) (H := H.set t.m (some (tmk t.r (ts ++ [⟨kd, text, keys⟩])))) (b := t.b) (j := t.j) (d := N + 49) (X := .box t.l 2 (.st [1, 1] [.own (N + 49) V', .own t.m (.map (some t.r))])) (X' := tbk t.l t.j t.m t.r V') (Y := trk V' (ts ++ [⟨kd, text, keys⟩])) (by rw [List.length_set]; omega) n1 (by rw [List.length_set]; omega) ?_ ?_ ?_ ?_
    · have e : ((H.set t.m (some (tmk t.r (ts ++ [⟨kd, text, keys⟩])))).set t.b (some (tbk t.l t.j t.m t.r V'))).set t.j (some (trk V' (ts ++ [⟨kd, text, keys⟩]))) = tbOf H t V' (ts ++ [⟨kd, text, keys⟩]) := by
        unfold tbOf
        rw [List.set_comm _ _ n2', List.set_comm _ _ n3']
      rw [e] at hsw
      exact hsw
    · rw [cat4 N _ _ _ (hG3 _ _) lb, List.getElem?_set_self (by rw [hG2]; exact lb)]
    · rw [r1]; simp [trk]
    · intro k k1 k2 k3
      rw [List.length_set, hN] at k3
      rw [cat4 N _ _ _ (hG3 _ _) k3, List.getElem?_set_ne (Ne.symm k1)]
      by_cases hkm : t.m = k
      · subst hkm
        rw [List.getElem?_set_self (by omega), List.getElem?_set_self (by omega)]
      · rw [List.getElem?_set_ne hkm, List.getElem?_set_ne hkm, List.getElem?_set_ne (Ne.symm k2)]
    · exact BlkLe.box (AVle.st1 (AVle.own _ _ _) (AVle.st1 (AVle.refl _) AVle.st0))
end Go.Cab

/- Free kit: Draw, Hash, Pub. -/
-- TEXTS
-- KIT
namespace Go.Cab
open Classical
def fb416 : AC := (.seq (.reg [⟨(.some 4), .none, (.alloc 32 (.arr 1 (List.replicate 32 (.lit (bn 0))))), [], .none⟩]) (.seq (.reg [⟨(.some 5), .none, (.mov (.tmp 0)), [], .none⟩, ⟨(.some 6), .none, (.mov (.tmp 1)), [], .none⟩, ⟨(.some 7), .none, (.icall 17 (.tmp 5) [(.const (jn 1)), (.tmp 6), (.const (.slice .none 0 0))]), [], .none⟩, ⟨.none, .none, (.store 32 (.tmp 4) (.tmp 7)), [], .none⟩]) .ret))
def fc416 : FC := ⟨2, 8, [(.cell 4 .true 32)], fb416⟩
theorem fc416_eq : compF Go.Proofs.Try.prog 11 = some fc416 := by kernel_rfl
def fb440 : AC := (.seq (.reg [⟨(.some 6), .none, (.alloc 32 (.arr 1 (List.replicate 32 (.lit (bn 0))))), [], .none⟩]) (.seq (.reg [⟨(.some 7), .none, (.mov (.tmp 0)), [], .none⟩, ⟨(.some 8), .none, (.mov (.tmp 1)), [], .none⟩, ⟨(.some 9), .none, (.mov (.tmp 2)), [], .none⟩, ⟨(.some 10), .none, (.icall 17 (.tmp 7) [(.const (jn 2)), (.tmp 8), (.tmp 9)]), [], .none⟩, ⟨.none, .none, (.store 32 (.tmp 6) (.tmp 10)), [], .none⟩]) .ret))
def fc440 : FC := ⟨3, 11, [(.cell 6 .true 32)], fb440⟩
theorem fc440_eq : compF Go.Proofs.Try.prog 50 = some fc440 := by kernel_rfl
def fb441 : AC := (.seq (.reg [⟨(.some 3), .none, (.box 32 (.tmp 1)), [], .none⟩, ⟨(.some 4), .none, (.alloc 32 (.arr 1 (List.replicate 32 (.lit (bn 0))))), [], .none⟩]) (.seq (.reg [⟨(.some 5), .none, (.mov (.tmp 0)), [], .none⟩, ⟨(.some 6), .none, (.load .true 32 (.tmp 3)), [], .none⟩, ⟨(.some 7), .none, (.bslice 32 (.arr 1 (List.replicate 32 (.lit (bn 0)))) 1 [(0, (.tmp 6))]), [], .none⟩, ⟨(.some 8), .none, (.icall 17 (.tmp 5) [(.const (jn 3)), (.const (tx [])), (.tmp 7)]), [], .none⟩, ⟨.none, .none, (.store 32 (.tmp 4) (.tmp 8)), [], .none⟩]) .ret))
def fc441 : FC := ⟨2, 9, [(.cell 4 .true 32)], fb441⟩
theorem fc441_eq : compF Go.Proofs.Try.prog 52 = some fc441 := by kernel_rfl

theorem PutK.ex (H : List (Option Blk)) (t : Tb) (ts : List Term) (x : Term) : ∃ r H', PutK H t ts x r H' := ⟨_, _, rfl, .slice none 0 0, rfl⟩
theorem nil_kl : ArgLe [.lit (.slice none 0 0)] [.sl 32 (klA [])] := ⟨RelLe.nil 32, trivial⟩

/-- .. with blocks of the call's own behind the caller's. -/
theorem put_at {H : List (Option Blk)} {t : Tb} {V : Value} {ts : List Term} (hh : TbOk H t V ts) (hn : ts.length < 100000) (x : Term) (hx : TermOk x) (L : List (Option Blk)) :
    XCall Go.Proofs.Try.prog 17 [.ptr t.b t.l 0 [], .lit (jn x.kind), .lit (tx x.text), .sl 32 (klA x.keys)] (H ++ L) fun r H' => r = keyA (nameK (putN ts x)) ∧ ∃ V', H' = tbOf H t V' (putT ts x) ++ L := by
  refine XCall.mono (put_call (hh.app L) hn x hx) ?_
  rintro r H' ⟨h1, V', h2⟩
  exact ⟨h1, V', by rw [h2, hh.of_app]⟩

/-- What is answered out of a cell, behind a call of the table. -/
theorem fin_put {H G L : List (Option Blk)} {t : Tb} {ts : List Term} {x : Term} {V' : Value} {c : Tmp} {s : AS} (hr : RVal s (.cell c true 32) = some (keyA (nameK (putN ts x)))) (hg : G = tbOf H t V' (putT ts x)) (hp : s.hp = G ++ L) :
    ∃ s1, Le s s1 ∧ FinX [RV.cell c true 32] s1 fun r H' => ∃ r' A, RelLe r r' ∧ r' ≠ .any ∧ HpLe H' A ∧ PutK H t ts x r' A :=
  ⟨s, Le.refl _, [], _, ⟨hr, by simp [keyA]⟩, _, G, RelLe.refl _, by simp [keyA], by show HpLe s.hp G; rw [hp]; exact HpLe.trim _ _, rfl, V', hg⟩

set_option maxHeartbeats 2000000 in
theorem draw_call {H : List (Option Blk)} {t : Tb} {V : Value} {ts : List Term} (hh : TbOk H t V ts) (hn : ts.length < 100000) (name : List UInt8) (hl : name.length < 100000) :
    XCall Go.Proofs.Try.prog 11 [.ptr t.b t.l 0 [], .lit (tx name)] H (PutK H t ts ⟨1, name, []⟩) := by
  have h416 := fc416_eq
  refine XCall.le ?_
  have hx : TermOk ⟨1, name, []⟩ := ⟨by simp, hl, by simp, by simp⟩
  refine XCall.of h416 rfl ?_; show AC.wp _ fb416 ⟨H.length, [.ptr t.b t.l 0 [], .lit (tx name)] ++ List.replicate (8 - 2) .any, H ++ List.replicate 8 none⟩ (fun x s => match x with | .exit _ => False | _ => ∃ s1, Le s s1 ∧ FinX [(.cell 4 .true 32)] s1 _); unfold fb416
  have hput := put_at hh hn _ hx
  generalize hN : H.length = N at *
  have p2 : ∀ L k x, (H ++ L).set (N + k) x = H ++ L.set k x := fun L k x => cat2 N H L k x hN
  refine wp_sg (areg_al' zk_eq.symm fun l => areg_end (by simp [runPre, AOp.ex, AOp.ex0, ex_mov, ex_bin, binA_lit, ex_cvt, ex_iaddrA, ex_iaddrS, ex_faddr, ex_load, ldA, ex_ext, ex_add64, add64A_un, ex_pick, ex_beq, ex_un, ex_len, lenA_sl, lenA_nil, lenA_str, lenA_own, lenRow_row, elA_own, elA_sl, elRow_row, ex_nilc, ex_build, ex_bslice, ex_fieldv, AOp.ro, AS.ev, AS.put, AS.fieldAddr, idxA_ptr, idxA_cptr, AS.peek, AS.poke, AS.blk, AS.setBlk, AV.nav, AV.upd, Blk.loc, Blk.cont, Blk.n, Blk.may, Blk.upd, AV.isAgg, AV.isTup, AV.sz, unVal, ownOk, fillAV, AV.sub, cvt_64j, cvt_64b, cvt_64w, cvt_8u, cvt_8w, bin_add64, bin_mul64, bin_sub64, bin_and51, bin_and32, bin_and1, bin_and8_1, bin_or64, bin_xor64, bin_or8, bin_shl64, bin_shl64j, bin_shr64, bin_shr64j, bin_shl8j, bin_shr8j, bin_quo64, bin_rem64, bin_quo32, bin_rem32, bin_addj, bin_subj, bin_quoj, bin_remj, bin_eqlj, bin_neqj, bin_lssj, bin_leqj, bin_gtrj, bin_geqj, bin_eql64, bin_lss64, bin_gtr64, bin_eql8, bin_rem8, lenA_tx, ex_prim, primA_some, AS.lits, prim_ix, prim_sub, prim_sub2, prim_min, prim_ib, ex_b2s, textOf_eq, textA_sl, textA_nil, lend_own, lendRow_row, lend_sl, lend_lit, bin_adds, bin_eqls, bin_neqs, bin_geq8, bin_leq8, bin_lss8, bin_gtr8, bin_neq8, bin_sub8, bin_quo8, bin_add8, bin_mulj, cvt_j8, cvt_8j, AOp.mineB, AV.place, ex_rdp, ex_rd, rdB, bnds, efF, bin_shrju, bin_shlju, listB_tx, listB_sl, listB_nil, ex_tups, bound_jn, AV.isText, keyA_arr, bl_len, zk_len, nameK_len, p2]; exact rfl) ?_)
  refine wp_sg ?_
  refine areg_run 2 (by simp [runPre, AOp.ex, AOp.ex0, ex_mov, ex_bin, binA_lit, ex_cvt, ex_iaddrA, ex_iaddrS, ex_faddr, ex_load, ldA, ex_ext, ex_add64, add64A_un, ex_pick, ex_beq, ex_un, ex_len, lenA_sl, lenA_nil, lenA_str, lenA_own, lenRow_row, elA_own, elA_sl, elRow_row, ex_nilc, ex_build, ex_bslice, ex_fieldv, AOp.ro, AS.ev, AS.put, AS.fieldAddr, idxA_ptr, idxA_cptr, AS.peek, AS.poke, AS.blk, AS.setBlk, AV.nav, AV.upd, Blk.loc, Blk.cont, Blk.n, Blk.may, Blk.upd, AV.isAgg, AV.isTup, AV.sz, unVal, ownOk, fillAV, AV.sub, cvt_64j, cvt_64b, cvt_64w, cvt_8u, cvt_8w, bin_add64, bin_mul64, bin_sub64, bin_and51, bin_and32, bin_and1, bin_and8_1, bin_or64, bin_xor64, bin_or8, bin_shl64, bin_shl64j, bin_shr64, bin_shr64j, bin_shl8j, bin_shr8j, bin_quo64, bin_rem64, bin_quo32, bin_rem32, bin_addj, bin_subj, bin_quoj, bin_remj, bin_eqlj, bin_neqj, bin_lssj, bin_leqj, bin_gtrj, bin_geqj, bin_eql64, bin_lss64, bin_gtr64, bin_eql8, bin_rem8, lenA_tx, ex_prim, primA_some, AS.lits, prim_ix, prim_sub, prim_sub2, prim_min, prim_ib, ex_b2s, textOf_eq, textA_sl, textA_nil, lend_own, lendRow_row, lend_sl, lend_lit, bin_adds, bin_eqls, bin_neqs, bin_geq8, bin_leq8, bin_lss8, bin_gtr8, bin_neq8, bin_sub8, bin_quo8, bin_add8, bin_mulj, cvt_j8, cvt_8j, AOp.mineB, AV.place, ex_rdp, ex_rd, rdB, bnds, efF, bin_shrju, bin_shlju, listB_tx, listB_sl, listB_nil, ex_tups, bound_jn, AV.isText, keyA_arr, bl_len, zk_len, nameK_len]; exact rfl) ?_
  refine areg_xc (vs := [.ptr t.b t.l 0 [], .lit (jn 1), .lit (tx name), .lit (.slice none 0 0)]) rfl (XCall.args (m := [.ptr t.b t.l 0 [], .lit (jn 1), .lit (tx name), .sl 32 (klA [])]) (by exact ⟨RelLe.refl _, RelLe.refl _, RelLe.refl _, RelLe.nil 32, trivial⟩) (hput _)) ⟨_, _, rfl, .slice none 0 0, rfl⟩ ?_
  rintro r H' ⟨rfl, V', rfl⟩
  have hG : (tbOf H t V' (putT ts ⟨1, name, []⟩)).length = N := by rw [tbOf_len]; exact hN
  generalize hgen : tbOf H t V' (putT ts ⟨1, name, []⟩) = G at *
  have r1 : ∀ L k, (G ++ L)[N + k]? = L[k]? := fun L k => cat1 N G L k hG
  have r2 : ∀ L k x, (G ++ L).set (N + k) x = G ++ L.set k x := fun L k x => cat2 N G L k x hG
  refine areg_end (by simp [runPre, AOp.ex, AOp.ex0, ex_mov, ex_bin, binA_lit, ex_cvt, ex_iaddrA, ex_iaddrS, ex_faddr, ex_load, ldA, ex_ext, ex_add64, add64A_un, ex_pick, ex_beq, ex_un, ex_len, lenA_sl, lenA_nil, lenA_str, lenA_own, lenRow_row, elA_own, elA_sl, elRow_row, ex_nilc, ex_build, ex_bslice, ex_fieldv, AOp.ro, AS.ev, AS.put, AS.fieldAddr, idxA_ptr, idxA_cptr, AS.peek, AS.poke, AS.blk, AS.setBlk, AV.nav, AV.upd, Blk.loc, Blk.cont, Blk.n, Blk.may, Blk.upd, AV.isAgg, AV.isTup, AV.sz, unVal, ownOk, fillAV, AV.sub, cvt_64j, cvt_64b, cvt_64w, cvt_8u, cvt_8w, bin_add64, bin_mul64, bin_sub64, bin_and51, bin_and32, bin_and1, bin_and8_1, bin_or64, bin_xor64, bin_or8, bin_shl64, bin_shl64j, bin_shr64, bin_shr64j, bin_shl8j, bin_shr8j, bin_quo64, bin_rem64, bin_quo32, bin_rem32, bin_addj, bin_subj, bin_quoj, bin_remj, bin_eqlj, bin_neqj, bin_lssj, bin_leqj, bin_gtrj, bin_geqj, bin_eql64, bin_lss64, bin_gtr64, bin_eql8, bin_rem8, lenA_tx, ex_prim, primA_some, AS.lits, prim_ix, prim_sub, prim_sub2, prim_min, prim_ib, ex_b2s, textOf_eq, textA_sl, textA_nil, lend_own, lendRow_row, lend_sl, lend_lit, bin_adds, bin_eqls, bin_neqs, bin_geq8, bin_leq8, bin_lss8, bin_gtr8, bin_neq8, bin_sub8, bin_quo8, bin_add8, bin_mulj, cvt_j8, cvt_8j, AOp.mineB, AV.place, ex_rdp, ex_rd, rdB, bnds, efF, bin_shrju, bin_shlju, listB_tx, listB_sl, listB_nil, ex_tups, bound_jn, AV.isText, keyA_arr, bl_len, zk_len, nameK_len, r1, r2, nameK_len]; exact rfl) (wp_ret' ?_)
  refine fin_put (V' := V') (G := G) (by simp [RVal, AS.ev, AS.peek, AS.blk, r1, Blk.loc, Blk.cont, Blk.n, AV.nav, AV.isAgg, AV.isTup]; rfl) hgen.symm rfl

set_option maxHeartbeats 2000000 in
theorem hash_call {H : List (Option Blk)} {t : Tb} {V : Value} {ts : List Term} (hh : TbOk H t V ts) (hn : ts.length < 100000) (name : List UInt8) (hl : name.length < 100000) (keys : List (List UInt8)) (hk : keys.length < 100000) (h32 : ∀ k ∈ keys, k.length = 32) :
    XCall Go.Proofs.Try.prog 50 [.ptr t.b t.l 0 [], .lit (tx name), .sl 32 (klA keys)] H (PutK H t ts ⟨2, name, keys⟩) := by
  have h440 := fc440_eq
  refine XCall.le ?_
  have hx : TermOk ⟨2, name, keys⟩ := ⟨by simp, hl, hk, h32⟩
  refine XCall.of h440 rfl ?_; show AC.wp _ fb440 ⟨H.length, [.ptr t.b t.l 0 [], .lit (tx name), .sl 32 (klA keys)] ++ List.replicate (11 - 3) .any, H ++ List.replicate 11 none⟩ (fun x s => match x with | .exit _ => False | _ => ∃ s1, Le s s1 ∧ FinX [(.cell 6 .true 32)] s1 _); unfold fb440
  have hput := put_at hh hn _ hx
  generalize hN : H.length = N at *
  have p2 : ∀ L k x, (H ++ L).set (N + k) x = H ++ L.set k x := fun L k x => cat2 N H L k x hN
  refine wp_sg (areg_al' zk_eq.symm fun l => areg_end (by simp [runPre, AOp.ex, AOp.ex0, ex_mov, ex_bin, binA_lit, ex_cvt, ex_iaddrA, ex_iaddrS, ex_faddr, ex_load, ldA, ex_ext, ex_add64, add64A_un, ex_pick, ex_beq, ex_un, ex_len, lenA_sl, lenA_nil, lenA_str, lenA_own, lenRow_row, elA_own, elA_sl, elRow_row, ex_nilc, ex_build, ex_bslice, ex_fieldv, AOp.ro, AS.ev, AS.put, AS.fieldAddr, idxA_ptr, idxA_cptr, AS.peek, AS.poke, AS.blk, AS.setBlk, AV.nav, AV.upd, Blk.loc, Blk.cont, Blk.n, Blk.may, Blk.upd, AV.isAgg, AV.isTup, AV.sz, unVal, ownOk, fillAV, AV.sub, cvt_64j, cvt_64b, cvt_64w, cvt_8u, cvt_8w, bin_add64, bin_mul64, bin_sub64, bin_and51, bin_and32, bin_and1, bin_and8_1, bin_or64, bin_xor64, bin_or8, bin_shl64, bin_shl64j, bin_shr64, bin_shr64j, bin_shl8j, bin_shr8j, bin_quo64, bin_rem64, bin_quo32, bin_rem32, bin_addj, bin_subj, bin_quoj, bin_remj, bin_eqlj, bin_neqj, bin_lssj, bin_leqj, bin_gtrj, bin_geqj, bin_eql64, bin_lss64, bin_gtr64, bin_eql8, bin_rem8, lenA_tx, ex_prim, primA_some, AS.lits, prim_ix, prim_sub, prim_sub2, prim_min, prim_ib, ex_b2s, textOf_eq, textA_sl, textA_nil, lend_own, lendRow_row, lend_sl, lend_lit, bin_adds, bin_eqls, bin_neqs, bin_geq8, bin_leq8, bin_lss8, bin_gtr8, bin_neq8, bin_sub8, bin_quo8, bin_add8, bin_mulj, cvt_j8, cvt_8j, AOp.mineB, AV.place, ex_rdp, ex_rd, rdB, bnds, efF, bin_shrju, bin_shlju, listB_tx, listB_sl, listB_nil, ex_tups, bound_jn, AV.isText, keyA_arr, bl_len, zk_len, nameK_len, p2]; exact rfl) ?_)
  refine wp_sg ?_
  refine areg_run 3 (by simp [runPre, AOp.ex, AOp.ex0, ex_mov, ex_bin, binA_lit, ex_cvt, ex_iaddrA, ex_iaddrS, ex_faddr, ex_load, ldA, ex_ext, ex_add64, add64A_un, ex_pick, ex_beq, ex_un, ex_len, lenA_sl, lenA_nil, lenA_str, lenA_own, lenRow_row, elA_own, elA_sl, elRow_row, ex_nilc, ex_build, ex_bslice, ex_fieldv, AOp.ro, AS.ev, AS.put, AS.fieldAddr, idxA_ptr, idxA_cptr, AS.peek, AS.poke, AS.blk, AS.setBlk, AV.nav, AV.upd, Blk.loc, Blk.cont, Blk.n, Blk.may, Blk.upd, AV.isAgg, AV.isTup, AV.sz, unVal, ownOk, fillAV, AV.sub, cvt_64j, cvt_64b, cvt_64w, cvt_8u, cvt_8w, bin_add64, bin_mul64, bin_sub64, bin_and51, bin_and32, bin_and1, bin_and8_1, bin_or64, bin_xor64, bin_or8, bin_shl64, bin_shl64j, bin_shr64, bin_shr64j, bin_shl8j, bin_shr8j, bin_quo64, bin_rem64, bin_quo32, bin_rem32, bin_addj, bin_subj, bin_quoj, bin_remj, bin_eqlj, bin_neqj, bin_lssj, bin_leqj, bin_gtrj, bin_geqj, bin_eql64, bin_lss64, bin_gtr64, bin_eql8, bin_rem8, lenA_tx, ex_prim, primA_some, AS.lits, prim_ix, prim_sub, prim_sub2, prim_min, prim_ib, ex_b2s, textOf_eq, textA_sl, textA_nil, lend_own, lendRow_row, lend_sl, lend_lit, bin_adds, bin_eqls, bin_neqs, bin_geq8, bin_leq8, bin_lss8, bin_gtr8, bin_neq8, bin_sub8, bin_quo8, bin_add8, bin_mulj, cvt_j8, cvt_8j, AOp.mineB, AV.place, ex_rdp, ex_rd, rdB, bnds, efF, bin_shrju, bin_shlju, listB_tx, listB_sl, listB_nil, ex_tups, bound_jn, AV.isText, keyA_arr, bl_len, zk_len, nameK_len]; exact rfl) ?_
  refine areg_xc rfl (hput _) ⟨_, _, rfl, .slice none 0 0, rfl⟩ ?_
  rintro r H' ⟨rfl, V', rfl⟩
  have hG : (tbOf H t V' (putT ts ⟨2, name, keys⟩)).length = N := by rw [tbOf_len]; exact hN
  generalize hgen : tbOf H t V' (putT ts ⟨2, name, keys⟩) = G at *
  have r1 : ∀ L k, (G ++ L)[N + k]? = L[k]? := fun L k => cat1 N G L k hG
  have r2 : ∀ L k x, (G ++ L).set (N + k) x = G ++ L.set k x := fun L k x => cat2 N G L k x hG
  refine areg_end (by simp [runPre, AOp.ex, AOp.ex0, ex_mov, ex_bin, binA_lit, ex_cvt, ex_iaddrA, ex_iaddrS, ex_faddr, ex_load, ldA, ex_ext, ex_add64, add64A_un, ex_pick, ex_beq, ex_un, ex_len, lenA_sl, lenA_nil, lenA_str, lenA_own, lenRow_row, elA_own, elA_sl, elRow_row, ex_nilc, ex_build, ex_bslice, ex_fieldv, AOp.ro, AS.ev, AS.put, AS.fieldAddr, idxA_ptr, idxA_cptr, AS.peek, AS.poke, AS.blk, AS.setBlk, AV.nav, AV.upd, Blk.loc, Blk.cont, Blk.n, Blk.may, Blk.upd, AV.isAgg, AV.isTup, AV.sz, unVal, ownOk, fillAV, AV.sub, cvt_64j, cvt_64b, cvt_64w, cvt_8u, cvt_8w, bin_add64, bin_mul64, bin_sub64, bin_and51, bin_and32, bin_and1, bin_and8_1, bin_or64, bin_xor64, bin_or8, bin_shl64, bin_shl64j, bin_shr64, bin_shr64j, bin_shl8j, bin_shr8j, bin_quo64, bin_rem64, bin_quo32, bin_rem32, bin_addj, bin_subj, bin_quoj, bin_remj, bin_eqlj, bin_neqj, bin_lssj, bin_leqj, bin_gtrj, bin_geqj, bin_eql64, bin_lss64, bin_gtr64, bin_eql8, bin_rem8, lenA_tx, ex_prim, primA_some, AS.lits, prim_ix, prim_sub, prim_sub2, prim_min, prim_ib, ex_b2s, textOf_eq, textA_sl, textA_nil, lend_own, lendRow_row, lend_sl, lend_lit, bin_adds, bin_eqls, bin_neqs, bin_geq8, bin_leq8, bin_lss8, bin_gtr8, bin_neq8, bin_sub8, bin_quo8, bin_add8, bin_mulj, cvt_j8, cvt_8j, AOp.mineB, AV.place, ex_rdp, ex_rd, rdB, bnds, efF, bin_shrju, bin_shlju, listB_tx, listB_sl, listB_nil, ex_tups, bound_jn, AV.isText, keyA_arr, bl_len, zk_len, nameK_len, r1, r2, nameK_len]; exact rfl) (wp_ret' ?_)
  refine fin_put (V' := V') (G := G) (by simp [RVal, AS.ev, AS.peek, AS.blk, r1, Blk.loc, Blk.cont, Blk.n, AV.nav, AV.isAgg, AV.isTup]; rfl) hgen.symm rfl

set_option maxHeartbeats 2000000 in
theorem pub_call {H : List (Option Blk)} {t : Tb} {V : Value} {ts : List Term} (hh : TbOk H t V ts) (hn : ts.length < 100000) {k : List UInt8} (hk : k.length = 32) :
    XCall Go.Proofs.Try.prog 52 [.ptr t.b t.l 0 [], keyA k] H (PutK H t ts ⟨3, [], [k]⟩) := by
  have h441 := fc441_eq
  refine XCall.le ?_
  have hx : TermOk ⟨3, [], [k]⟩ := ⟨by simp, by simp, by simp, by simp [hk]⟩
  refine XCall.of h441 rfl ?_; show AC.wp _ fb441 ⟨H.length, [.ptr t.b t.l 0 [], keyA k] ++ List.replicate (9 - 2) .any, H ++ List.replicate 9 none⟩ (fun x s => match x with | .exit _ => False | _ => ∃ s1, Le s s1 ∧ FinX [(.cell 4 .true 32)] s1 _); unfold fb441
  have hput := put_at hh hn _ hx
  generalize hN : H.length = N at *
  have p1 : ∀ L k, (H ++ L)[N + k]? = L[k]? := fun L k => cat1 N H L k hN
  have p2 : ∀ L k x, (H ++ L).set (N + k) x = H ++ L.set k x := fun L k x => cat2 N H L k x hN
  refine wp_sg (areg_bx rfl (by simp [AS.ev, keyA, AV.sz, bl, hk]) fun l0 => areg_al' zk_eq.symm fun l => areg_end (by simp [runPre, AOp.ex, AOp.ex0, ex_mov, ex_bin, binA_lit, ex_cvt, ex_iaddrA, ex_iaddrS, ex_faddr, ex_load, ldA, ex_ext, ex_add64, add64A_un, ex_pick, ex_beq, ex_un, ex_len, lenA_sl, lenA_nil, lenA_str, lenA_own, lenRow_row, elA_own, elA_sl, elRow_row, ex_nilc, ex_build, ex_bslice, ex_fieldv, AOp.ro, AS.ev, AS.put, AS.fieldAddr, idxA_ptr, idxA_cptr, AS.peek, AS.poke, AS.blk, AS.setBlk, AV.nav, AV.upd, Blk.loc, Blk.cont, Blk.n, Blk.may, Blk.upd, AV.isAgg, AV.isTup, AV.sz, unVal, ownOk, fillAV, AV.sub, cvt_64j, cvt_64b, cvt_64w, cvt_8u, cvt_8w, bin_add64, bin_mul64, bin_sub64, bin_and51, bin_and32, bin_and1, bin_and8_1, bin_or64, bin_xor64, bin_or8, bin_shl64, bin_shl64j, bin_shr64, bin_shr64j, bin_shl8j, bin_shr8j, bin_quo64, bin_rem64, bin_quo32, bin_rem32, bin_addj, bin_subj, bin_quoj, bin_remj, bin_eqlj, bin_neqj, bin_lssj, bin_leqj, bin_gtrj, bin_geqj, bin_eql64, bin_lss64, bin_gtr64, bin_eql8, bin_rem8, lenA_tx, ex_prim, primA_some, AS.lits, prim_ix, prim_sub, prim_sub2, prim_min, prim_ib, ex_b2s, textOf_eq, textA_sl, textA_nil, lend_own, lendRow_row, lend_sl, lend_lit, bin_adds, bin_eqls, bin_neqs, bin_geq8, bin_leq8, bin_lss8, bin_gtr8, bin_neq8, bin_sub8, bin_quo8, bin_add8, bin_mulj, cvt_j8, cvt_8j, AOp.mineB, AV.place, ex_rdp, ex_rd, rdB, bnds, efF, bin_shrju, bin_shlju, listB_tx, listB_sl, listB_nil, ex_tups, bound_jn, AV.isText, keyA_arr, bl_len, zk_len, nameK_len, p2]; exact rfl) ?_)
  refine wp_sg ?_
  refine areg_run 3 (by simp [runPre, AOp.ex, AOp.ex0, ex_mov, ex_bin, binA_lit, ex_cvt, ex_iaddrA, ex_iaddrS, ex_faddr, ex_load, ldA, ex_ext, ex_add64, add64A_un, ex_pick, ex_beq, ex_un, ex_len, lenA_sl, lenA_nil, lenA_str, lenA_own, lenRow_row, elA_own, elA_sl, elRow_row, ex_nilc, ex_build, ex_bslice, ex_fieldv, AOp.ro, AS.ev, AS.put, AS.fieldAddr, idxA_ptr, idxA_cptr, AS.peek, AS.poke, AS.blk, AS.setBlk, AV.nav, AV.upd, Blk.loc, Blk.cont, Blk.n, Blk.may, Blk.upd, AV.isAgg, AV.isTup, AV.sz, unVal, ownOk, fillAV, AV.sub, cvt_64j, cvt_64b, cvt_64w, cvt_8u, cvt_8w, bin_add64, bin_mul64, bin_sub64, bin_and51, bin_and32, bin_and1, bin_and8_1, bin_or64, bin_xor64, bin_or8, bin_shl64, bin_shl64j, bin_shr64, bin_shr64j, bin_shl8j, bin_shr8j, bin_quo64, bin_rem64, bin_quo32, bin_rem32, bin_addj, bin_subj, bin_quoj, bin_remj, bin_eqlj, bin_neqj, bin_lssj, bin_leqj, bin_gtrj, bin_geqj, bin_eql64, bin_lss64, bin_gtr64, bin_eql8, bin_rem8, lenA_tx, ex_prim, primA_some, AS.lits, prim_ix, prim_sub, prim_sub2, prim_min, prim_ib, ex_b2s, textOf_eq, textA_sl, textA_nil, lend_own, lendRow_row, lend_sl, lend_lit, bin_adds, bin_eqls, bin_neqs, bin_geq8, bin_leq8, bin_lss8, bin_gtr8, bin_neq8, bin_sub8, bin_quo8, bin_add8, bin_mulj, cvt_j8, cvt_8j, AOp.mineB, AV.place, ex_rdp, ex_rd, rdB, bnds, efF, bin_shrju, bin_shlju, listB_tx, listB_sl, listB_nil, ex_tups, bound_jn, AV.isText, keyA_arr, bl_len, zk_len, nameK_len, p1, hk]; exact rfl) ?_
  refine areg_xc rfl (hput _) ⟨_, _, rfl, .slice none 0 0, rfl⟩ ?_
  rintro r H' ⟨rfl, V', rfl⟩
  have hG : (tbOf H t V' (putT ts ⟨3, [], [k]⟩)).length = N := by rw [tbOf_len]; exact hN
  generalize hgen : tbOf H t V' (putT ts ⟨3, [], [k]⟩) = G at *
  have r1 : ∀ L k, (G ++ L)[N + k]? = L[k]? := fun L k => cat1 N G L k hG
  have r2 : ∀ L k x, (G ++ L).set (N + k) x = G ++ L.set k x := fun L k x => cat2 N G L k x hG
  refine areg_end (by simp [runPre, AOp.ex, AOp.ex0, ex_mov, ex_bin, binA_lit, ex_cvt, ex_iaddrA, ex_iaddrS, ex_faddr, ex_load, ldA, ex_ext, ex_add64, add64A_un, ex_pick, ex_beq, ex_un, ex_len, lenA_sl, lenA_nil, lenA_str, lenA_own, lenRow_row, elA_own, elA_sl, elRow_row, ex_nilc, ex_build, ex_bslice, ex_fieldv, AOp.ro, AS.ev, AS.put, AS.fieldAddr, idxA_ptr, idxA_cptr, AS.peek, AS.poke, AS.blk, AS.setBlk, AV.nav, AV.upd, Blk.loc, Blk.cont, Blk.n, Blk.may, Blk.upd, AV.isAgg, AV.isTup, AV.sz, unVal, ownOk, fillAV, AV.sub, cvt_64j, cvt_64b, cvt_64w, cvt_8u, cvt_8w, bin_add64, bin_mul64, bin_sub64, bin_and51, bin_and32, bin_and1, bin_and8_1, bin_or64, bin_xor64, bin_or8, bin_shl64, bin_shl64j, bin_shr64, bin_shr64j, bin_shl8j, bin_shr8j, bin_quo64, bin_rem64, bin_quo32, bin_rem32, bin_addj, bin_subj, bin_quoj, bin_remj, bin_eqlj, bin_neqj, bin_lssj, bin_leqj, bin_gtrj, bin_geqj, bin_eql64, bin_lss64, bin_gtr64, bin_eql8, bin_rem8, lenA_tx, ex_prim, primA_some, AS.lits, prim_ix, prim_sub, prim_sub2, prim_min, prim_ib, ex_b2s, textOf_eq, textA_sl, textA_nil, lend_own, lendRow_row, lend_sl, lend_lit, bin_adds, bin_eqls, bin_neqs, bin_geq8, bin_leq8, bin_lss8, bin_gtr8, bin_neq8, bin_sub8, bin_quo8, bin_add8, bin_mulj, cvt_j8, cvt_8j, AOp.mineB, AV.place, ex_rdp, ex_rd, rdB, bnds, efF, bin_shrju, bin_shlju, listB_tx, listB_sl, listB_nil, ex_tups, bound_jn, AV.isText, keyA_arr, bl_len, zk_len, nameK_len, r1, r2, nameK_len]; exact rfl) (wp_ret' ?_)
  refine fin_put (V' := V') (G := G) (by simp [RVal, AS.ev, AS.peek, AS.blk, r1, Blk.loc, Blk.cont, Blk.n, AV.nav, AV.isAgg, AV.isTup]; rfl) hgen.symm rfl
end Go.Cab

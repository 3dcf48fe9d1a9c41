/- Part 10 of what the proof stands on: G12, G13. -/
import Derived.Test.YtjdoefdcdogeiaaCab09
set_option linter.unusedSimpArgs false
set_option linter.unnecessarySimpa false
set_option linter.unusedVariables false
set_option linter.unusedSectionVars false
/- Bundle: a store, and what it shows. -/
-- TEXTS
-- KIT
namespace Go.Cab
open Classical
def fb412 : AC := (.seq (.reg [⟨(.some 4), .none, (.alloc 65 (.st [32, 32, 1] [(.arr 1 (List.replicate 32 (.lit (bn 0)))), (.arr 1 (List.replicate 32 (.lit (bn 0)))), (.lit (.slice .none 0 0))])), [], .none⟩]) (.seq (.reg [⟨(.some 7), .none, (.mov (.tmp 0)), [], .none⟩, ⟨(.some 8), .none, (.xc (.inv "Draw") [(.tmp 7), (.const (tx [105, 100]))] [] []), [], .none⟩, ⟨(.some 9), .none, (.mov (.tmp 0)), [], .none⟩, ⟨(.some 10), .none, (.xc (.inv "Draw") [(.tmp 9), (.const (tx [112, 114, 101]))] [] []), [], .none⟩, ⟨(.some 11), .none, (.build (.st [32, 32, 1] [(.arr 1 (List.replicate 32 (.lit (bn 0)))), (.arr 1 (List.replicate 32 (.lit (bn 0)))), (.lit (.slice .none 0 0))]) [(0, (.tmp 8)), (1, (.tmp 10))]), [], .none⟩, ⟨(.some 5), .none, (.alloc 65 (.st [32, 32, 1] [(.arr 1 (List.replicate 32 (.lit (bn 0)))), (.arr 1 (List.replicate 32 (.lit (bn 0)))), (.lit (.slice .none 0 0))])), [], .none⟩, ⟨.none, .none, (.store 65 (.tmp 5) (.tmp 11)), [], .none⟩]) (.seq (.seq (.reg [⟨(.some 6), .none, (.mov (.const (jn 0))), [], .none⟩]) (.block 0 (.loop (.seq (.seq (.reg [⟨(.some 12), .none, (.mov (.tmp 6)), [], .none⟩, ⟨(.some 13), .none, (.mov (.tmp 1)), [], .none⟩, ⟨(.some 14), .none, (.bin .lss (.tmp 12) (.tmp 13)), [], .none⟩]) (.cond (.tmp 14) .skip (.exit 0))) (.seq (.block 1 (.reg [⟨(.some 17), .none, (.faddr 64 2 (.tmp 5)), [], .none⟩, ⟨(.some 18), .none, (.load .false 1 (.tmp 17)), [], (.some 5)⟩, ⟨(.some 19), .none, (.mov (.tmp 0)), [], .none⟩, ⟨(.some 20), .none, (.mov (.tmp 6)), [], .none⟩, ⟨(.some 21), .none, (.cvt .u64 (.tmp 20)), [], .none⟩, ⟨(.some 22), .none, (.callv 9 [(.tmp 21)]), [], (.some 1000000)⟩, ⟨(.some 23), .none, (.bin .add (.const (tx [111, 110, 101, 32])) (.tmp 22)), [], .none⟩, ⟨(.some 24), .none, (.rdp (.mkfn (.method "Draw") 1) [(.tmp 19)]), [], .none⟩, ⟨(.some 25), .none, (.rdp .nilv [(.tmp 24)]), [], .none⟩, ⟨(.some 26), .none, (.mov (.tmp 19)), [], .none⟩, ⟨(.some 27), .none, (.xc (.inv "Draw") [(.tmp 26), (.tmp 23)] [5] []), [], .none⟩, ⟨(.some 28), .none, (.bslice 32 (.arr 1 (List.replicate 32 (.lit (bn 0)))) 1 [(0, (.tmp 27))]), [], .none⟩, ⟨(.some 29), .none, (.append 28 32 32 (.tmp 18) (.tmp 28)), [], .none⟩, ⟨(.some 30), .none, (.faddr 64 2 (.tmp 5)), [], .none⟩, ⟨.none, .none, (.store 1 (.tmp 30) (.tmp 29)), [], .none⟩])) (.reg [⟨(.some 15), .none, (.mov (.tmp 6)), [], .none⟩, ⟨(.some 16), .none, (.bin .add (.tmp 15) (.const (jn 1))), [], .none⟩, ⟨(.some 6), .none, (.mov (.tmp 16)), [], .none⟩])))))) (.seq (.reg [⟨(.some 31), .none, (.load .true 65 (.tmp 5)), [], .none⟩, ⟨.none, .none, (.store 65 (.tmp 4) (.tmp 31)), [], .none⟩]) .ret))))
def fc412 : FC := ⟨2, 32, [(.cell 4 .true 65)], fb412⟩
theorem fc412_eq : compF Go.Proofs.Try.prog 7 = some fc412 := by kernel_rfl

section
variable {P : Program} {s : AS} {K : AS → Prop} {xs : List AOp}
theorem areg_rdp {d : Option Tmp} {g : RdOp} {ys : List Operand} {fo : List Tmp} {ow : Option Tmp} {us : List AV} {v : AV} (ha : (ys.map fun x => s.ev x) = us) (hv : rdA P (fun _ => none) g us = some v) (h : AReg P xs (s.put d v) K) :
    AReg P (⟨d, none, .rdp g ys, fo, ow⟩ :: xs) s K := by
  subst ha
  unfold AReg AOp.go
  simp only [AI.go, hv]
  exact ⟨by cases ow <;> trivial, h⟩
end

theorem R_setF {Imm : Nat → Nat → Prop} {w : World} {u u' : AV} (hu : ∀ c, R Imm w u c → R Imm w u' c) : ∀ {fs : List AV} {ns : List Nat} {i : Nat} {cs : List Value}, fs[i]? = some u → R Imm w (.st ns fs) cs → R Imm w (.st ns (fs.set i u')) cs
  | [], _, _, _, hf, _ => by simp at hf
  | f :: fs, ns, i, cs, hf, h => by
    cases h with
    | st1 n ns _ _ c d hc hl hs hd =>
      cases i with
      | zero =>
        simp only [List.getElem?_cons_zero, Option.some.injEq] at hf
        subst hf
        exact .st1 n ns u' fs c d (hu c hc) hl hs hd
      | succ i => exact .st1 n ns f _ c d hc hl hs (R_setF hu (by simpa using hf) hd)

/-- A list of the call's own, in a variable's field, is taken for a list. -/
theorem Le.sealedF {s : AS} {b j n i e esz sl : Nat} {l : Nat × Nat} {ns : List Nat} {fs els : List AV} {V : Value} (hb : s.blk b = some (.box l n (.st ns fs))) (hf : fs[i]? = some (.own j V)) (hj : s.blk j = some (.row e V esz els sl)) :
    Le s ⟨s.nr, s.tm, (s.hp.set b (some (.box l n (.st ns (fs.set i (.sl esz els)))))).set j none⟩ := by
  have hbj : b ≠ j := fun he => by subst he; rw [hb] at hj; cases hj
  have hlt : ∀ k x, s.blk k = some x → k < s.hp.length := fun k x hk => by
    by_cases h : k < s.hp.length
    · exact h
    · unfold AS.blk at hk; rw [List.getElem?_eq_none (by omega)] at hk; cases hk
  have hlb := hlt b _ hb
  have hlj := hlt j _ hj
  have h1 := Le.seals s [j]
  have e1 : s.seals [j] = s.setBlk j (some (.row e V esz els els.length)) := by
    simp only [AS.seals, AS.seal1, hj]
  rw [e1] at h1
  refine Le.trans h1 ?_
  have hb2 : (s.setBlk j (some (.row e V esz els els.length))).blk b = some (.box l n (.st ns fs)) := by
    simp only [AS.blk, AS.setBlk] at hb ⊢
    rw [List.getElem?_set_ne hbj.symm]; exact hb
  have hj2 : (s.setBlk j (some (.row e V esz els els.length))).blk j = some (.row e V esz els els.length) := by
    simp [AS.blk, AS.setBlk, hlj]
  generalize hs' : s.setBlk j (some (.row e V esz els els.length)) = s' at *
  have e2 : s' = ⟨s.nr, s.tm, s.hp.set j (some (.row e V esz els els.length))⟩ := hs'.symm
  intro w0 wk regs St a w h
  obtain ⟨Imm, h2, h3, h4, hseal⟩ := h.seals
  have hu : ∀ c, R Imm w (.own j V) c → R Imm w (.sl esz els) c := fun c hc => by
    have hrel : Rel Imm w (.own j V) V := by
      cases hc with
      | own _ _ hs => exact .inr ⟨[V], .own j V hs, rfl⟩
    have := coe_sound (ro := tt) h4 hseal hrel
    have hcoe : s'.coe tt (.own j V) = .sl esz els := by simp [AS.coe, tt, hj2]
    rw [hcoe] at this
    rcases this with h | ⟨cs, h, e⟩
    · cases h
    · cases hc
      cases h with
      | slnil => rw [e]; exact .slnil esz
      | sl _ _ cs b o cap ha hb hc => rw [e]; exact .sl esz els cs b o cap ha hb hc
  have hnew : ∀ (k : Nat) (x : Blk), (((s.hp.set b (some (.box l n (.st ns (fs.set i (.sl esz els)))))).set j none)[k]?).join = some x → ∃ y, (s'.hp[k]?).join = some y ∧ (y.ok Imm w → x.ok Imm w) ∧ ∀ b o, x.foot b o → y.foot b o := fun k x hx => by
    obtain ⟨hkj, hx⟩ := hp_set_none hx
    rcases hp_set hx with ⟨rfl, rfl⟩ | ⟨hkb, hx⟩
    · refine ⟨_, hb2, fun ⟨⟨cs, hc, hr⟩, hn⟩ => ⟨⟨cs, R_setF hu hf hc, hr⟩, hn⟩, fun b o hf => hf⟩
    · refine ⟨x, ?_, id, fun _ _ h => h⟩
      rw [e2]
      show ((s.hp.set j _)[k]?).join = some x
      rw [List.getElem?_set_ne (Ne.symm hkj)]
      exact hx
  have hnr : s'.nr = s.nr := by rw [e2]
  have htm : s'.tm = s.tm := by rw [e2]
  refine ⟨h.defers, by rw [h.tsize, htm], h.frame, Imm, h2, by rw [← htm]; exact h3, ⟨fun k x hx => ?_, fun k k' x y hne hx hy b' o hf hf' => ?_⟩⟩
  · obtain ⟨y, hy, g1, g2⟩ := hnew k x hx
    obtain ⟨g3, g4⟩ := h4.ok k y hy
    exact ⟨g1 g3, fun b o hf => g4 b o (g2 b o hf)⟩
  · obtain ⟨u, hu', _, g2⟩ := hnew k x hx
    obtain ⟨v, hv', _, g3⟩ := hnew k' y hy
    exact h4.apart k k' u v hne hu' hv' b' o (g2 b' o hf) (g3 b' o hf')

/-- New variables beside a call. -/
theorem setE_cat (N : Nat) (G : List (Option Blk)) (hG : G.length = N) : ∀ (E : List (Tmp × Blk)) (L : List (Option Blk)), setE N (G ++ L) E = G ++ setE 0 L E
  | [], _ => rfl
  | (t, x) :: E, L => by
    show setE N ((G ++ L).set (N + t) (some x)) E = G ++ setE 0 (L.set (0 + t) (some x)) E
    rw [cat2 N G L t _ hG, setE_cat N G hG E, Nat.zero_add]
theorem xf_of {P : Program} {f : FuncId} {vs : List AV} {G L : List (Option Blk)} {N : Nat} (hG : G.length = N) {KG : AV → List (Option Blk) → Prop} (h : ∀ L, XCall P f vs (G ++ L) fun r H' => ∃ G', KG r G' ∧ H' = G' ++ L) (hl : ∀ r G', KG r G' → G'.length = N) (E : List (Tmp × Blk)) :
    XCall P f vs (setE N (G ++ L) E) fun r H' => ∃ hp', (∃ G', KG r G' ∧ hp' = G' ++ L) ∧ H' = setE N hp' E := by
  rw [setE_cat N G hG]
  refine XCall.mono (h _) ?_
  rintro r H' ⟨G', hk, rfl⟩
  exact ⟨G' ++ L, ⟨G', hk, rfl⟩, (setE_cat N G' (hl r G' hk) E L).symm⟩

/-! ### The store -/
structure Store where
  id : List UInt8
  pre : List UInt8
  ones : List (List UInt8)
def storeA (s : Store) : AV := .st [32, 32, 1] [keyA s.id, keyA s.pre, .sl 32 (klA s.ones)]
structure StoreOk (s : Store) : Prop where
  id : s.id.length = 32
  pre : s.pre.length = 32
  ones : ∀ k ∈ s.ones, k.length = 32
  len : s.ones.length < 900
def drawT (s : List UInt8) : Term := ⟨1, s, []⟩
def txId : List UInt8 := [105, 100]
def txPre : List UInt8 := [112, 114, 101]
def txOne : List UInt8 := [111, 110, 101, 32]
theorem drawT_ok {s : List UInt8} (h : s.length < 1000) : TermOk (drawT s) := ⟨by simp [drawT], by simp [drawT]; omega, by simp [drawT], by simp [drawT]⟩
theorem TsOk.draw {ts : List Term} (h : TsOk ts) {s : List UInt8} (hs : s.length < 1000) (hl : ts.length + 1 < 90000) : TsOk (putT ts (drawT s)) :=
  TsOk.put h (drawT_ok hs) (fun h => by simp [drawT] at h) hl
theorem draw_at {H : List (Option Blk)} {t : Tb} {V0 : Value} {ts0 : List Term} (hh : TbOk H t V0 ts0) {ts : List Term} (hn : ts.length < 100000) (V : Value) (L : List (Option Blk)) {s : List UInt8} (hs : s.length < 1000) :
    XCall Go.Proofs.Try.prog 11 [.ptr t.b t.l 0 [], .lit (tx s)] (tbOf H t V ts ++ L) fun r H' => r = keyA (nameK (putN ts (drawT s))) ∧ ∃ V', H' = tbOf H t V' (putT ts (drawT s)) ++ L := by
  refine XCall.mono (draw_call (hh.at V ts L) hn s (by omega)) ?_
  rintro r H' ⟨h1, V', h2⟩
  exact ⟨h1, V', by rw [h2, hh.at_of]; rfl⟩
def onesG : Nat → List Term → List (List UInt8) → Nat → List (List UInt8) × List Term
  | 0, ts, acc, _ => (acc, ts)
  | m + 1, ts, acc, i => onesG m (putT ts (drawT (txOne ++ digs i))) (acc ++ [nameK (putN ts (drawT (txOne ++ digs i)))]) (i + 1)
def storeT (ts : List Term) (n : Nat) : Store × List Term :=
  let ts1 := putT ts (drawT txId)
  let ts2 := putT ts1 (drawT txPre)
  let o := onesG n ts2 [] 0
  (⟨nameK (putN ts (drawT txId)), nameK (putN ts1 (drawT txPre)), o.1⟩, o.2)
theorem nilv_draw (b : Nat) (l : Nat × Nat) : rdA Go.Proofs.Try.prog (fun _ => none) .nilv [.fnv (.method "Draw") [freeI b l] []] = some (.fnv (.method "Draw") [freeI b l] []) := by kernel_rfl
theorem mkfn_draw (b : Nat) (l : Nat × Nat) (nm : String) : rdA Go.Proofs.Try.prog (fun _ => none) (.mkfn (.method nm) 1) [freeI b l] = some (.fnv (.method nm) [freeI b l] []) := rfl
theorem cvt_64jx (n : Nat) (h : n < 1000000) : cvtA .u64 (.lit (jn n)) = some (.lit (un n)) := by
  simp only [cvtA, jn, wrap_u64]; rw [Nat.mod_eq_of_lt (by omega)]; rfl

def stS (N : Nat) (H : List (Option Blk)) (t : Tb) (n : Nat) (l4 l5 : Nat × Nat) (id pre : List UInt8) (x : Nat × List (List UInt8) × List Term × Value × Value) : AS :=
  ⟨N, [freeI t.b t.l, .lit (jn n), .any, .any, .ptr (N + 4) l4 0 [], .ptr (N + 5) l5 0 [], .lit (jn x.1)] ++ List.replicate 25 .any,
    tbOf H t x.2.2.2.2 x.2.2.1 ++ ([none, none, none, none, some (.box l4 65 (.st [32, 32, 1] [keyA zk, keyA zk, .lit (.slice none 0 0)])), some (.box l5 65 (.st [32, 32, 1] [keyA id, keyA pre, .own (N + 29) x.2.2.2.1]))] ++ List.replicate 23 none ++ [some (.row 28 x.2.2.2.1 32 (klA x.2.1) 0)] ++ List.replicate 2 none)⟩

set_option maxHeartbeats 16000000 in
theorem store_call {H : List (Option Blk)} {t : Tb} {V : Value} {ts : List Term} (hh : TbOk H t V ts) (hts : TsOk ts) {n : Nat} (hn : n < 100) (hlen : ts.length + 2000 < 90000) :
    XCall Go.Proofs.Try.prog 7 [freeI t.b t.l, .lit (jn n)] H fun r H' => r = storeA (storeT ts n).1 ∧ ∃ V', H' = tbOf H t V' (storeT ts n).2 := by
  have h412 := fc412_eq
  refine XCall.le ?_
  have hself := hh.self
  have G1 : ∀ V' ts', (tbOf H t V' ts').length = H.length := fun V' ts' => tbOf_len _ _ _ _
  have g1 : ∀ V' ts' L k, (tbOf H t V' ts' ++ L)[H.length + k]? = L[k]? := fun V' ts' L k => cat1 _ _ _ _ (G1 _ _)
  have g2 : ∀ V' ts' L k x, (tbOf H t V' ts' ++ L).set (H.length + k) x = tbOf H t V' ts' ++ L.set k x := fun V' ts' L k x => cat2 _ _ _ _ _ (G1 _ _)
  have hdr := fun ts' (h : ts'.length < 100000) V' L s hs => draw_at hh (ts := ts') h V' L (s := s) hs
  refine XCall.of h412 rfl ?_; show AC.wp _ fb412 ⟨H.length, [freeI t.b t.l, .lit (jn n)] ++ List.replicate (32 - 2) .any, H ++ List.replicate 32 none⟩ (fun x s => match x with | .exit _ => False | _ => ∃ s1, Le s s1 ∧ FinX [(.cell 4 .true 65)] s1 _); unfold fb412
  rw [← hself]
  rw [tbOf_len]
  generalize hN : H.length = N at *
  refine wp_sg (areg_al' (z' := .st [32, 32, 1] [keyA zk, keyA zk, .lit (.slice none 0 0)]) (by rw [zk_eq]) fun l4 => areg_end (by simp [runPre, AOp.ex, AOp.ex0, ex_mov, ex_bin, binA_lit, ex_cvt, ex_iaddrA, ex_iaddrS, ex_faddr, ex_load, ldA, ex_ext, ex_add64, add64A_un, ex_pick, ex_beq, ex_un, ex_len, lenA_sl, lenA_nil, lenA_str, lenA_own, lenRow_row, elA_own, elA_sl, elRow_row, ex_nilc, ex_build, ex_bslice, ex_fieldv, AOp.ro, AS.ev, AS.put, AS.fieldAddr, idxA_ptr, idxA_cptr, AS.peek, AS.poke, AS.blk, AS.setBlk, AV.nav, AV.upd, Blk.loc, Blk.cont, Blk.n, Blk.may, Blk.upd, AV.isAgg, AV.isTup, AV.sz, unVal, ownOk, fillAV, AV.sub, cvt_64j, cvt_64b, cvt_64w, cvt_8u, cvt_8w, bin_add64, bin_mul64, bin_sub64, bin_and51, bin_and32, bin_and1, bin_and8_1, bin_or64, bin_xor64, bin_or8, bin_shl64, bin_shl64j, bin_shr64, bin_shr64j, bin_shl8j, bin_shr8j, bin_quo64, bin_rem64, bin_quo32, bin_rem32, bin_addj, bin_subj, bin_quoj, bin_remj, bin_eqlj, bin_neqj, bin_lssj, bin_leqj, bin_gtrj, bin_geqj, bin_eql64, bin_lss64, bin_gtr64, bin_eql8, bin_rem8, lenA_tx, ex_prim, primA_some, AS.lits, prim_ix, prim_sub, prim_sub2, prim_min, prim_ib, ex_b2s, textOf_eq, textA_sl, textA_nil, lend_own, lendRow_row, lend_sl, lend_lit, bin_adds, bin_eqls, bin_neqs, bin_geq8, bin_leq8, bin_lss8, bin_gtr8, bin_neq8, bin_sub8, bin_quo8, bin_add8, bin_mulj, cvt_j8, cvt_8j, AOp.mineB, AV.place, ex_rdp, ex_rd, rdB, bnds, efF, bin_shrju, bin_shlju, listB_tx, listB_sl, listB_nil, ex_tups, bound_jn, AV.isText, keyA_arr, bl_len, zk_len, nameK_len, g2]; exact rfl) ?_)
  refine wp_sg ?_
  refine areg_run 1 (by simp [runPre, AOp.ex, AOp.ex0, ex_mov, ex_bin, binA_lit, ex_cvt, ex_iaddrA, ex_iaddrS, ex_faddr, ex_load, ldA, ex_ext, ex_add64, add64A_un, ex_pick, ex_beq, ex_un, ex_len, lenA_sl, lenA_nil, lenA_str, lenA_own, lenRow_row, elA_own, elA_sl, elRow_row, ex_nilc, ex_build, ex_bslice, ex_fieldv, AOp.ro, AS.ev, AS.put, AS.fieldAddr, idxA_ptr, idxA_cptr, AS.peek, AS.poke, AS.blk, AS.setBlk, AV.nav, AV.upd, Blk.loc, Blk.cont, Blk.n, Blk.may, Blk.upd, AV.isAgg, AV.isTup, AV.sz, unVal, ownOk, fillAV, AV.sub, cvt_64j, cvt_64b, cvt_64w, cvt_8u, cvt_8w, bin_add64, bin_mul64, bin_sub64, bin_and51, bin_and32, bin_and1, bin_and8_1, bin_or64, bin_xor64, bin_or8, bin_shl64, bin_shl64j, bin_shr64, bin_shr64j, bin_shl8j, bin_shr8j, bin_quo64, bin_rem64, bin_quo32, bin_rem32, bin_addj, bin_subj, bin_quoj, bin_remj, bin_eqlj, bin_neqj, bin_lssj, bin_leqj, bin_gtrj, bin_geqj, bin_eql64, bin_lss64, bin_gtr64, bin_eql8, bin_rem8, lenA_tx, ex_prim, primA_some, AS.lits, prim_ix, prim_sub, prim_sub2, prim_min, prim_ib, ex_b2s, textOf_eq, textA_sl, textA_nil, lend_own, lendRow_row, lend_sl, lend_lit, bin_adds, bin_eqls, bin_neqs, bin_geq8, bin_leq8, bin_lss8, bin_gtr8, bin_neq8, bin_sub8, bin_quo8, bin_add8, bin_mulj, cvt_j8, cvt_8j, AOp.mineB, AV.place, ex_rdp, ex_rd, rdB, bnds, efF, bin_shrju, bin_shlju, listB_tx, listB_sl, listB_nil, ex_tups, bound_jn, AV.isText, keyA_arr, bl_len, zk_len, nameK_len]; exact rfl) ?_
  refine areg_xq (us := [freeI t.b t.l, .lit (tx txId)]) rfl (tgt_draw _ _ _) (hdr ts (by omega) V _ txId (by decide)) ⟨_, _, rfl, .slice none 0 0, rfl⟩ (fun r hp' _ t' ht' => by cases ht') ?_
  rintro r H' ⟨rfl, V1, rfl⟩
  have hlen1 := putT_len ts (drawT txId)
  have hts1 := hts.draw (s := txId) (by decide) (by omega)
  refine areg_run 1 (by simp [runPre, AOp.ex, AOp.ex0, ex_mov, ex_bin, binA_lit, ex_cvt, ex_iaddrA, ex_iaddrS, ex_faddr, ex_load, ldA, ex_ext, ex_add64, add64A_un, ex_pick, ex_beq, ex_un, ex_len, lenA_sl, lenA_nil, lenA_str, lenA_own, lenRow_row, elA_own, elA_sl, elRow_row, ex_nilc, ex_build, ex_bslice, ex_fieldv, AOp.ro, AS.ev, AS.put, AS.fieldAddr, idxA_ptr, idxA_cptr, AS.peek, AS.poke, AS.blk, AS.setBlk, AV.nav, AV.upd, Blk.loc, Blk.cont, Blk.n, Blk.may, Blk.upd, AV.isAgg, AV.isTup, AV.sz, unVal, ownOk, fillAV, AV.sub, cvt_64j, cvt_64b, cvt_64w, cvt_8u, cvt_8w, bin_add64, bin_mul64, bin_sub64, bin_and51, bin_and32, bin_and1, bin_and8_1, bin_or64, bin_xor64, bin_or8, bin_shl64, bin_shl64j, bin_shr64, bin_shr64j, bin_shl8j, bin_shr8j, bin_quo64, bin_rem64, bin_quo32, bin_rem32, bin_addj, bin_subj, bin_quoj, bin_remj, bin_eqlj, bin_neqj, bin_lssj, bin_leqj, bin_gtrj, bin_geqj, bin_eql64, bin_lss64, bin_gtr64, bin_eql8, bin_rem8, lenA_tx, ex_prim, primA_some, AS.lits, prim_ix, prim_sub, prim_sub2, prim_min, prim_ib, ex_b2s, textOf_eq, textA_sl, textA_nil, lend_own, lendRow_row, lend_sl, lend_lit, bin_adds, bin_eqls, bin_neqs, bin_geq8, bin_leq8, bin_lss8, bin_gtr8, bin_neq8, bin_sub8, bin_quo8, bin_add8, bin_mulj, cvt_j8, cvt_8j, AOp.mineB, AV.place, ex_rdp, ex_rd, rdB, bnds, efF, bin_shrju, bin_shlju, listB_tx, listB_sl, listB_nil, ex_tups, bound_jn, AV.isText, keyA_arr, bl_len, zk_len, nameK_len]; exact rfl) ?_
  refine areg_xq (us := [freeI t.b t.l, .lit (tx txPre)]) rfl (tgt_draw _ _ _) (hdr _ (by omega) V1 _ txPre (by decide)) ⟨_, _, rfl, .slice none 0 0, rfl⟩ (fun r hp' _ t' ht' => by cases ht') ?_
  rintro r H' ⟨rfl, V2, rfl⟩
  have hlen2 := putT_len (putT ts (drawT txId)) (drawT txPre)
  have hts2 := hts1.draw (s := txPre) (by decide) (by omega)
  have hst : storeT ts n = (⟨nameK (putN ts (drawT txId)), nameK (putN (putT ts (drawT txId)) (drawT txPre)), (onesG n (putT (putT ts (drawT txId)) (drawT txPre)) [] 0).1⟩, (onesG n (putT (putT ts (drawT txId)) (drawT txPre)) [] 0).2) := rfl
  rw [hst]
  have k1 := nameK_len (putN ts (drawT txId))
  have k2 := nameK_len (putN (putT ts (drawT txId)) (drawT txPre))
  generalize nameK (putN ts (drawT txId)) = id at *
  generalize nameK (putN (putT ts (drawT txId)) (drawT txPre)) = pre at *
  generalize putT (putT ts (drawT txId)) (drawT txPre) = ts2 at *
  refine areg_run 1 (by simp [runPre, AOp.ex, AOp.ex0, ex_mov, ex_bin, binA_lit, ex_cvt, ex_iaddrA, ex_iaddrS, ex_faddr, ex_load, ldA, ex_ext, ex_add64, add64A_un, ex_pick, ex_beq, ex_un, ex_len, lenA_sl, lenA_nil, lenA_str, lenA_own, lenRow_row, elA_own, elA_sl, elRow_row, ex_nilc, ex_build, ex_bslice, ex_fieldv, AOp.ro, AS.ev, AS.put, AS.fieldAddr, idxA_ptr, idxA_cptr, AS.peek, AS.poke, AS.blk, AS.setBlk, AV.nav, AV.upd, Blk.loc, Blk.cont, Blk.n, Blk.may, Blk.upd, AV.isAgg, AV.isTup, AV.sz, unVal, ownOk, fillAV, AV.sub, cvt_64j, cvt_64b, cvt_64w, cvt_8u, cvt_8w, bin_add64, bin_mul64, bin_sub64, bin_and51, bin_and32, bin_and1, bin_and8_1, bin_or64, bin_xor64, bin_or8, bin_shl64, bin_shl64j, bin_shr64, bin_shr64j, bin_shl8j, bin_shr8j, bin_quo64, bin_rem64, bin_quo32, bin_rem32, bin_addj, bin_subj, bin_quoj, bin_remj, bin_eqlj, bin_neqj, bin_lssj, bin_leqj, bin_gtrj, bin_geqj, bin_eql64, bin_lss64, bin_gtr64, bin_eql8, bin_rem8, lenA_tx, ex_prim, primA_some, AS.lits, prim_ix, prim_sub, prim_sub2, prim_min, prim_ib, ex_b2s, textOf_eq, textA_sl, textA_nil, lend_own, lendRow_row, lend_sl, lend_lit, bin_adds, bin_eqls, bin_neqs, bin_geq8, bin_leq8, bin_lss8, bin_gtr8, bin_neq8, bin_sub8, bin_quo8, bin_add8, bin_mulj, cvt_j8, cvt_8j, AOp.mineB, AV.place, ex_rdp, ex_rd, rdB, bnds, efF, bin_shrju, bin_shlju, listB_tx, listB_sl, listB_nil, ex_tups, bound_jn, AV.isText, keyA_arr, bl_len, zk_len, nameK_len, k1, k2]; exact rfl) ?_
  refine areg_al' (z' := .st [32, 32, 1] [keyA zk, keyA zk, .lit (.slice none 0 0)]) (by rw [zk_eq]) fun l5 => areg_end (by simp [runPre, AOp.ex, AOp.ex0, ex_mov, ex_bin, binA_lit, ex_cvt, ex_iaddrA, ex_iaddrS, ex_faddr, ex_load, ldA, ex_ext, ex_add64, add64A_un, ex_pick, ex_beq, ex_un, ex_len, lenA_sl, lenA_nil, lenA_str, lenA_own, lenRow_row, elA_own, elA_sl, elRow_row, ex_nilc, ex_build, ex_bslice, ex_fieldv, AOp.ro, AS.ev, AS.put, AS.fieldAddr, idxA_ptr, idxA_cptr, AS.peek, AS.poke, AS.blk, AS.setBlk, AV.nav, AV.upd, Blk.loc, Blk.cont, Blk.n, Blk.may, Blk.upd, AV.isAgg, AV.isTup, AV.sz, unVal, ownOk, fillAV, AV.sub, cvt_64j, cvt_64b, cvt_64w, cvt_8u, cvt_8w, bin_add64, bin_mul64, bin_sub64, bin_and51, bin_and32, bin_and1, bin_and8_1, bin_or64, bin_xor64, bin_or8, bin_shl64, bin_shl64j, bin_shr64, bin_shr64j, bin_shl8j, bin_shr8j, bin_quo64, bin_rem64, bin_quo32, bin_rem32, bin_addj, bin_subj, bin_quoj, bin_remj, bin_eqlj, bin_neqj, bin_lssj, bin_leqj, bin_gtrj, bin_geqj, bin_eql64, bin_lss64, bin_gtr64, bin_eql8, bin_rem8, lenA_tx, ex_prim, primA_some, AS.lits, prim_ix, prim_sub, prim_sub2, prim_min, prim_ib, ex_b2s, textOf_eq, textA_sl, textA_nil, lend_own, lendRow_row, lend_sl, lend_lit, bin_adds, bin_eqls, bin_neqs, bin_geq8, bin_leq8, bin_lss8, bin_gtr8, bin_neq8, bin_sub8, bin_quo8, bin_add8, bin_mulj, cvt_j8, cvt_8j, AOp.mineB, AV.place, ex_rdp, ex_rd, rdB, bnds, efF, bin_shrju, bin_shlju, listB_tx, listB_sl, listB_nil, ex_tups, bound_jn, AV.isText, keyA_arr, bl_len, zk_len, nameK_len, g1, g2, k1, k2]; exact rfl) ?_
  refine wp_seqL (wp_seq' (wp_r (by simp [runPre, AOp.ex, AOp.ex0, ex_mov, ex_bin, binA_lit, ex_cvt, ex_iaddrA, ex_iaddrS, ex_faddr, ex_load, ldA, ex_ext, ex_add64, add64A_un, ex_pick, ex_beq, ex_un, ex_len, lenA_sl, lenA_nil, lenA_str, lenA_own, lenRow_row, elA_own, elA_sl, elRow_row, ex_nilc, ex_build, ex_bslice, ex_fieldv, AOp.ro, AS.ev, AS.put, AS.fieldAddr, idxA_ptr, idxA_cptr, AS.peek, AS.poke, AS.blk, AS.setBlk, AV.nav, AV.upd, Blk.loc, Blk.cont, Blk.n, Blk.may, Blk.upd, AV.isAgg, AV.isTup, AV.sz, unVal, ownOk, fillAV, AV.sub, cvt_64j, cvt_64b, cvt_64w, cvt_8u, cvt_8w, bin_add64, bin_mul64, bin_sub64, bin_and51, bin_and32, bin_and1, bin_and8_1, bin_or64, bin_xor64, bin_or8, bin_shl64, bin_shl64j, bin_shr64, bin_shr64j, bin_shl8j, bin_shr8j, bin_quo64, bin_rem64, bin_quo32, bin_rem32, bin_addj, bin_subj, bin_quoj, bin_remj, bin_eqlj, bin_neqj, bin_lssj, bin_leqj, bin_gtrj, bin_geqj, bin_eql64, bin_lss64, bin_gtr64, bin_eql8, bin_rem8, lenA_tx, ex_prim, primA_some, AS.lits, prim_ix, prim_sub, prim_sub2, prim_min, prim_ib, ex_b2s, textOf_eq, textA_sl, textA_nil, lend_own, lendRow_row, lend_sl, lend_lit, bin_adds, bin_eqls, bin_neqs, bin_geq8, bin_leq8, bin_lss8, bin_gtr8, bin_neq8, bin_sub8, bin_quo8, bin_add8, bin_mulj, cvt_j8, cvt_8j, AOp.mineB, AV.place, ex_rdp, ex_rd, rdB, bnds, efF, bin_shrju, bin_shlju, listB_tx, listB_sl, listB_nil, ex_tups, bound_jn, AV.isText, keyA_arr, bl_len, zk_len, nameK_len]; exact rfl) ?_))
  refine wp_block' (wp_loop_m (stS N H t n l4 l5 id pre) (fun x => n - x.1) (fun x => onesG (n - x.1) x.2.2.1 x.2.1 x.1 = onesG n ts2 [] 0 ∧ x.1 ≤ n ∧ TsOk x.2.2.1 ∧ x.2.2.1.length + (n - x.1) + 1000 < 90000 ∧ x.2.1.length = x.1) (0, [], ts2, .slice none 0 0, V2) ?_ ⟨rfl, by simp, hts2, by simp; omega, rfl⟩ ?_)
  · refine Le.trans (Le.nilField (b := N + 5) (j := N + 29) (l := l5) (n := 65) (v := .st [32, 32, 1] [keyA id, keyA pre, .lit (.slice none 0 0)]) (v' := .st [32, 32, 1] [keyA id, keyA pre, .own (N + 29) (.slice none 0 0)]) (by simp only [AS.blk, g1]; rfl) (AVle.st1 (AVle.refl _) (AVle.st1 (AVle.refl _) (AVle.st1 (AVle.nil _) AVle.st0))) (by simp only [AS.blk, g1]; rfl) (by simp [G1]) (by simp [G1]) 28 32) (Le.mk rfl (by simp [stS, leT]) ?_)
    simp only [g2, stS]
    exact leH_app (leH_refl _) (by simp [leH, klA, keyA])
  · rintro ⟨i, acc, ts3, Vr, Vt⟩ ⟨hI, hi, hok, hl3, hacc⟩
    simp only at hI hi hok hl3 hacc ⊢
    unfold stS
    simp only
    by_cases hlt : i < n
    · have c := digsx_call i (by omega)
      have hdl := digs_len i
      have hsub : n - i = (n - (i + 1)) + 1 := by omega
      rw [hsub, onesG] at hI
      have hd1000 : (txOne ++ digs i).length < 1000 := by simp only [List.length_append, txOne, List.length_cons, List.length_nil]; omega
      have hb : binVal .add (tx [111, 110, 101, 32]) (tx (digs i)) = some (tx (txOne ++ digs i)) := bin_adds _ _ (by simp only [List.length_cons, List.length_nil]; omega)
      have hdr3 := hdr ts3 (by omega) Vt
      have hlen4 := putT_len ts3 (drawT (txOne ++ digs i))
      have hts4 := hok.draw hd1000 (by omega)
      have hcv := cvt_64jx i (by omega)
      have q1 : i + 1 < 9223372036854775808 := by omega
      generalize txOne ++ digs i = nm at *
      refine wp_seq' (wp_sr (by simp [runPre, AOp.ex, AOp.ex0, ex_mov, ex_bin, binA_lit, ex_cvt, ex_iaddrA, ex_iaddrS, ex_faddr, ex_load, ldA, ex_ext, ex_add64, add64A_un, ex_pick, ex_beq, ex_un, ex_len, lenA_sl, lenA_nil, lenA_str, lenA_own, lenRow_row, elA_own, elA_sl, elRow_row, ex_nilc, ex_build, ex_bslice, ex_fieldv, AOp.ro, AS.ev, AS.put, AS.fieldAddr, idxA_ptr, idxA_cptr, AS.peek, AS.poke, AS.blk, AS.setBlk, AV.nav, AV.upd, Blk.loc, Blk.cont, Blk.n, Blk.may, Blk.upd, AV.isAgg, AV.isTup, AV.sz, unVal, ownOk, fillAV, AV.sub, cvt_64j, cvt_64b, cvt_64w, cvt_8u, cvt_8w, bin_add64, bin_mul64, bin_sub64, bin_and51, bin_and32, bin_and1, bin_and8_1, bin_or64, bin_xor64, bin_or8, bin_shl64, bin_shl64j, bin_shr64, bin_shr64j, bin_shl8j, bin_shr8j, bin_quo64, bin_rem64, bin_quo32, bin_rem32, bin_addj, bin_subj, bin_quoj, bin_remj, bin_eqlj, bin_neqj, bin_lssj, bin_leqj, bin_gtrj, bin_geqj, bin_eql64, bin_lss64, bin_gtr64, bin_eql8, bin_rem8, lenA_tx, ex_prim, primA_some, AS.lits, prim_ix, prim_sub, prim_sub2, prim_min, prim_ib, ex_b2s, textOf_eq, textA_sl, textA_nil, lend_own, lendRow_row, lend_sl, lend_lit, bin_adds, bin_eqls, bin_neqs, bin_geq8, bin_leq8, bin_lss8, bin_gtr8, bin_neq8, bin_sub8, bin_quo8, bin_add8, bin_mulj, cvt_j8, cvt_8j, AOp.mineB, AV.place, ex_rdp, ex_rd, rdB, bnds, efF, bin_shrju, bin_shlju, listB_tx, listB_sl, listB_nil, ex_tups, bound_jn, AV.isText, keyA_arr, bl_len, zk_len, nameK_len, hlt]; exact rfl) ?_)
      refine wp_cond_t rfl (wp_skip' ?_)
      refine wp_seq' (wp_block' (wp_rg ?_))
      refine areg_run 5 (by simp [runPre, AOp.ex, AOp.ex0, ex_mov, ex_bin, binA_lit, ex_cvt, ex_iaddrA, ex_iaddrS, ex_faddr, ex_load, ldA, ex_ext, ex_add64, add64A_un, ex_pick, ex_beq, ex_un, ex_len, lenA_sl, lenA_nil, lenA_str, lenA_own, lenRow_row, elA_own, elA_sl, elRow_row, ex_nilc, ex_build, ex_bslice, ex_fieldv, AOp.ro, AS.ev, AS.put, AS.fieldAddr, idxA_ptr, idxA_cptr, AS.peek, AS.poke, AS.blk, AS.setBlk, AV.nav, AV.upd, Blk.loc, Blk.cont, Blk.n, Blk.may, Blk.upd, AV.isAgg, AV.isTup, AV.sz, unVal, ownOk, fillAV, AV.sub, cvt_64j, cvt_64b, cvt_64w, cvt_8u, cvt_8w, bin_add64, bin_mul64, bin_sub64, bin_and51, bin_and32, bin_and1, bin_and8_1, bin_or64, bin_xor64, bin_or8, bin_shl64, bin_shl64j, bin_shr64, bin_shr64j, bin_shl8j, bin_shr8j, bin_quo64, bin_rem64, bin_quo32, bin_rem32, bin_addj, bin_subj, bin_quoj, bin_remj, bin_eqlj, bin_neqj, bin_lssj, bin_leqj, bin_gtrj, bin_geqj, bin_eql64, bin_lss64, bin_gtr64, bin_eql8, bin_rem8, lenA_tx, ex_prim, primA_some, AS.lits, prim_ix, prim_sub, prim_sub2, prim_min, prim_ib, ex_b2s, textOf_eq, textA_sl, textA_nil, lend_own, lendRow_row, lend_sl, lend_lit, bin_adds, bin_eqls, bin_neqs, bin_geq8, bin_leq8, bin_lss8, bin_gtr8, bin_neq8, bin_sub8, bin_quo8, bin_add8, bin_mulj, cvt_j8, cvt_8j, AOp.mineB, AV.place, ex_rdp, ex_rd, rdB, bnds, efF, bin_shrju, bin_shlju, listB_tx, listB_sl, listB_nil, ex_tups, bound_jn, AV.isText, keyA_arr, bl_len, zk_len, nameK_len, g1, hcv]; exact rfl) ?_
      refine areg_cv (by simp [AS.ev, AS.coe, AS.put] <;> exact rfl) c ?_ (by intro p hp b V; simp at hp; subst hp; simp [AS.ev, AS.put])
      refine areg_run 1 (by simp [runPre, AOp.ex, AOp.ex0, ex_mov, ex_bin, binA_lit, ex_cvt, ex_iaddrA, ex_iaddrS, ex_faddr, ex_load, ldA, ex_ext, ex_add64, add64A_un, ex_pick, ex_beq, ex_un, ex_len, lenA_sl, lenA_nil, lenA_str, lenA_own, lenRow_row, elA_own, elA_sl, elRow_row, ex_nilc, ex_build, ex_bslice, ex_fieldv, AOp.ro, AS.ev, AS.put, AS.fieldAddr, idxA_ptr, idxA_cptr, AS.peek, AS.poke, AS.blk, AS.setBlk, AV.nav, AV.upd, Blk.loc, Blk.cont, Blk.n, Blk.may, Blk.upd, AV.isAgg, AV.isTup, AV.sz, unVal, ownOk, fillAV, AV.sub, cvt_64j, cvt_64b, cvt_64w, cvt_8u, cvt_8w, bin_add64, bin_mul64, bin_sub64, bin_and51, bin_and32, bin_and1, bin_and8_1, bin_or64, bin_xor64, bin_or8, bin_shl64, bin_shl64j, bin_shr64, bin_shr64j, bin_shl8j, bin_shr8j, bin_quo64, bin_rem64, bin_quo32, bin_rem32, bin_addj, bin_subj, bin_quoj, bin_remj, bin_eqlj, bin_neqj, bin_lssj, bin_leqj, bin_gtrj, bin_geqj, bin_eql64, bin_lss64, bin_gtr64, bin_eql8, bin_rem8, lenA_tx, ex_prim, primA_some, AS.lits, prim_ix, prim_sub, prim_sub2, prim_min, prim_ib, ex_b2s, textOf_eq, textA_sl, textA_nil, lend_own, lendRow_row, lend_sl, lend_lit, bin_adds, bin_eqls, bin_neqs, bin_geq8, bin_leq8, bin_lss8, bin_gtr8, bin_neq8, bin_sub8, bin_quo8, bin_add8, bin_mulj, cvt_j8, cvt_8j, AOp.mineB, AV.place, ex_rdp, ex_rd, rdB, bnds, efF, bin_shrju, bin_shlju, listB_tx, listB_sl, listB_nil, ex_tups, bound_jn, AV.isText, keyA_arr, bl_len, zk_len, nameK_len, hb]; exact rfl) ?_
      refine areg_rdp (us := [freeI t.b t.l]) rfl (mkfn_draw _ _ _) ?_
      refine areg_rdp (us := [.fnv (.method "Draw") [freeI t.b t.l] []]) rfl (nilv_draw _ _) ?_
      refine areg_run 1 (by simp [runPre, AOp.ex, AOp.ex0, ex_mov, ex_bin, binA_lit, ex_cvt, ex_iaddrA, ex_iaddrS, ex_faddr, ex_load, ldA, ex_ext, ex_add64, add64A_un, ex_pick, ex_beq, ex_un, ex_len, lenA_sl, lenA_nil, lenA_str, lenA_own, lenRow_row, elA_own, elA_sl, elRow_row, ex_nilc, ex_build, ex_bslice, ex_fieldv, AOp.ro, AS.ev, AS.put, AS.fieldAddr, idxA_ptr, idxA_cptr, AS.peek, AS.poke, AS.blk, AS.setBlk, AV.nav, AV.upd, Blk.loc, Blk.cont, Blk.n, Blk.may, Blk.upd, AV.isAgg, AV.isTup, AV.sz, unVal, ownOk, fillAV, AV.sub, cvt_64j, cvt_64b, cvt_64w, cvt_8u, cvt_8w, bin_add64, bin_mul64, bin_sub64, bin_and51, bin_and32, bin_and1, bin_and8_1, bin_or64, bin_xor64, bin_or8, bin_shl64, bin_shl64j, bin_shr64, bin_shr64j, bin_shl8j, bin_shr8j, bin_quo64, bin_rem64, bin_quo32, bin_rem32, bin_addj, bin_subj, bin_quoj, bin_remj, bin_eqlj, bin_neqj, bin_lssj, bin_leqj, bin_gtrj, bin_geqj, bin_eql64, bin_lss64, bin_gtr64, bin_eql8, bin_rem8, lenA_tx, ex_prim, primA_some, AS.lits, prim_ix, prim_sub, prim_sub2, prim_min, prim_ib, ex_b2s, textOf_eq, textA_sl, textA_nil, lend_own, lendRow_row, lend_sl, lend_lit, bin_adds, bin_eqls, bin_neqs, bin_geq8, bin_leq8, bin_lss8, bin_gtr8, bin_neq8, bin_sub8, bin_quo8, bin_add8, bin_mulj, cvt_j8, cvt_8j, AOp.mineB, AV.place, ex_rdp, ex_rd, rdB, bnds, efF, bin_shrju, bin_shlju, listB_tx, listB_sl, listB_nil, ex_tups, bound_jn, AV.isText, keyA_arr, bl_len, zk_len, nameK_len]; exact rfl) ?_
      refine areg_xq (us := [freeI t.b t.l, .lit (tx nm)]) rfl (tgt_draw _ _ _) (hdr3 _ nm hd1000) ⟨_, _, rfl, .slice none 0 0, rfl⟩ (fun r hp' hK t' ht' b hb' => ?_) ?_
      · obtain ⟨_, V', rfl⟩ := hK
        simp at ht'
        subst ht'
        simp [AS.ev, AV.place] at hb'
        subst hb'
        simp only [g1]
      rintro r H' ⟨rfl, Vt', rfl⟩
      have hk32 := nameK_len (putN ts3 (drawT nm))
      generalize nameK (putN ts3 (drawT nm)) = kk at *
      generalize putT ts3 (drawT nm) = ts4 at *
      refine areg_run 1 (by simp [runPre, AOp.ex, AOp.ex0, ex_mov, ex_bin, binA_lit, ex_cvt, ex_iaddrA, ex_iaddrS, ex_faddr, ex_load, ldA, ex_ext, ex_add64, add64A_un, ex_pick, ex_beq, ex_un, ex_len, lenA_sl, lenA_nil, lenA_str, lenA_own, lenRow_row, elA_own, elA_sl, elRow_row, ex_nilc, ex_build, ex_bslice, ex_fieldv, AOp.ro, AS.ev, AS.put, AS.fieldAddr, idxA_ptr, idxA_cptr, AS.peek, AS.poke, AS.blk, AS.setBlk, AV.nav, AV.upd, Blk.loc, Blk.cont, Blk.n, Blk.may, Blk.upd, AV.isAgg, AV.isTup, AV.sz, unVal, ownOk, fillAV, AV.sub, cvt_64j, cvt_64b, cvt_64w, cvt_8u, cvt_8w, bin_add64, bin_mul64, bin_sub64, bin_and51, bin_and32, bin_and1, bin_and8_1, bin_or64, bin_xor64, bin_or8, bin_shl64, bin_shl64j, bin_shr64, bin_shr64j, bin_shl8j, bin_shr8j, bin_quo64, bin_rem64, bin_quo32, bin_rem32, bin_addj, bin_subj, bin_quoj, bin_remj, bin_eqlj, bin_neqj, bin_lssj, bin_leqj, bin_gtrj, bin_geqj, bin_eql64, bin_lss64, bin_gtr64, bin_eql8, bin_rem8, lenA_tx, ex_prim, primA_some, AS.lits, prim_ix, prim_sub, prim_sub2, prim_min, prim_ib, ex_b2s, textOf_eq, textA_sl, textA_nil, lend_own, lendRow_row, lend_sl, lend_lit, bin_adds, bin_eqls, bin_neqs, bin_geq8, bin_leq8, bin_lss8, bin_gtr8, bin_neq8, bin_sub8, bin_quo8, bin_add8, bin_mulj, cvt_j8, cvt_8j, AOp.mineB, AV.place, ex_rdp, ex_rd, rdB, bnds, efF, bin_shrju, bin_shlju, listB_tx, listB_sl, listB_nil, ex_tups, bound_jn, AV.isText, keyA_arr, bl_len, zk_len, nameK_len, hk32]; exact rfl) ?_
      refine areg_ap (b := N + 29) (V := Vr) (ys := [keyA kk]) rfl (by simp only [AS.blk, g1]; rfl) (by simp [AS.ev, AS.coe, keyA]) (by rw [klA_len, hacc]; simp [maxLen]; omega) (by rw [klA_len, hacc]; simp; omega) (fun V4 => ?_)
      refine areg_end (by simp [runPre, AOp.ex, AOp.ex0, ex_mov, ex_bin, binA_lit, ex_cvt, ex_iaddrA, ex_iaddrS, ex_faddr, ex_load, ldA, ex_ext, ex_add64, add64A_un, ex_pick, ex_beq, ex_un, ex_len, lenA_sl, lenA_nil, lenA_str, lenA_own, lenRow_row, elA_own, elA_sl, elRow_row, ex_nilc, ex_build, ex_bslice, ex_fieldv, AOp.ro, AS.ev, AS.put, AS.fieldAddr, idxA_ptr, idxA_cptr, AS.peek, AS.poke, AS.blk, AS.setBlk, AV.nav, AV.upd, Blk.loc, Blk.cont, Blk.n, Blk.may, Blk.upd, AV.isAgg, AV.isTup, AV.sz, unVal, ownOk, fillAV, AV.sub, cvt_64j, cvt_64b, cvt_64w, cvt_8u, cvt_8w, bin_add64, bin_mul64, bin_sub64, bin_and51, bin_and32, bin_and1, bin_and8_1, bin_or64, bin_xor64, bin_or8, bin_shl64, bin_shl64j, bin_shr64, bin_shr64j, bin_shl8j, bin_shr8j, bin_quo64, bin_rem64, bin_quo32, bin_rem32, bin_addj, bin_subj, bin_quoj, bin_remj, bin_eqlj, bin_neqj, bin_lssj, bin_leqj, bin_gtrj, bin_geqj, bin_eql64, bin_lss64, bin_gtr64, bin_eql8, bin_rem8, lenA_tx, ex_prim, primA_some, AS.lits, prim_ix, prim_sub, prim_sub2, prim_min, prim_ib, ex_b2s, textOf_eq, textA_sl, textA_nil, lend_own, lendRow_row, lend_sl, lend_lit, bin_adds, bin_eqls, bin_neqs, bin_geq8, bin_leq8, bin_lss8, bin_gtr8, bin_neq8, bin_sub8, bin_quo8, bin_add8, bin_mulj, cvt_j8, cvt_8j, AOp.mineB, AV.place, ex_rdp, ex_rd, rdB, bnds, efF, bin_shrju, bin_shlju, listB_tx, listB_sl, listB_nil, ex_tups, bound_jn, AV.isText, keyA_arr, bl_len, zk_len, nameK_len, g1, g2]; exact rfl) ?_
      refine wp_r (by simp [runPre, AOp.ex, AOp.ex0, ex_mov, ex_bin, binA_lit, ex_cvt, ex_iaddrA, ex_iaddrS, ex_faddr, ex_load, ldA, ex_ext, ex_add64, add64A_un, ex_pick, ex_beq, ex_un, ex_len, lenA_sl, lenA_nil, lenA_str, lenA_own, lenRow_row, elA_own, elA_sl, elRow_row, ex_nilc, ex_build, ex_bslice, ex_fieldv, AOp.ro, AS.ev, AS.put, AS.fieldAddr, idxA_ptr, idxA_cptr, AS.peek, AS.poke, AS.blk, AS.setBlk, AV.nav, AV.upd, Blk.loc, Blk.cont, Blk.n, Blk.may, Blk.upd, AV.isAgg, AV.isTup, AV.sz, unVal, ownOk, fillAV, AV.sub, cvt_64j, cvt_64b, cvt_64w, cvt_8u, cvt_8w, bin_add64, bin_mul64, bin_sub64, bin_and51, bin_and32, bin_and1, bin_and8_1, bin_or64, bin_xor64, bin_or8, bin_shl64, bin_shl64j, bin_shr64, bin_shr64j, bin_shl8j, bin_shr8j, bin_quo64, bin_rem64, bin_quo32, bin_rem32, bin_addj, bin_subj, bin_quoj, bin_remj, bin_eqlj, bin_neqj, bin_lssj, bin_leqj, bin_gtrj, bin_geqj, bin_eql64, bin_lss64, bin_gtr64, bin_eql8, bin_rem8, lenA_tx, ex_prim, primA_some, AS.lits, prim_ix, prim_sub, prim_sub2, prim_min, prim_ib, ex_b2s, textOf_eq, textA_sl, textA_nil, lend_own, lendRow_row, lend_sl, lend_lit, bin_adds, bin_eqls, bin_neqs, bin_geq8, bin_leq8, bin_lss8, bin_gtr8, bin_neq8, bin_sub8, bin_quo8, bin_add8, bin_mulj, cvt_j8, cvt_8j, AOp.mineB, AV.place, ex_rdp, ex_rd, rdB, bnds, efF, bin_shrju, bin_shlju, listB_tx, listB_sl, listB_nil, ex_tups, bound_jn, AV.isText, keyA_arr, bl_len, zk_len, nameK_len, q1]; exact rfl) ?_
      refine Exists.intro (i + 1, acc ++ [kk], ts4, V4, Vt') ⟨⟨hI, by omega, hts4, by simp only; omega, by simp [hacc]⟩, by simp only; omega, Le.mk rfl (by simp [leT]) ?_⟩
      refine leH_app (leH_refl _) ?_
      simp [leH, klA, keyA]
    · have hin : i = n := by omega
      subst hin
      rw [Nat.sub_self, onesG] at hI
      rw [← hI]
      refine wp_seq' (wp_sr (by simp [runPre, AOp.ex, AOp.ex0, ex_mov, ex_bin, binA_lit, ex_cvt, ex_iaddrA, ex_iaddrS, ex_faddr, ex_load, ldA, ex_ext, ex_add64, add64A_un, ex_pick, ex_beq, ex_un, ex_len, lenA_sl, lenA_nil, lenA_str, lenA_own, lenRow_row, elA_own, elA_sl, elRow_row, ex_nilc, ex_build, ex_bslice, ex_fieldv, AOp.ro, AS.ev, AS.put, AS.fieldAddr, idxA_ptr, idxA_cptr, AS.peek, AS.poke, AS.blk, AS.setBlk, AV.nav, AV.upd, Blk.loc, Blk.cont, Blk.n, Blk.may, Blk.upd, AV.isAgg, AV.isTup, AV.sz, unVal, ownOk, fillAV, AV.sub, cvt_64j, cvt_64b, cvt_64w, cvt_8u, cvt_8w, bin_add64, bin_mul64, bin_sub64, bin_and51, bin_and32, bin_and1, bin_and8_1, bin_or64, bin_xor64, bin_or8, bin_shl64, bin_shl64j, bin_shr64, bin_shr64j, bin_shl8j, bin_shr8j, bin_quo64, bin_rem64, bin_quo32, bin_rem32, bin_addj, bin_subj, bin_quoj, bin_remj, bin_eqlj, bin_neqj, bin_lssj, bin_leqj, bin_gtrj, bin_geqj, bin_eql64, bin_lss64, bin_gtr64, bin_eql8, bin_rem8, lenA_tx, ex_prim, primA_some, AS.lits, prim_ix, prim_sub, prim_sub2, prim_min, prim_ib, ex_b2s, textOf_eq, textA_sl, textA_nil, lend_own, lendRow_row, lend_sl, lend_lit, bin_adds, bin_eqls, bin_neqs, bin_geq8, bin_leq8, bin_lss8, bin_gtr8, bin_neq8, bin_sub8, bin_quo8, bin_add8, bin_mulj, cvt_j8, cvt_8j, AOp.mineB, AV.place, ex_rdp, ex_rd, rdB, bnds, efF, bin_shrju, bin_shlju, listB_tx, listB_sl, listB_nil, ex_tups, bound_jn, AV.isText, keyA_arr, bl_len, zk_len, nameK_len]; exact rfl) ?_)
      refine wp_cond_f (by simp [AS.ev]) (wp_exit' (if_hit rfl ?_))
      refine ⟨_, Le.sealedF (b := N + 5) (j := N + 29) (n := 65) (i := 2) (e := 28) (esz := 32) (sl := 0) (l := l5) (ns := [32, 32, 1]) (fs := [keyA id, keyA pre, .own (N + 29) Vr]) (els := klA acc) (V := Vr) (by simp only [AS.blk, g1]; rfl) rfl (by simp only [AS.blk, g1]; rfl), ?_⟩
      refine wp_sr (by simp [runPre, AOp.ex, AOp.ex0, ex_mov, ex_bin, binA_lit, ex_cvt, ex_iaddrA, ex_iaddrS, ex_faddr, ex_load, ldA, ex_ext, ex_add64, add64A_un, ex_pick, ex_beq, ex_un, ex_len, lenA_sl, lenA_nil, lenA_str, lenA_own, lenRow_row, elA_own, elA_sl, elRow_row, ex_nilc, ex_build, ex_bslice, ex_fieldv, AOp.ro, AS.ev, AS.put, AS.fieldAddr, idxA_ptr, idxA_cptr, AS.peek, AS.poke, AS.blk, AS.setBlk, AV.nav, AV.upd, Blk.loc, Blk.cont, Blk.n, Blk.may, Blk.upd, AV.isAgg, AV.isTup, AV.sz, unVal, ownOk, fillAV, AV.sub, cvt_64j, cvt_64b, cvt_64w, cvt_8u, cvt_8w, bin_add64, bin_mul64, bin_sub64, bin_and51, bin_and32, bin_and1, bin_and8_1, bin_or64, bin_xor64, bin_or8, bin_shl64, bin_shl64j, bin_shr64, bin_shr64j, bin_shl8j, bin_shr8j, bin_quo64, bin_rem64, bin_quo32, bin_rem32, bin_addj, bin_subj, bin_quoj, bin_remj, bin_eqlj, bin_neqj, bin_lssj, bin_leqj, bin_gtrj, bin_geqj, bin_eql64, bin_lss64, bin_gtr64, bin_eql8, bin_rem8, lenA_tx, ex_prim, primA_some, AS.lits, prim_ix, prim_sub, prim_sub2, prim_min, prim_ib, ex_b2s, textOf_eq, textA_sl, textA_nil, lend_own, lendRow_row, lend_sl, lend_lit, bin_adds, bin_eqls, bin_neqs, bin_geq8, bin_leq8, bin_lss8, bin_gtr8, bin_neq8, bin_sub8, bin_quo8, bin_add8, bin_mulj, cvt_j8, cvt_8j, AOp.mineB, AV.place, ex_rdp, ex_rd, rdB, bnds, efF, bin_shrju, bin_shlju, listB_tx, listB_sl, listB_nil, ex_tups, bound_jn, AV.isText, keyA_arr, bl_len, zk_len, nameK_len, g1, g2, k1, k2]; exact rfl) (wp_ret' ?_)
      refine ⟨_, Le.refl _, [], storeA ⟨id, pre, acc⟩, ⟨by simp [AS.seals, RVal, AS.ev, AS.peek, AS.blk, g1, Blk.loc, Blk.cont, Blk.n, AV.nav, AV.isAgg, AV.isTup, AS.coe]; rfl, by simp [storeA]⟩, _, _, RelLe.refl _, by simp [storeA], HpLe.trim _ _, rfl, Vt, (hh.of_of _ _ _ _).symm⟩
end Go.Cab

/- Bundle: Show. -/
-- TEXTS
-- KIT
namespace Go.Cab
open Classical
def fb413 : AC := (.seq (.reg [⟨(.some 3), .none, (.box 65 (.tmp 1)), [], .none⟩, ⟨(.some 4), .none, (.alloc 65 (.st [32, 32, 1] [(.arr 1 (List.replicate 32 (.lit (bn 0)))), (.arr 1 (List.replicate 32 (.lit (bn 0)))), (.lit (.slice .none 0 0))])), [], .none⟩]) (.seq (.reg [⟨(.some 9), .none, (.mov (.tmp 0)), [], .none⟩, ⟨(.some 10), .none, (.rdp .nilv [(.tmp 9)]), [], .none⟩, ⟨(.some 11), .none, (.rdp (.mkfn (.method "Pub") 1) [(.tmp 10)]), [], .none⟩, ⟨(.some 5), .none, (.mov (.tmp 11)), [], .none⟩]) (.seq (.reg [⟨(.some 12), .none, (.mov (.tmp 5)), [], .none⟩, ⟨(.some 13), .none, (.faddr 0 0 (.tmp 3)), [], .none⟩, ⟨(.some 14), .none, (.load .true 32 (.tmp 13)), [6], (.some 3)⟩, ⟨(.some 15), .none, (.xc .val [(.tmp 12), (.tmp 14)] [3] [6]), [], .none⟩, ⟨(.some 16), .none, (.mov (.tmp 5)), [], .none⟩, ⟨(.some 17), .none, (.faddr 32 1 (.tmp 3)), [], .none⟩, ⟨(.some 18), .none, (.load .true 32 (.tmp 17)), [6], (.some 3)⟩, ⟨(.some 19), .none, (.xc .val [(.tmp 16), (.tmp 18)] [] [6]), [], .none⟩, ⟨(.some 20), .none, (.build (.st [32, 32, 1] [(.arr 1 (List.replicate 32 (.lit (bn 0)))), (.arr 1 (List.replicate 32 (.lit (bn 0)))), (.lit (.slice .none 0 0))]) [(0, (.tmp 15)), (1, (.tmp 19))]), [], .none⟩, ⟨(.some 6), .none, (.alloc 65 (.st [32, 32, 1] [(.arr 1 (List.replicate 32 (.lit (bn 0)))), (.arr 1 (List.replicate 32 (.lit (bn 0)))), (.lit (.slice .none 0 0))])), [], .none⟩, ⟨.none, .none, (.store 65 (.tmp 6) (.tmp 20)), [], .none⟩]) (.seq (.seq (.reg [⟨(.some 21), .none, (.faddr 64 2 (.tmp 3)), [], .none⟩, ⟨(.some 22), .none, (.load .false 1 (.tmp 21)), [], .none⟩, ⟨(.some 23), .none, (.len .false (.tmp 22)), [], .none⟩, ⟨(.some 24), .none, (.mov (.const (jn 0))), [], .none⟩]) (.block 0 (.loop (.seq (.reg [⟨(.some 25), .none, (.bin .lss (.tmp 24) (.tmp 23)), [], .none⟩]) (.seq (.cond (.tmp 25) .skip (.exit 0)) (.seq (.block 1 (.seq (.reg [⟨(.some 26), .none, (.iaddrS 32 (.tmp 22) (.tmp 24)), [], .none⟩, ⟨(.some 27), .none, (.load .true 32 (.tmp 26)), [], .none⟩, ⟨(.some 8), .none, (.alloc 32 (.arr 1 (List.replicate 32 (.lit (bn 0))))), [], .none⟩, ⟨.none, .none, (.store 32 (.tmp 8) (.tmp 27)), [], .none⟩]) (.reg [⟨(.some 28), .none, (.faddr 64 2 (.tmp 6)), [], .none⟩, ⟨(.some 29), .none, (.load .false 1 (.tmp 28)), [], (.some 6)⟩, ⟨(.some 30), .none, (.mov (.tmp 5)), [], .none⟩, ⟨(.some 31), .none, (.load .true 32 (.tmp 8)), [], (.some 8)⟩, ⟨(.some 32), .none, (.xc .val [(.tmp 30), (.tmp 31)] [6] []), [], .none⟩, ⟨(.some 33), .none, (.bslice 32 (.arr 1 (List.replicate 32 (.lit (bn 0)))) 1 [(0, (.tmp 32))]), [], .none⟩, ⟨(.some 34), .none, (.append 28 32 32 (.tmp 29) (.tmp 33)), [], .none⟩, ⟨(.some 35), .none, (.faddr 64 2 (.tmp 6)), [], .none⟩, ⟨.none, .none, (.store 1 (.tmp 35) (.tmp 34)), [], .none⟩]))) (.reg [⟨(.some 36), .none, (.bin .add (.tmp 24) (.const (jn 1))), [], .none⟩, ⟨(.some 24), .none, (.mov (.tmp 36)), [], .none⟩]))))))) (.seq (.reg [⟨(.some 37), .none, (.load .true 65 (.tmp 6)), [], .none⟩, ⟨.none, .none, (.store 65 (.tmp 4) (.tmp 37)), [], .none⟩]) .ret)))))
def fc413 : FC := ⟨2, 38, [(.cell 4 .true 65)], fb413⟩
theorem fc413_eq : compF Go.Proofs.Try.prog 8 = some fc413 := by kernel_rfl

def mpub (b : Nat) (l : Nat × Nat) : AV := .fnv (.method "Pub") [freeI b l] []
theorem tgt_mpub (b : Nat) (l : Nat × Nat) (x : AV) : tgtA Go.Proofs.Try.prog .val [mpub b l, x] = some (52, [.ptr b l 0 [], x]) := by kernel_rfl
theorem nilv_free (b : Nat) (l : Nat × Nat) : rdA Go.Proofs.Try.prog (fun _ => none) .nilv [freeI b l] = some (freeI b l) := rfl
theorem mkfn_pub (b : Nat) (l : Nat × Nat) : rdA Go.Proofs.Try.prog (fun _ => none) (.mkfn (.method "Pub") 1) [freeI b l] = some (mpub b l) := rfl
def pubsG : List (List UInt8) → List Term → List (List UInt8) → List (List UInt8) × List Term
  | [], ts, acc => (acc, ts)
  | x :: xs, ts, acc => pubsG xs (putT ts (pubT x)) (acc ++ [nameK (putN ts (pubT x))])
/-- What a store shows. -/
def showT (ts : List Term) (s : Store) : Store × List Term :=
  let ts1 := putT ts (pubT s.id)
  let ts2 := putT ts1 (pubT s.pre)
  let o := pubsG s.ones ts2 []
  (⟨nameK (putN ts (pubT s.id)), nameK (putN ts1 (pubT s.pre)), o.1⟩, o.2)

def PubG (H : List (Option Blk)) (t : Tb) (ts : List Term) (k : List UInt8) (r : AV) (G : List (Option Blk)) : Prop := r = keyA (nameK (putN ts (pubT k))) ∧ ∃ V', G = tbOf H t V' (putT ts (pubT k))
theorem pub_xf {H : List (Option Blk)} {t : Tb} {V0 : Value} {ts0 : List Term} (hh : TbOk H t V0 ts0) {ts : List Term} (hn : ts.length < 100000) (V : Value) (L : List (Option Blk)) {k : List UInt8} (hk : k.length = 32) (E : List (Tmp × Blk)) :
    XCall Go.Proofs.Try.prog 52 [.ptr t.b t.l 0 [], keyA k] (setE H.length (tbOf H t V ts ++ L) E) fun r H' => ∃ hp', (∃ G', PubG H t ts k r G' ∧ hp' = G' ++ L) ∧ H' = setE H.length hp' E := by
  refine xf_of (tbOf_len _ _ _ _) (fun L => ?_) (fun r G' hG => by obtain ⟨_, V', rfl⟩ := hG; exact tbOf_len _ _ _ _) E
  refine XCall.mono (pub_at hh hn V L hk) ?_
  rintro r H' ⟨h1, V', rfl⟩
  exact ⟨_, ⟨h1, V', rfl⟩, rfl⟩
theorem PubG.ex (H : List (Option Blk)) (t : Tb) (ts : List Term) (k : List UInt8) (L : List (Option Blk)) : ∃ r hp', ∃ G', PubG H t ts k r G' ∧ hp' = G' ++ L := ⟨_, _, _, ⟨rfl, .slice none 0 0, rfl⟩, rfl⟩

def zst : AV := .st [32, 32, 1] [keyA zk, keyA zk, .lit (.slice none 0 0)]
def shwS (N : Nat) (H : List (Option Blk)) (t : Tb) (s : Store) (l3 l4 l6 : Nat × Nat) (id pre : List UInt8) (x : Nat × List (List UInt8) × List Term × Value × Value) : AS :=
  ⟨N, [freeI t.b t.l, storeA s, .any, .ptr (N + 3) l3 0 [], .ptr (N + 4) l4 0 [], mpub t.b t.l, .ptr (N + 6) l6 0 []] ++ List.replicate 15 .any ++ [.sl 32 (klA s.ones), .lit (jn s.ones.length), .lit (jn x.1)] ++ List.replicate 13 .any,
    tbOf H t x.2.2.2.2 x.2.2.1 ++ ([none, none, none, some (.box l3 65 (storeA s)), some (.box l4 65 zst), none, some (.box l6 65 (.st [32, 32, 1] [keyA id, keyA pre, .own (N + 34) x.2.2.2.1]))] ++ List.replicate 27 none ++ [some (.row 28 x.2.2.2.1 32 (klA x.2.1) 0)] ++ List.replicate 3 none)⟩

set_option maxHeartbeats 16000000 in
theorem show_call {H : List (Option Blk)} {t : Tb} {V : Value} {ts : List Term} (hh : TbOk H t V ts) (hts : TsOk ts) {s : Store} (hs : StoreOk s) (hlen : ts.length + 3000 < 90000) :
    XCall Go.Proofs.Try.prog 8 [freeI t.b t.l, storeA s] H fun r H' => r = storeA (showT ts s).1 ∧ ∃ V', H' = tbOf H t V' (showT ts s).2 := by
  have h413 := fc413_eq
  refine XCall.le ?_
  have hself := hh.self
  have G1 : ∀ V' ts', (tbOf H t V' ts').length = H.length := fun V' ts' => tbOf_len _ _ _ _
  have g1 : ∀ V' ts' L k, (tbOf H t V' ts' ++ L)[H.length + k]? = L[k]? := fun V' ts' L k => cat1 _ _ _ _ (G1 _ _)
  have g2 : ∀ V' ts' L k x, (tbOf H t V' ts' ++ L).set (H.length + k) x = tbOf H t V' ts' ++ L.set k x := fun V' ts' L k x => cat2 _ _ _ _ _ (G1 _ _)
  have hpx := fun ts' (h : ts'.length < 100000) V' L k hk E => pub_xf hh (ts := ts') h V' L (k := k) hk E
  have hpa := fun ts' (h : ts'.length < 100000) V' L k hk => pub_at hh (ts := ts') h V' L (k := k) hk
  obtain ⟨sid, spre, sones⟩ := s
  obtain ⟨o1, o2, o3, o4⟩ := hs
  simp only at o1 o2 o3 o4
  have hst : showT ts ⟨sid, spre, sones⟩ = (⟨nameK (putN ts (pubT sid)), nameK (putN (putT ts (pubT sid)) (pubT spre)), (pubsG sones (putT (putT ts (pubT sid)) (pubT spre)) []).1⟩, (pubsG sones (putT (putT ts (pubT sid)) (pubT spre)) []).2) := rfl
  rw [hst]
  unfold storeA
  simp only
  refine XCall.of h413 rfl ?_; show AC.wp _ fb413 ⟨H.length, [freeI t.b t.l, .st [32, 32, 1] [keyA sid, keyA spre, .sl 32 (klA sones)]] ++ List.replicate (38 - 2) .any, H ++ List.replicate 38 none⟩ (fun x s => match x with | .exit _ => False | _ => ∃ s1, Le s s1 ∧ FinX [(.cell 4 .true 65)] s1 _); unfold fb413
  rw [← hself]
  rw [tbOf_len]
  generalize hN : H.length = N at *
  refine wp_sg (areg_bx rfl (by simp [AS.ev, AV.sz]) fun l3 => areg_al' (z' := zst) (by rw [zst, zk_eq]) fun l4 => areg_end (by simp [runPre, AOp.ex, AOp.ex0, ex_mov, ex_bin, binA_lit, ex_cvt, ex_iaddrA, ex_iaddrS, ex_faddr, ex_load, ldA, ex_ext, ex_add64, add64A_un, ex_pick, ex_beq, ex_un, ex_len, lenA_sl, lenA_nil, lenA_str, lenA_own, lenRow_row, elA_own, elA_sl, elRow_row, ex_nilc, ex_build, ex_bslice, ex_fieldv, AOp.ro, AS.ev, AS.put, AS.fieldAddr, idxA_ptr, idxA_cptr, AS.peek, AS.poke, AS.blk, AS.setBlk, AV.nav, AV.upd, Blk.loc, Blk.cont, Blk.n, Blk.may, Blk.upd, AV.isAgg, AV.isTup, AV.sz, unVal, ownOk, fillAV, AV.sub, cvt_64j, cvt_64b, cvt_64w, cvt_8u, cvt_8w, bin_add64, bin_mul64, bin_sub64, bin_and51, bin_and32, bin_and1, bin_and8_1, bin_or64, bin_xor64, bin_or8, bin_shl64, bin_shl64j, bin_shr64, bin_shr64j, bin_shl8j, bin_shr8j, bin_quo64, bin_rem64, bin_quo32, bin_rem32, bin_addj, bin_subj, bin_quoj, bin_remj, bin_eqlj, bin_neqj, bin_lssj, bin_leqj, bin_gtrj, bin_geqj, bin_eql64, bin_lss64, bin_gtr64, bin_eql8, bin_rem8, lenA_tx, ex_prim, primA_some, AS.lits, prim_ix, prim_sub, prim_sub2, prim_min, prim_ib, ex_b2s, textOf_eq, textA_sl, textA_nil, lend_own, lendRow_row, lend_sl, lend_lit, bin_adds, bin_eqls, bin_neqs, bin_geq8, bin_leq8, bin_lss8, bin_gtr8, bin_neq8, bin_sub8, bin_quo8, bin_add8, bin_mulj, cvt_j8, cvt_8j, AOp.mineB, AV.place, ex_rdp, ex_rd, rdB, bnds, efF, bin_shrju, bin_shlju, listB_tx, listB_sl, listB_nil, ex_tups, bound_jn, AV.isText, keyA_arr, bl_len, zk_len, nameK_len, g2]; exact rfl) ?_)
  refine wp_sg ?_
  refine areg_run 1 (by simp [runPre, AOp.ex, AOp.ex0, ex_mov, ex_bin, binA_lit, ex_cvt, ex_iaddrA, ex_iaddrS, ex_faddr, ex_load, ldA, ex_ext, ex_add64, add64A_un, ex_pick, ex_beq, ex_un, ex_len, lenA_sl, lenA_nil, lenA_str, lenA_own, lenRow_row, elA_own, elA_sl, elRow_row, ex_nilc, ex_build, ex_bslice, ex_fieldv, AOp.ro, AS.ev, AS.put, AS.fieldAddr, idxA_ptr, idxA_cptr, AS.peek, AS.poke, AS.blk, AS.setBlk, AV.nav, AV.upd, Blk.loc, Blk.cont, Blk.n, Blk.may, Blk.upd, AV.isAgg, AV.isTup, AV.sz, unVal, ownOk, fillAV, AV.sub, cvt_64j, cvt_64b, cvt_64w, cvt_8u, cvt_8w, bin_add64, bin_mul64, bin_sub64, bin_and51, bin_and32, bin_and1, bin_and8_1, bin_or64, bin_xor64, bin_or8, bin_shl64, bin_shl64j, bin_shr64, bin_shr64j, bin_shl8j, bin_shr8j, bin_quo64, bin_rem64, bin_quo32, bin_rem32, bin_addj, bin_subj, bin_quoj, bin_remj, bin_eqlj, bin_neqj, bin_lssj, bin_leqj, bin_gtrj, bin_geqj, bin_eql64, bin_lss64, bin_gtr64, bin_eql8, bin_rem8, lenA_tx, ex_prim, primA_some, AS.lits, prim_ix, prim_sub, prim_sub2, prim_min, prim_ib, ex_b2s, textOf_eq, textA_sl, textA_nil, lend_own, lendRow_row, lend_sl, lend_lit, bin_adds, bin_eqls, bin_neqs, bin_geq8, bin_leq8, bin_lss8, bin_gtr8, bin_neq8, bin_sub8, bin_quo8, bin_add8, bin_mulj, cvt_j8, cvt_8j, AOp.mineB, AV.place, ex_rdp, ex_rd, rdB, bnds, efF, bin_shrju, bin_shlju, listB_tx, listB_sl, listB_nil, ex_tups, bound_jn, AV.isText, keyA_arr, bl_len, zk_len, nameK_len]; exact rfl) ?_
  refine areg_rdp (us := [freeI t.b t.l]) rfl (nilv_free _ _) ?_
  refine areg_rdp (us := [freeI t.b t.l]) rfl (mkfn_pub _ _) ?_
  refine areg_end (by simp [runPre, AOp.ex, AOp.ex0, ex_mov, ex_bin, binA_lit, ex_cvt, ex_iaddrA, ex_iaddrS, ex_faddr, ex_load, ldA, ex_ext, ex_add64, add64A_un, ex_pick, ex_beq, ex_un, ex_len, lenA_sl, lenA_nil, lenA_str, lenA_own, lenRow_row, elA_own, elA_sl, elRow_row, ex_nilc, ex_build, ex_bslice, ex_fieldv, AOp.ro, AS.ev, AS.put, AS.fieldAddr, idxA_ptr, idxA_cptr, AS.peek, AS.poke, AS.blk, AS.setBlk, AV.nav, AV.upd, Blk.loc, Blk.cont, Blk.n, Blk.may, Blk.upd, AV.isAgg, AV.isTup, AV.sz, unVal, ownOk, fillAV, AV.sub, cvt_64j, cvt_64b, cvt_64w, cvt_8u, cvt_8w, bin_add64, bin_mul64, bin_sub64, bin_and51, bin_and32, bin_and1, bin_and8_1, bin_or64, bin_xor64, bin_or8, bin_shl64, bin_shl64j, bin_shr64, bin_shr64j, bin_shl8j, bin_shr8j, bin_quo64, bin_rem64, bin_quo32, bin_rem32, bin_addj, bin_subj, bin_quoj, bin_remj, bin_eqlj, bin_neqj, bin_lssj, bin_leqj, bin_gtrj, bin_geqj, bin_eql64, bin_lss64, bin_gtr64, bin_eql8, bin_rem8, lenA_tx, ex_prim, primA_some, AS.lits, prim_ix, prim_sub, prim_sub2, prim_min, prim_ib, ex_b2s, textOf_eq, textA_sl, textA_nil, lend_own, lendRow_row, lend_sl, lend_lit, bin_adds, bin_eqls, bin_neqs, bin_geq8, bin_leq8, bin_lss8, bin_gtr8, bin_neq8, bin_sub8, bin_quo8, bin_add8, bin_mulj, cvt_j8, cvt_8j, AOp.mineB, AV.place, ex_rdp, ex_rd, rdB, bnds, efF, bin_shrju, bin_shlju, listB_tx, listB_sl, listB_nil, ex_tups, bound_jn, AV.isText, keyA_arr, bl_len, zk_len, nameK_len]; exact rfl) ?_
  refine wp_sg ?_
  refine areg_run 3 (by simp [runPre, AOp.ex, AOp.ex0, ex_mov, ex_bin, binA_lit, ex_cvt, ex_iaddrA, ex_iaddrS, ex_faddr, ex_load, ldA, ex_ext, ex_add64, add64A_un, ex_pick, ex_beq, ex_un, ex_len, lenA_sl, lenA_nil, lenA_str, lenA_own, lenRow_row, elA_own, elA_sl, elRow_row, ex_nilc, ex_build, ex_bslice, ex_fieldv, AOp.ro, AS.ev, AS.put, AS.fieldAddr, idxA_ptr, idxA_cptr, AS.peek, AS.poke, AS.blk, AS.setBlk, AV.nav, AV.upd, Blk.loc, Blk.cont, Blk.n, Blk.may, Blk.upd, AV.isAgg, AV.isTup, AV.sz, unVal, ownOk, fillAV, AV.sub, cvt_64j, cvt_64b, cvt_64w, cvt_8u, cvt_8w, bin_add64, bin_mul64, bin_sub64, bin_and51, bin_and32, bin_and1, bin_and8_1, bin_or64, bin_xor64, bin_or8, bin_shl64, bin_shl64j, bin_shr64, bin_shr64j, bin_shl8j, bin_shr8j, bin_quo64, bin_rem64, bin_quo32, bin_rem32, bin_addj, bin_subj, bin_quoj, bin_remj, bin_eqlj, bin_neqj, bin_lssj, bin_leqj, bin_gtrj, bin_geqj, bin_eql64, bin_lss64, bin_gtr64, bin_eql8, bin_rem8, lenA_tx, ex_prim, primA_some, AS.lits, prim_ix, prim_sub, prim_sub2, prim_min, prim_ib, ex_b2s, textOf_eq, textA_sl, textA_nil, lend_own, lendRow_row, lend_sl, lend_lit, bin_adds, bin_eqls, bin_neqs, bin_geq8, bin_leq8, bin_lss8, bin_gtr8, bin_neq8, bin_sub8, bin_quo8, bin_add8, bin_mulj, cvt_j8, cvt_8j, AOp.mineB, AV.place, ex_rdp, ex_rd, rdB, bnds, efF, bin_shrju, bin_shlju, listB_tx, listB_sl, listB_nil, ex_tups, bound_jn, AV.isText, keyA_arr, bl_len, zk_len, nameK_len, g1, g2, o1, zst]; exact rfl) ?_
  refine areg_xf (us := [mpub t.b t.l, keyA sid]) rfl (tgt_mpub _ _ _) (fun E _ => hpx ts (by omega) V _ sid o1 E) (PubG.ex _ _ _ _ _) (fun t' ht' => by simp at ht'; subst ht'; simp [G1]) (fun r hp' hK => ?_) ?_
  · obtain ⟨G', ⟨_, V', rfl⟩, rfl⟩ := hK
    refine ⟨fun t' ht' b hb' => ?_, by simp [G1]⟩
    simp at ht'
    subst ht'
    simp [AS.ev, AV.place] at hb'
    subst hb'
    simp only [g1]
  rintro r H' ⟨G', ⟨rfl, V1, rfl⟩, rfl⟩
  have hlen1 := putT_len ts (pubT sid)
  have hts1 := hts.putPub o1 (by omega)
  have k1 := nameK_len (putN ts (pubT sid))
  generalize nameK (putN ts (pubT sid)) = id at *
  generalize putT ts (pubT sid) = ts1 at *
  refine areg_run 3 (by simp [runPre, AOp.ex, AOp.ex0, ex_mov, ex_bin, binA_lit, ex_cvt, ex_iaddrA, ex_iaddrS, ex_faddr, ex_load, ldA, ex_ext, ex_add64, add64A_un, ex_pick, ex_beq, ex_un, ex_len, lenA_sl, lenA_nil, lenA_str, lenA_own, lenRow_row, elA_own, elA_sl, elRow_row, ex_nilc, ex_build, ex_bslice, ex_fieldv, AOp.ro, AS.ev, AS.put, AS.fieldAddr, idxA_ptr, idxA_cptr, AS.peek, AS.poke, AS.blk, AS.setBlk, AV.nav, AV.upd, Blk.loc, Blk.cont, Blk.n, Blk.may, Blk.upd, AV.isAgg, AV.isTup, AV.sz, unVal, ownOk, fillAV, AV.sub, cvt_64j, cvt_64b, cvt_64w, cvt_8u, cvt_8w, bin_add64, bin_mul64, bin_sub64, bin_and51, bin_and32, bin_and1, bin_and8_1, bin_or64, bin_xor64, bin_or8, bin_shl64, bin_shl64j, bin_shr64, bin_shr64j, bin_shl8j, bin_shr8j, bin_quo64, bin_rem64, bin_quo32, bin_rem32, bin_addj, bin_subj, bin_quoj, bin_remj, bin_eqlj, bin_neqj, bin_lssj, bin_leqj, bin_gtrj, bin_geqj, bin_eql64, bin_lss64, bin_gtr64, bin_eql8, bin_rem8, lenA_tx, ex_prim, primA_some, AS.lits, prim_ix, prim_sub, prim_sub2, prim_min, prim_ib, ex_b2s, textOf_eq, textA_sl, textA_nil, lend_own, lendRow_row, lend_sl, lend_lit, bin_adds, bin_eqls, bin_neqs, bin_geq8, bin_leq8, bin_lss8, bin_gtr8, bin_neq8, bin_sub8, bin_quo8, bin_add8, bin_mulj, cvt_j8, cvt_8j, AOp.mineB, AV.place, ex_rdp, ex_rd, rdB, bnds, efF, bin_shrju, bin_shlju, listB_tx, listB_sl, listB_nil, ex_tups, bound_jn, AV.isText, keyA_arr, bl_len, zk_len, nameK_len, g1, g2, o2, zst]; exact rfl) ?_
  refine areg_xf (us := [mpub t.b t.l, keyA spre]) rfl (tgt_mpub _ _ _) (fun E _ => hpx ts1 (by omega) V1 _ spre o2 E) (PubG.ex _ _ _ _ _) (fun t' ht' => by simp at ht'; subst ht'; simp [G1]) (fun r hp' hK => ?_) ?_
  · obtain ⟨G', ⟨_, V', rfl⟩, rfl⟩ := hK
    exact ⟨fun t' ht' => (by cases ht'), by simp [G1]⟩
  rintro r H' ⟨G', ⟨rfl, V2, rfl⟩, rfl⟩
  have hlen2 := putT_len ts1 (pubT spre)
  have hts2 := hts1.putPub o2 (by omega)
  have k2 := nameK_len (putN ts1 (pubT spre))
  generalize nameK (putN ts1 (pubT spre)) = pre at *
  generalize putT ts1 (pubT spre) = ts2 at *
  refine areg_run 1 (by simp [runPre, AOp.ex, AOp.ex0, ex_mov, ex_bin, binA_lit, ex_cvt, ex_iaddrA, ex_iaddrS, ex_faddr, ex_load, ldA, ex_ext, ex_add64, add64A_un, ex_pick, ex_beq, ex_un, ex_len, lenA_sl, lenA_nil, lenA_str, lenA_own, lenRow_row, elA_own, elA_sl, elRow_row, ex_nilc, ex_build, ex_bslice, ex_fieldv, AOp.ro, AS.ev, AS.put, AS.fieldAddr, idxA_ptr, idxA_cptr, AS.peek, AS.poke, AS.blk, AS.setBlk, AV.nav, AV.upd, Blk.loc, Blk.cont, Blk.n, Blk.may, Blk.upd, AV.isAgg, AV.isTup, AV.sz, unVal, ownOk, fillAV, AV.sub, cvt_64j, cvt_64b, cvt_64w, cvt_8u, cvt_8w, bin_add64, bin_mul64, bin_sub64, bin_and51, bin_and32, bin_and1, bin_and8_1, bin_or64, bin_xor64, bin_or8, bin_shl64, bin_shl64j, bin_shr64, bin_shr64j, bin_shl8j, bin_shr8j, bin_quo64, bin_rem64, bin_quo32, bin_rem32, bin_addj, bin_subj, bin_quoj, bin_remj, bin_eqlj, bin_neqj, bin_lssj, bin_leqj, bin_gtrj, bin_geqj, bin_eql64, bin_lss64, bin_gtr64, bin_eql8, bin_rem8, lenA_tx, ex_prim, primA_some, AS.lits, prim_ix, prim_sub, prim_sub2, prim_min, prim_ib, ex_b2s, textOf_eq, textA_sl, textA_nil, lend_own, lendRow_row, lend_sl, lend_lit, bin_adds, bin_eqls, bin_neqs, bin_geq8, bin_leq8, bin_lss8, bin_gtr8, bin_neq8, bin_sub8, bin_quo8, bin_add8, bin_mulj, cvt_j8, cvt_8j, AOp.mineB, AV.place, ex_rdp, ex_rd, rdB, bnds, efF, bin_shrju, bin_shlju, listB_tx, listB_sl, listB_nil, ex_tups, bound_jn, AV.isText, keyA_arr, bl_len, zk_len, nameK_len, k1, k2]; exact rfl) ?_
  refine areg_al' (z' := zst) (by rw [zst, zk_eq]) fun l6 => areg_end (by simp [runPre, AOp.ex, AOp.ex0, ex_mov, ex_bin, binA_lit, ex_cvt, ex_iaddrA, ex_iaddrS, ex_faddr, ex_load, ldA, ex_ext, ex_add64, add64A_un, ex_pick, ex_beq, ex_un, ex_len, lenA_sl, lenA_nil, lenA_str, lenA_own, lenRow_row, elA_own, elA_sl, elRow_row, ex_nilc, ex_build, ex_bslice, ex_fieldv, AOp.ro, AS.ev, AS.put, AS.fieldAddr, idxA_ptr, idxA_cptr, AS.peek, AS.poke, AS.blk, AS.setBlk, AV.nav, AV.upd, Blk.loc, Blk.cont, Blk.n, Blk.may, Blk.upd, AV.isAgg, AV.isTup, AV.sz, unVal, ownOk, fillAV, AV.sub, cvt_64j, cvt_64b, cvt_64w, cvt_8u, cvt_8w, bin_add64, bin_mul64, bin_sub64, bin_and51, bin_and32, bin_and1, bin_and8_1, bin_or64, bin_xor64, bin_or8, bin_shl64, bin_shl64j, bin_shr64, bin_shr64j, bin_shl8j, bin_shr8j, bin_quo64, bin_rem64, bin_quo32, bin_rem32, bin_addj, bin_subj, bin_quoj, bin_remj, bin_eqlj, bin_neqj, bin_lssj, bin_leqj, bin_gtrj, bin_geqj, bin_eql64, bin_lss64, bin_gtr64, bin_eql8, bin_rem8, lenA_tx, ex_prim, primA_some, AS.lits, prim_ix, prim_sub, prim_sub2, prim_min, prim_ib, ex_b2s, textOf_eq, textA_sl, textA_nil, lend_own, lendRow_row, lend_sl, lend_lit, bin_adds, bin_eqls, bin_neqs, bin_geq8, bin_leq8, bin_lss8, bin_gtr8, bin_neq8, bin_sub8, bin_quo8, bin_add8, bin_mulj, cvt_j8, cvt_8j, AOp.mineB, AV.place, ex_rdp, ex_rd, rdB, bnds, efF, bin_shrju, bin_shlju, listB_tx, listB_sl, listB_nil, ex_tups, bound_jn, AV.isText, keyA_arr, bl_len, zk_len, nameK_len, g1, g2, k1, k2, zst]; exact rfl) ?_
  refine wp_seqL (wp_seq' (wp_r (by simp [runPre, AOp.ex, AOp.ex0, ex_mov, ex_bin, binA_lit, ex_cvt, ex_iaddrA, ex_iaddrS, ex_faddr, ex_load, ldA, ex_ext, ex_add64, add64A_un, ex_pick, ex_beq, ex_un, ex_len, lenA_sl, lenA_nil, lenA_str, lenA_own, lenRow_row, elA_own, elA_sl, elRow_row, ex_nilc, ex_build, ex_bslice, ex_fieldv, AOp.ro, AS.ev, AS.put, AS.fieldAddr, idxA_ptr, idxA_cptr, AS.peek, AS.poke, AS.blk, AS.setBlk, AV.nav, AV.upd, Blk.loc, Blk.cont, Blk.n, Blk.may, Blk.upd, AV.isAgg, AV.isTup, AV.sz, unVal, ownOk, fillAV, AV.sub, cvt_64j, cvt_64b, cvt_64w, cvt_8u, cvt_8w, bin_add64, bin_mul64, bin_sub64, bin_and51, bin_and32, bin_and1, bin_and8_1, bin_or64, bin_xor64, bin_or8, bin_shl64, bin_shl64j, bin_shr64, bin_shr64j, bin_shl8j, bin_shr8j, bin_quo64, bin_rem64, bin_quo32, bin_rem32, bin_addj, bin_subj, bin_quoj, bin_remj, bin_eqlj, bin_neqj, bin_lssj, bin_leqj, bin_gtrj, bin_geqj, bin_eql64, bin_lss64, bin_gtr64, bin_eql8, bin_rem8, lenA_tx, ex_prim, primA_some, AS.lits, prim_ix, prim_sub, prim_sub2, prim_min, prim_ib, ex_b2s, textOf_eq, textA_sl, textA_nil, lend_own, lendRow_row, lend_sl, lend_lit, bin_adds, bin_eqls, bin_neqs, bin_geq8, bin_leq8, bin_lss8, bin_gtr8, bin_neq8, bin_sub8, bin_quo8, bin_add8, bin_mulj, cvt_j8, cvt_8j, AOp.mineB, AV.place, ex_rdp, ex_rd, rdB, bnds, efF, bin_shrju, bin_shlju, listB_tx, listB_sl, listB_nil, ex_tups, bound_jn, AV.isText, keyA_arr, bl_len, zk_len, nameK_len, g1, klA_len]; exact rfl) ?_))
  refine wp_block' (wp_loop_m (shwS N H t ⟨sid, spre, sones⟩ l3 l4 l6 id pre) (fun x => sones.length - x.1) (fun x => pubsG (sones.drop x.1) x.2.2.1 x.2.1 = pubsG sones ts2 [] ∧ x.1 ≤ sones.length ∧ TsOk x.2.2.1 ∧ x.2.2.1.length + (sones.length - x.1) + 1000 < 90000 ∧ x.2.1.length = x.1) (0, [], ts2, .slice none 0 0, V2) ?_ ⟨rfl, by simp, hts2, by simp; omega, rfl⟩ ?_)
  · refine Le.trans (Le.nilField (b := N + 6) (j := N + 34) (l := l6) (n := 65) (v := .st [32, 32, 1] [keyA id, keyA pre, .lit (.slice none 0 0)]) (v' := .st [32, 32, 1] [keyA id, keyA pre, .own (N + 34) (.slice none 0 0)]) (by simp only [AS.blk, g1]; rfl) (AVle.st1 (AVle.refl _) (AVle.st1 (AVle.refl _) (AVle.st1 (AVle.nil _) AVle.st0))) (by simp only [AS.blk, g1]; rfl) (by simp [G1]) (by simp [G1]) 28 32) (Le.mk rfl (by simp [shwS, leT, storeA, keyA]) ?_)
    simp only [g2, shwS]
    exact leH_app (leH_refl _) (by simp [leH, klA, keyA, zst, storeA])
  · rintro ⟨i, acc, ts3, Vr, Vt⟩ ⟨hI, hi, hok, hl3, hacc⟩
    simp only at hI hi hok hl3 hacc ⊢
    unfold shwS storeA zst
    simp only
    by_cases hlt : i < sones.length
    · obtain ⟨x, hx⟩ : ∃ x, sones[i]? = some x := ⟨_, List.getElem?_eq_getElem hlt⟩
      have hdrop : sones.drop i = x :: sones.drop (i + 1) := by
        rw [List.drop_eq_getElem_cons hlt]
        rw [List.getElem?_eq_getElem hlt] at hx
        rw [Option.some.inj hx]
      rw [hdrop, pubsG] at hI
      have hx32 := o3 _ (List.mem_of_getElem? hx)
      have e1 : (klA sones)[i]? = some (keyA x) := by rw [klA_get, hx]; rfl
      have e2 : ∀ h, (klA sones)[i]'h = keyA x := fun h => by rw [List.getElem?_eq_getElem h] at e1; exact Option.some.inj e1
      have q1 : i + 1 < 9223372036854775808 := by omega
      have hpa1 := fun L => hpa ts3 (by omega) Vt L x hx32
      have hlen4 := putT_len ts3 (pubT x)
      have hts4 := hok.putPub hx32 (by omega)
      have hk32 := nameK_len (putN ts3 (pubT x))
      refine wp_sr (by simp [runPre, AOp.ex, AOp.ex0, ex_mov, ex_bin, binA_lit, ex_cvt, ex_iaddrA, ex_iaddrS, ex_faddr, ex_load, ldA, ex_ext, ex_add64, add64A_un, ex_pick, ex_beq, ex_un, ex_len, lenA_sl, lenA_nil, lenA_str, lenA_own, lenRow_row, elA_own, elA_sl, elRow_row, ex_nilc, ex_build, ex_bslice, ex_fieldv, AOp.ro, AS.ev, AS.put, AS.fieldAddr, idxA_ptr, idxA_cptr, AS.peek, AS.poke, AS.blk, AS.setBlk, AV.nav, AV.upd, Blk.loc, Blk.cont, Blk.n, Blk.may, Blk.upd, AV.isAgg, AV.isTup, AV.sz, unVal, ownOk, fillAV, AV.sub, cvt_64j, cvt_64b, cvt_64w, cvt_8u, cvt_8w, bin_add64, bin_mul64, bin_sub64, bin_and51, bin_and32, bin_and1, bin_and8_1, bin_or64, bin_xor64, bin_or8, bin_shl64, bin_shl64j, bin_shr64, bin_shr64j, bin_shl8j, bin_shr8j, bin_quo64, bin_rem64, bin_quo32, bin_rem32, bin_addj, bin_subj, bin_quoj, bin_remj, bin_eqlj, bin_neqj, bin_lssj, bin_leqj, bin_gtrj, bin_geqj, bin_eql64, bin_lss64, bin_gtr64, bin_eql8, bin_rem8, lenA_tx, ex_prim, primA_some, AS.lits, prim_ix, prim_sub, prim_sub2, prim_min, prim_ib, ex_b2s, textOf_eq, textA_sl, textA_nil, lend_own, lendRow_row, lend_sl, lend_lit, bin_adds, bin_eqls, bin_neqs, bin_geq8, bin_leq8, bin_lss8, bin_gtr8, bin_neq8, bin_sub8, bin_quo8, bin_add8, bin_mulj, cvt_j8, cvt_8j, AOp.mineB, AV.place, ex_rdp, ex_rd, rdB, bnds, efF, bin_shrju, bin_shlju, listB_tx, listB_sl, listB_nil, ex_tups, bound_jn, AV.isText, keyA_arr, bl_len, zk_len, nameK_len, hlt]; exact rfl) (wp_seq' (wp_cond_t (by simp [AS.ev]) (wp_skip' ?_)))
      refine wp_seq' (wp_block' (wp_sg ?_))
      refine areg_run 2 (by simp [runPre, AOp.ex, AOp.ex0, ex_mov, ex_bin, binA_lit, ex_cvt, ex_iaddrA, ex_iaddrS, ex_faddr, ex_load, ldA, ex_ext, ex_add64, add64A_un, ex_pick, ex_beq, ex_un, ex_len, lenA_sl, lenA_nil, lenA_str, lenA_own, lenRow_row, elA_own, elA_sl, elRow_row, ex_nilc, ex_build, ex_bslice, ex_fieldv, AOp.ro, AS.ev, AS.put, AS.fieldAddr, idxA_ptr, idxA_cptr, AS.peek, AS.poke, AS.blk, AS.setBlk, AV.nav, AV.upd, Blk.loc, Blk.cont, Blk.n, Blk.may, Blk.upd, AV.isAgg, AV.isTup, AV.sz, unVal, ownOk, fillAV, AV.sub, cvt_64j, cvt_64b, cvt_64w, cvt_8u, cvt_8w, bin_add64, bin_mul64, bin_sub64, bin_and51, bin_and32, bin_and1, bin_and8_1, bin_or64, bin_xor64, bin_or8, bin_shl64, bin_shl64j, bin_shr64, bin_shr64j, bin_shl8j, bin_shr8j, bin_quo64, bin_rem64, bin_quo32, bin_rem32, bin_addj, bin_subj, bin_quoj, bin_remj, bin_eqlj, bin_neqj, bin_lssj, bin_leqj, bin_gtrj, bin_geqj, bin_eql64, bin_lss64, bin_gtr64, bin_eql8, bin_rem8, lenA_tx, ex_prim, primA_some, AS.lits, prim_ix, prim_sub, prim_sub2, prim_min, prim_ib, ex_b2s, textOf_eq, textA_sl, textA_nil, lend_own, lendRow_row, lend_sl, lend_lit, bin_adds, bin_eqls, bin_neqs, bin_geq8, bin_leq8, bin_lss8, bin_gtr8, bin_neq8, bin_sub8, bin_quo8, bin_add8, bin_mulj, cvt_j8, cvt_8j, AOp.mineB, AV.place, ex_rdp, ex_rd, rdB, bnds, efF, bin_shrju, bin_shlju, listB_tx, listB_sl, listB_nil, ex_tups, bound_jn, AV.isText, keyA_arr, bl_len, zk_len, nameK_len, e1, e2, hlt, klA_len]; exact rfl) ?_
      refine areg_al' zk_eq.symm fun l8 => areg_end (by simp [runPre, AOp.ex, AOp.ex0, ex_mov, ex_bin, binA_lit, ex_cvt, ex_iaddrA, ex_iaddrS, ex_faddr, ex_load, ldA, ex_ext, ex_add64, add64A_un, ex_pick, ex_beq, ex_un, ex_len, lenA_sl, lenA_nil, lenA_str, lenA_own, lenRow_row, elA_own, elA_sl, elRow_row, ex_nilc, ex_build, ex_bslice, ex_fieldv, AOp.ro, AS.ev, AS.put, AS.fieldAddr, idxA_ptr, idxA_cptr, AS.peek, AS.poke, AS.blk, AS.setBlk, AV.nav, AV.upd, Blk.loc, Blk.cont, Blk.n, Blk.may, Blk.upd, AV.isAgg, AV.isTup, AV.sz, unVal, ownOk, fillAV, AV.sub, cvt_64j, cvt_64b, cvt_64w, cvt_8u, cvt_8w, bin_add64, bin_mul64, bin_sub64, bin_and51, bin_and32, bin_and1, bin_and8_1, bin_or64, bin_xor64, bin_or8, bin_shl64, bin_shl64j, bin_shr64, bin_shr64j, bin_shl8j, bin_shr8j, bin_quo64, bin_rem64, bin_quo32, bin_rem32, bin_addj, bin_subj, bin_quoj, bin_remj, bin_eqlj, bin_neqj, bin_lssj, bin_leqj, bin_gtrj, bin_geqj, bin_eql64, bin_lss64, bin_gtr64, bin_eql8, bin_rem8, lenA_tx, ex_prim, primA_some, AS.lits, prim_ix, prim_sub, prim_sub2, prim_min, prim_ib, ex_b2s, textOf_eq, textA_sl, textA_nil, lend_own, lendRow_row, lend_sl, lend_lit, bin_adds, bin_eqls, bin_neqs, bin_geq8, bin_leq8, bin_lss8, bin_gtr8, bin_neq8, bin_sub8, bin_quo8, bin_add8, bin_mulj, cvt_j8, cvt_8j, AOp.mineB, AV.place, ex_rdp, ex_rd, rdB, bnds, efF, bin_shrju, bin_shlju, listB_tx, listB_sl, listB_nil, ex_tups, bound_jn, AV.isText, keyA_arr, bl_len, zk_len, nameK_len, g1, g2, hx32]; exact rfl) ?_
      refine wp_rg ?_
      refine areg_run 4 (by simp [runPre, AOp.ex, AOp.ex0, ex_mov, ex_bin, binA_lit, ex_cvt, ex_iaddrA, ex_iaddrS, ex_faddr, ex_load, ldA, ex_ext, ex_add64, add64A_un, ex_pick, ex_beq, ex_un, ex_len, lenA_sl, lenA_nil, lenA_str, lenA_own, lenRow_row, elA_own, elA_sl, elRow_row, ex_nilc, ex_build, ex_bslice, ex_fieldv, AOp.ro, AS.ev, AS.put, AS.fieldAddr, idxA_ptr, idxA_cptr, AS.peek, AS.poke, AS.blk, AS.setBlk, AV.nav, AV.upd, Blk.loc, Blk.cont, Blk.n, Blk.may, Blk.upd, AV.isAgg, AV.isTup, AV.sz, unVal, ownOk, fillAV, AV.sub, cvt_64j, cvt_64b, cvt_64w, cvt_8u, cvt_8w, bin_add64, bin_mul64, bin_sub64, bin_and51, bin_and32, bin_and1, bin_and8_1, bin_or64, bin_xor64, bin_or8, bin_shl64, bin_shl64j, bin_shr64, bin_shr64j, bin_shl8j, bin_shr8j, bin_quo64, bin_rem64, bin_quo32, bin_rem32, bin_addj, bin_subj, bin_quoj, bin_remj, bin_eqlj, bin_neqj, bin_lssj, bin_leqj, bin_gtrj, bin_geqj, bin_eql64, bin_lss64, bin_gtr64, bin_eql8, bin_rem8, lenA_tx, ex_prim, primA_some, AS.lits, prim_ix, prim_sub, prim_sub2, prim_min, prim_ib, ex_b2s, textOf_eq, textA_sl, textA_nil, lend_own, lendRow_row, lend_sl, lend_lit, bin_adds, bin_eqls, bin_neqs, bin_geq8, bin_leq8, bin_lss8, bin_gtr8, bin_neq8, bin_sub8, bin_quo8, bin_add8, bin_mulj, cvt_j8, cvt_8j, AOp.mineB, AV.place, ex_rdp, ex_rd, rdB, bnds, efF, bin_shrju, bin_shlju, listB_tx, listB_sl, listB_nil, ex_tups, bound_jn, AV.isText, keyA_arr, bl_len, zk_len, nameK_len, g1, g2, hx32]; exact rfl) ?_
      refine areg_xq (us := [mpub t.b t.l, keyA x]) rfl (tgt_mpub _ _ _) (hpa1 _) ⟨_, _, rfl, .slice none 0 0, rfl⟩ (fun r hp' hK t' ht' b hb' => ?_) ?_
      · obtain ⟨_, V', rfl⟩ := hK
        simp at ht'
        subst ht'
        simp [AS.ev, AV.place] at hb'
        subst hb'
        simp only [g1]
      rintro r H' ⟨rfl, Vt', rfl⟩
      generalize nameK (putN ts3 (pubT x)) = kk at *
      generalize putT ts3 (pubT x) = ts4 at *
      refine areg_run 1 (by simp [runPre, AOp.ex, AOp.ex0, ex_mov, ex_bin, binA_lit, ex_cvt, ex_iaddrA, ex_iaddrS, ex_faddr, ex_load, ldA, ex_ext, ex_add64, add64A_un, ex_pick, ex_beq, ex_un, ex_len, lenA_sl, lenA_nil, lenA_str, lenA_own, lenRow_row, elA_own, elA_sl, elRow_row, ex_nilc, ex_build, ex_bslice, ex_fieldv, AOp.ro, AS.ev, AS.put, AS.fieldAddr, idxA_ptr, idxA_cptr, AS.peek, AS.poke, AS.blk, AS.setBlk, AV.nav, AV.upd, Blk.loc, Blk.cont, Blk.n, Blk.may, Blk.upd, AV.isAgg, AV.isTup, AV.sz, unVal, ownOk, fillAV, AV.sub, cvt_64j, cvt_64b, cvt_64w, cvt_8u, cvt_8w, bin_add64, bin_mul64, bin_sub64, bin_and51, bin_and32, bin_and1, bin_and8_1, bin_or64, bin_xor64, bin_or8, bin_shl64, bin_shl64j, bin_shr64, bin_shr64j, bin_shl8j, bin_shr8j, bin_quo64, bin_rem64, bin_quo32, bin_rem32, bin_addj, bin_subj, bin_quoj, bin_remj, bin_eqlj, bin_neqj, bin_lssj, bin_leqj, bin_gtrj, bin_geqj, bin_eql64, bin_lss64, bin_gtr64, bin_eql8, bin_rem8, lenA_tx, ex_prim, primA_some, AS.lits, prim_ix, prim_sub, prim_sub2, prim_min, prim_ib, ex_b2s, textOf_eq, textA_sl, textA_nil, lend_own, lendRow_row, lend_sl, lend_lit, bin_adds, bin_eqls, bin_neqs, bin_geq8, bin_leq8, bin_lss8, bin_gtr8, bin_neq8, bin_sub8, bin_quo8, bin_add8, bin_mulj, cvt_j8, cvt_8j, AOp.mineB, AV.place, ex_rdp, ex_rd, rdB, bnds, efF, bin_shrju, bin_shlju, listB_tx, listB_sl, listB_nil, ex_tups, bound_jn, AV.isText, keyA_arr, bl_len, zk_len, nameK_len, hk32]; exact rfl) ?_
      refine areg_ap (b := N + 34) (V := Vr) (ys := [keyA kk]) rfl (by simp only [AS.blk, g1]; rfl) (by simp [AS.ev, AS.coe, keyA]) (by rw [klA_len, hacc]; simp [maxLen]; omega) (by rw [klA_len, hacc]; simp; omega) (fun V4 => ?_)
      refine areg_end (by simp [runPre, AOp.ex, AOp.ex0, ex_mov, ex_bin, binA_lit, ex_cvt, ex_iaddrA, ex_iaddrS, ex_faddr, ex_load, ldA, ex_ext, ex_add64, add64A_un, ex_pick, ex_beq, ex_un, ex_len, lenA_sl, lenA_nil, lenA_str, lenA_own, lenRow_row, elA_own, elA_sl, elRow_row, ex_nilc, ex_build, ex_bslice, ex_fieldv, AOp.ro, AS.ev, AS.put, AS.fieldAddr, idxA_ptr, idxA_cptr, AS.peek, AS.poke, AS.blk, AS.setBlk, AV.nav, AV.upd, Blk.loc, Blk.cont, Blk.n, Blk.may, Blk.upd, AV.isAgg, AV.isTup, AV.sz, unVal, ownOk, fillAV, AV.sub, cvt_64j, cvt_64b, cvt_64w, cvt_8u, cvt_8w, bin_add64, bin_mul64, bin_sub64, bin_and51, bin_and32, bin_and1, bin_and8_1, bin_or64, bin_xor64, bin_or8, bin_shl64, bin_shl64j, bin_shr64, bin_shr64j, bin_shl8j, bin_shr8j, bin_quo64, bin_rem64, bin_quo32, bin_rem32, bin_addj, bin_subj, bin_quoj, bin_remj, bin_eqlj, bin_neqj, bin_lssj, bin_leqj, bin_gtrj, bin_geqj, bin_eql64, bin_lss64, bin_gtr64, bin_eql8, bin_rem8, lenA_tx, ex_prim, primA_some, AS.lits, prim_ix, prim_sub, prim_sub2, prim_min, prim_ib, ex_b2s, textOf_eq, textA_sl, textA_nil, lend_own, lendRow_row, lend_sl, lend_lit, bin_adds, bin_eqls, bin_neqs, bin_geq8, bin_leq8, bin_lss8, bin_gtr8, bin_neq8, bin_sub8, bin_quo8, bin_add8, bin_mulj, cvt_j8, cvt_8j, AOp.mineB, AV.place, ex_rdp, ex_rd, rdB, bnds, efF, bin_shrju, bin_shlju, listB_tx, listB_sl, listB_nil, ex_tups, bound_jn, AV.isText, keyA_arr, bl_len, zk_len, nameK_len, g1, g2]; exact rfl) ?_
      refine wp_r (by simp [runPre, AOp.ex, AOp.ex0, ex_mov, ex_bin, binA_lit, ex_cvt, ex_iaddrA, ex_iaddrS, ex_faddr, ex_load, ldA, ex_ext, ex_add64, add64A_un, ex_pick, ex_beq, ex_un, ex_len, lenA_sl, lenA_nil, lenA_str, lenA_own, lenRow_row, elA_own, elA_sl, elRow_row, ex_nilc, ex_build, ex_bslice, ex_fieldv, AOp.ro, AS.ev, AS.put, AS.fieldAddr, idxA_ptr, idxA_cptr, AS.peek, AS.poke, AS.blk, AS.setBlk, AV.nav, AV.upd, Blk.loc, Blk.cont, Blk.n, Blk.may, Blk.upd, AV.isAgg, AV.isTup, AV.sz, unVal, ownOk, fillAV, AV.sub, cvt_64j, cvt_64b, cvt_64w, cvt_8u, cvt_8w, bin_add64, bin_mul64, bin_sub64, bin_and51, bin_and32, bin_and1, bin_and8_1, bin_or64, bin_xor64, bin_or8, bin_shl64, bin_shl64j, bin_shr64, bin_shr64j, bin_shl8j, bin_shr8j, bin_quo64, bin_rem64, bin_quo32, bin_rem32, bin_addj, bin_subj, bin_quoj, bin_remj, bin_eqlj, bin_neqj, bin_lssj, bin_leqj, bin_gtrj, bin_geqj, bin_eql64, bin_lss64, bin_gtr64, bin_eql8, bin_rem8, lenA_tx, ex_prim, primA_some, AS.lits, prim_ix, prim_sub, prim_sub2, prim_min, prim_ib, ex_b2s, textOf_eq, textA_sl, textA_nil, lend_own, lendRow_row, lend_sl, lend_lit, bin_adds, bin_eqls, bin_neqs, bin_geq8, bin_leq8, bin_lss8, bin_gtr8, bin_neq8, bin_sub8, bin_quo8, bin_add8, bin_mulj, cvt_j8, cvt_8j, AOp.mineB, AV.place, ex_rdp, ex_rd, rdB, bnds, efF, bin_shrju, bin_shlju, listB_tx, listB_sl, listB_nil, ex_tups, bound_jn, AV.isText, keyA_arr, bl_len, zk_len, nameK_len, q1]; exact rfl) ?_
      refine Exists.intro (i + 1, acc ++ [kk], ts4, V4, Vt') ⟨⟨hI, by omega, hts4, by simp only; omega, by simp [hacc]⟩, by simp only; omega, Le.mk rfl (by simp [leT, keyA]) ?_⟩
      refine leH_app (leH_refl _) ?_
      simp [leH, klA, keyA]
    · have hin : i = sones.length := by omega
      subst hin
      rw [List.drop_length, pubsG] at hI
      rw [← hI]
      refine wp_sr (by simp [runPre, AOp.ex, AOp.ex0, ex_mov, ex_bin, binA_lit, ex_cvt, ex_iaddrA, ex_iaddrS, ex_faddr, ex_load, ldA, ex_ext, ex_add64, add64A_un, ex_pick, ex_beq, ex_un, ex_len, lenA_sl, lenA_nil, lenA_str, lenA_own, lenRow_row, elA_own, elA_sl, elRow_row, ex_nilc, ex_build, ex_bslice, ex_fieldv, AOp.ro, AS.ev, AS.put, AS.fieldAddr, idxA_ptr, idxA_cptr, AS.peek, AS.poke, AS.blk, AS.setBlk, AV.nav, AV.upd, Blk.loc, Blk.cont, Blk.n, Blk.may, Blk.upd, AV.isAgg, AV.isTup, AV.sz, unVal, ownOk, fillAV, AV.sub, cvt_64j, cvt_64b, cvt_64w, cvt_8u, cvt_8w, bin_add64, bin_mul64, bin_sub64, bin_and51, bin_and32, bin_and1, bin_and8_1, bin_or64, bin_xor64, bin_or8, bin_shl64, bin_shl64j, bin_shr64, bin_shr64j, bin_shl8j, bin_shr8j, bin_quo64, bin_rem64, bin_quo32, bin_rem32, bin_addj, bin_subj, bin_quoj, bin_remj, bin_eqlj, bin_neqj, bin_lssj, bin_leqj, bin_gtrj, bin_geqj, bin_eql64, bin_lss64, bin_gtr64, bin_eql8, bin_rem8, lenA_tx, ex_prim, primA_some, AS.lits, prim_ix, prim_sub, prim_sub2, prim_min, prim_ib, ex_b2s, textOf_eq, textA_sl, textA_nil, lend_own, lendRow_row, lend_sl, lend_lit, bin_adds, bin_eqls, bin_neqs, bin_geq8, bin_leq8, bin_lss8, bin_gtr8, bin_neq8, bin_sub8, bin_quo8, bin_add8, bin_mulj, cvt_j8, cvt_8j, AOp.mineB, AV.place, ex_rdp, ex_rd, rdB, bnds, efF, bin_shrju, bin_shlju, listB_tx, listB_sl, listB_nil, ex_tups, bound_jn, AV.isText, keyA_arr, bl_len, zk_len, nameK_len]; exact rfl) (wp_seq' (wp_cond_f (by simp [AS.ev]) (wp_exit' (if_hit rfl ?_))))
      refine ⟨_, Le.sealedF (b := N + 6) (j := N + 34) (n := 65) (i := 2) (e := 28) (esz := 32) (sl := 0) (l := l6) (ns := [32, 32, 1]) (fs := [keyA id, keyA pre, .own (N + 34) Vr]) (els := klA acc) (V := Vr) (by simp only [AS.blk, g1]; rfl) rfl (by simp only [AS.blk, g1]; rfl), ?_⟩
      refine wp_sr (by simp [runPre, AOp.ex, AOp.ex0, ex_mov, ex_bin, binA_lit, ex_cvt, ex_iaddrA, ex_iaddrS, ex_faddr, ex_load, ldA, ex_ext, ex_add64, add64A_un, ex_pick, ex_beq, ex_un, ex_len, lenA_sl, lenA_nil, lenA_str, lenA_own, lenRow_row, elA_own, elA_sl, elRow_row, ex_nilc, ex_build, ex_bslice, ex_fieldv, AOp.ro, AS.ev, AS.put, AS.fieldAddr, idxA_ptr, idxA_cptr, AS.peek, AS.poke, AS.blk, AS.setBlk, AV.nav, AV.upd, Blk.loc, Blk.cont, Blk.n, Blk.may, Blk.upd, AV.isAgg, AV.isTup, AV.sz, unVal, ownOk, fillAV, AV.sub, cvt_64j, cvt_64b, cvt_64w, cvt_8u, cvt_8w, bin_add64, bin_mul64, bin_sub64, bin_and51, bin_and32, bin_and1, bin_and8_1, bin_or64, bin_xor64, bin_or8, bin_shl64, bin_shl64j, bin_shr64, bin_shr64j, bin_shl8j, bin_shr8j, bin_quo64, bin_rem64, bin_quo32, bin_rem32, bin_addj, bin_subj, bin_quoj, bin_remj, bin_eqlj, bin_neqj, bin_lssj, bin_leqj, bin_gtrj, bin_geqj, bin_eql64, bin_lss64, bin_gtr64, bin_eql8, bin_rem8, lenA_tx, ex_prim, primA_some, AS.lits, prim_ix, prim_sub, prim_sub2, prim_min, prim_ib, ex_b2s, textOf_eq, textA_sl, textA_nil, lend_own, lendRow_row, lend_sl, lend_lit, bin_adds, bin_eqls, bin_neqs, bin_geq8, bin_leq8, bin_lss8, bin_gtr8, bin_neq8, bin_sub8, bin_quo8, bin_add8, bin_mulj, cvt_j8, cvt_8j, AOp.mineB, AV.place, ex_rdp, ex_rd, rdB, bnds, efF, bin_shrju, bin_shlju, listB_tx, listB_sl, listB_nil, ex_tups, bound_jn, AV.isText, keyA_arr, bl_len, zk_len, nameK_len, g1, g2, k1, k2]; exact rfl) (wp_ret' ?_)
      refine ⟨_, Le.refl _, [], storeA ⟨id, pre, acc⟩, ⟨by simp [AS.seals, RVal, AS.ev, AS.peek, AS.blk, g1, Blk.loc, Blk.cont, Blk.n, AV.nav, AV.isAgg, AV.isTup, AS.coe]; rfl, by simp [storeA]⟩, _, _, RelLe.refl _, by simp [storeA], HpLe.trim _ _, rfl, Vt, (hh.of_of _ _ _ _).symm⟩
end Go.Cab

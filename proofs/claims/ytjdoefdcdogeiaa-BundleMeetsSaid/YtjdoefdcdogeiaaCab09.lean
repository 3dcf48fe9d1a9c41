/- Part 9 of what the proof stands on: G10, G11, GD. -/
import Derived.Test.YtjdoefdcdogeiaaCab08
import Derived.Shelf.RegionOpenPlain
import Derived.WalkKit
import Derived.Deep.LoopGhost
import Derived.Deep.RegionLaw
import Derived.Deep.MidRow
import Derived.Lib.Walk
import Derived.Sort.WalkB12
import Derived.Lib.SliceRun
import Derived.Lib.SlicesDelete
set_option linter.unusedSimpArgs false
set_option linter.unnecessarySimpa false
set_option linter.unusedVariables false
set_option linter.unusedSectionVars false
/- Free kit: what all pairs agree on. -/
-- TEXTS
-- KIT
namespace Go.Cab
open Classical
def fb421 : AC := (.seq (.reg [⟨(.some 4), .none, (.alloc 32 (.arr 1 (List.replicate 32 (.lit (bn 0))))), [], .none⟩, ⟨(.some 5), .none, (.mov (.const (.bool .false))), [], .none⟩]) (.seq (.reg [⟨(.some 6), .none, (.mov (.const (.slice .none 0 0))), [], .none⟩]) (.seq (.seq (.reg [⟨(.some 11), .none, (.mov (.tmp 1)), [], .none⟩, ⟨(.some 12), .none, (.len .false (.tmp 11)), [], .none⟩, ⟨(.some 13), .none, (.mov (.const (jn 0))), [], .none⟩]) (.block 0 (.loop (.seq (.reg [⟨(.some 14), .none, (.bin .lss (.tmp 13) (.tmp 12)), [], .none⟩]) (.seq (.cond (.tmp 14) .skip (.exit 0)) (.seq (.block 1 (.seq (.reg [⟨(.some 15), .none, (.iaddrS 64 (.tmp 11) (.tmp 13)), [], .none⟩, ⟨(.some 16), .none, (.load .true 64 (.tmp 15)), [], .none⟩, ⟨(.some 8), .none, (.alloc 64 (.st [32, 32] [(.arr 1 (List.replicate 32 (.lit (bn 0)))), (.arr 1 (List.replicate 32 (.lit (bn 0))))])), [], .none⟩, ⟨.none, .none, (.store 64 (.tmp 8) (.tmp 16)), [], .none⟩]) (.seq (.reg [⟨(.some 18), .none, (.mov (.tmp 0)), [], .none⟩, ⟨(.some 19), .none, (.faddr 0 0 (.tmp 8)), [], .none⟩, ⟨(.some 20), .none, (.load .true 32 (.tmp 19)), [], .none⟩, ⟨(.some 21), .none, (.faddr 32 1 (.tmp 8)), [], .none⟩, ⟨(.some 22), .none, (.load .true 32 (.tmp 21)), [], .none⟩, ⟨(.some 23), .none, (.xc (.inv "Agree") [(.tmp 18), (.tmp 20), (.tmp 22)] [] []), [], .none⟩, ⟨(.some 17), .none, (.mov (.tmp 23)), [], .none⟩, ⟨(.some 24), .none, (.ext (.tmp 17) 0), [], .none⟩, ⟨(.some 25), .none, (.ext (.tmp 17) 1), [], .none⟩, ⟨(.some 9), .none, (.alloc 32 (.arr 1 (List.replicate 32 (.lit (bn 0))))), [], .none⟩, ⟨.none, .none, (.store 32 (.tmp 9) (.tmp 24)), [], .none⟩, ⟨(.some 10), .none, (.mov (.tmp 25)), [], .none⟩]) (.seq (.seq (.reg [⟨(.some 26), .none, (.mov (.tmp 10)), [], .none⟩, ⟨(.some 27), .none, (.un .not (.tmp 26)), [], .none⟩]) (.cond (.tmp 27) (.seq (.reg [⟨(.some 28), .none, (.build (.arr 1 (List.replicate 32 (.lit (bn 0)))) []), [], .none⟩, ⟨.none, .none, (.store 32 (.tmp 4) (.tmp 28)), [], .none⟩, ⟨(.some 5), .none, (.mov (.const (.bool .false))), [], .none⟩]) .ret) .skip)) (.reg [⟨(.some 29), .none, (.mov (.tmp 6)), [], .none⟩, ⟨(.some 30), .none, (.load .true 32 (.tmp 9)), [], .none⟩, ⟨(.some 31), .none, (.bslice 32 (.arr 1 (List.replicate 32 (.lit (bn 0)))) 1 [(0, (.tmp 30))]), [], .none⟩, ⟨(.some 32), .none, (.append 28 32 32 (.tmp 29) (.tmp 31)), [], .none⟩, ⟨(.some 6), .none, (.mov (.tmp 32)), [], .none⟩]))))) (.reg [⟨(.some 33), .none, (.bin .add (.tmp 13) (.const (jn 1))), [], .none⟩, ⟨(.some 13), .none, (.mov (.tmp 33)), [], .none⟩]))))))) (.seq (.reg [⟨(.some 34), .none, (.mov (.tmp 0)), [], .none⟩, ⟨(.some 35), .none, (.mov (.tmp 6)), [], .none⟩, ⟨(.some 36), .none, (.xc (.inv "Hash") [(.tmp 34), (.const (tx [104, 101, 108, 108, 111])), (.tmp 35)] [] []), [], .none⟩, ⟨.none, .none, (.store 32 (.tmp 4) (.tmp 36)), [], .none⟩, ⟨(.some 5), .none, (.mov (.const (.bool .true))), [], .none⟩]) .ret))))
def fc421 : FC := ⟨2, 37, [(.cell 4 .true 32), (.tmp 5)], fb421⟩
theorem fc421_eq : compF Go.Proofs.Try.prog 16 = some fc421 := by kernel_rfl

theorem tgt_agree (b : Nat) (l : Nat × Nat) (x y : AV) : tgtA Go.Proofs.Try.prog (.inv "Agree") [freeI b l, x, y] = some (49, [.ptr b l 0 [], x, y]) := by kernel_rfl
theorem tgt_hash (b : Nat) (l : Nat × Nat) (x y : AV) : tgtA Go.Proofs.Try.prog (.inv "Hash") [freeI b l, x, y] = some (50, [.ptr b l 0 [], x, y]) := by kernel_rfl
theorem tgt_pub (b : Nat) (l : Nat × Nat) (x : AV) : tgtA Go.Proofs.Try.prog (.inv "Pub") [freeI b l, x] = some (52, [.ptr b l 0 [], x]) := by kernel_rfl
theorem tgt_draw (b : Nat) (l : Nat × Nat) (x : AV) : tgtA Go.Proofs.Try.prog (.inv "Draw") [freeI b l, x] = some (11, [.ptr b l 0 [], x]) := by kernel_rfl

theorem TsOk.put {ts : List Term} (h : TsOk ts) {x : Term} (hx : TermOk x) (h3 : x.kind = 3 → ∃ k, x.keys = [k]) (hl : ts.length + 1 < 90000) : TsOk (putT ts x) := by
  unfold putT
  cases findT (shapeT x) ts 0 with
  | some n => exact h
  | none =>
    refine ⟨by simp; omega, fun y hy => ?_, fun y hy => ?_⟩
    · rcases List.mem_append.1 hy with hy | hy
      · exact h.ok y hy
      · simp at hy; subst hy; exact hx
    · rcases List.mem_append.1 hy with hy | hy
      · exact h.pub y hy
      · simp at hy; subst hy; exact h3
theorem agreeX_ok {ts : List Term} (h : TsOk ts) {a p : List UInt8} (ha : a.length = 32) (hp : p.length = 32) {x : Term} (hx : agreeX ts a p = some x) : TermOk x ∧ x.kind ≠ 3 := by
  unfold agreeX at hx
  have mk : ∀ (k : Nat) (u v : List UInt8), k < 256 → u.length = 32 → v.length = 32 → TermOk ⟨k, [], [u, v]⟩ := fun k u v hk hu hv => ⟨hk, by simp, by simp, by simp [hu, hv]⟩
  split at hx
  · cases hx
  · split at hx
    · cases hx; exact ⟨mk 5 a p (by omega) ha hp, by simp⟩
    · split at hx
      · rename_i y hy
        have hmem := List.mem_of_getElem? hy
        split at hx
        · rename_i h3
          obtain ⟨k, hk⟩ := h.pub y hmem h3
          have hk32 : k.length = 32 := (h.ok y hmem).k32 k (by rw [hk]; simp)
          rw [hk] at hx
          simp only [List.getD_cons_zero] at hx
          split at hx
          · cases hx; exact ⟨mk 4 k a (by omega) hk32 ha, by simp⟩
          · cases hx; exact ⟨mk 4 a k (by omega) ha hk32, by simp⟩
        · cases hx; exact ⟨mk 5 a p (by omega) ha hp, by simp⟩
      · cases hx

section
variable {H : List (Option Blk)} {t : Tb} {V : Value} {ts : List Term}
theorem TbOk.other (h : TbOk H t V ts) (V' : Value) (ts' : List Term) {c : Nat} (h1 : c ≠ t.b) (h2 : c ≠ t.j) (h3 : c ≠ t.m) : (tbOf H t V' ts')[c]? = H[c]? := by
  unfold tbOf
  rw [List.getElem?_set_ne h3.symm, List.getElem?_set_ne h2.symm, List.getElem?_set_ne h1.symm]
/-- The caller's blocks, with another table, and blocks behind them. -/
theorem TbOk.at (h : TbOk H t V ts) (V' : Value) (ts' : List Term) (L : List (Option Blk)) : TbOk (tbOf H t V' ts' ++ L) t V' ts' := (h.of V' ts').app L
theorem TbOk.at_of (h : TbOk H t V ts) (V' V2 : Value) (ts' ts2 : List Term) (L : List (Option Blk)) : tbOf (tbOf H t V' ts' ++ L) t V2 ts2 = tbOf H t V2 ts2 ++ L := by
  rw [(h.of V' ts').of_app, h.of_of]
end

/-- What agreeing comes to, with blocks behind the caller's. -/
def AgAt (H : List (Option Blk)) (t : Tb) (V : Value) (ts : List Term) (L : List (Option Blk)) (o : Option Term) (r : AV) (H' : List (Option Blk)) : Prop :=
  match o with
  | none => r = .tup [keyA zk, .lit (.bool false)] ∧ H' = tbOf H t V ts ++ L
  | some x => r = .tup [keyA (nameK (putN ts x)), .lit (.bool true)] ∧ ∃ V', H' = tbOf H t V' (putT ts x) ++ L
theorem AgAt.ex (H : List (Option Blk)) (t : Tb) (V : Value) (ts : List Term) (L : List (Option Blk)) (o : Option Term) : ∃ r H', AgAt H t V ts L o r H' := by
  cases o with
  | none => exact ⟨_, _, rfl, rfl⟩
  | some x => exact ⟨_, _, rfl, .slice none 0 0, rfl⟩
theorem agree_at {H : List (Option Blk)} {t : Tb} {V0 : Value} {ts0 : List Term} (hh : TbOk H t V0 ts0) {ts : List Term} (hts : TsOk ts) (V : Value) (L : List (Option Blk)) {a p : List UInt8} (ha : a.length = 32) (hp : p.length = 32) :
    XCall Go.Proofs.Try.prog 49 [.ptr t.b t.l 0 [], keyA a, keyA p] (tbOf H t V ts ++ L) (AgAt H t V ts L (agreeX ts a p)) := by
  refine XCall.mono (agree_call (hh.at V ts L) hts ha hp) ?_
  intro r H' h
  unfold AgreeK at h
  unfold AgAt
  cases hx : agreeX ts a p with
  | none => rw [hx] at h; exact h
  | some x =>
    rw [hx] at h
    obtain ⟨h1, V', h2⟩ := h
    exact ⟨h1, V', by rw [h2, hh.at_of]⟩

theorem leH_app : ∀ {A A' B B' : List (Option Blk)}, leH A A' → leH B B' → leH (A ++ B) (A' ++ B')
  | [], [], _, _, _, h => h
  | _ :: _, _ :: _, _, _, h, k => ⟨h.1, leH_app h.2 k⟩

theorem leH_none (x : Option Blk) : ∀ (l : List (Option Blk)) (b : Nat), leH (l.set b x) (l.set b none)
  | [], _ => trivial
  | a :: l, 0 => ⟨.inl rfl, leH_refl l⟩
  | a :: l, b + 1 => ⟨.inr rfl, leH_none x l b⟩
theorem leT_refl : ∀ l : List AV, leT l l
  | [] => trivial
  | _ :: l => ⟨.inr rfl, leT_refl l⟩
/-- A list of the call's own is taken for a list. -/
theorem Le.sealed {s : AS} {t b e esz sl : Nat} {V : Value} {els : List AV} (ht : s.tm[t]? = some (.own b V)) (hb : s.blk b = some (.row e V esz els sl)) : Le s ⟨s.nr, s.tm.set t (.sl esz els), s.hp.set b none⟩ := by
  have hlt : b < s.hp.length := by
    by_cases h : b < s.hp.length
    · exact h
    · unfold AS.blk at hb; rw [List.getElem?_eq_none (by omega)] at hb; cases hb
  have h1 := Le.seals s [b]
  have e1 : s.seals [b] = s.setBlk b (some (.row e V esz els els.length)) := by
    simp only [AS.seals, AS.seal1, hb]
  rw [e1] at h1
  have h2 := Le.unown (s := s.setBlk b (some (.row e V esz els els.length))) (t := t) (b := b) (e := e) (V := V) (esz := esz) (els := els) ht (by simp [AS.setBlk, AS.blk, hlt])
  refine Le.trans h1 (Le.trans h2 (Le.mk rfl (leT_refl _) ?_))
  exact leH_none _ _ _

/-! ### agreed -/
abbrev KK := List UInt8 × List UInt8
def pairA (x : KK) : AV := .st [32, 32] [keyA x.1, keyA x.2]
def agreedG : List Term → List (List UInt8) → List KK → Option (List (List UInt8)) × List Term
  | ts, acc, [] => (some acc, ts)
  | ts, acc, x :: rest => match agreeX ts x.1 x.2 with
    | none => (none, ts)
    | some y => agreedG (putT ts y) (acc ++ [nameK (putN ts y)]) rest
def hello : List UInt8 := [104, 101, 108, 108, 111]
/-- What all pairs agree on, and the table then. -/
def agreedT (ts : List Term) (ps : List KK) : Option (List UInt8) × List Term :=
  match agreedG ts [] ps with
  | (none, ts') => (none, ts')
  | (some l, ts') => (some (nameK (putN ts' ⟨2, hello, l⟩)), putT ts' ⟨2, hello, l⟩)
def optK : Option (List UInt8) → AV
  | none => .tup [keyA zk, .lit (.bool false)]
  | some k => .tup [keyA k, .lit (.bool true)]
def AgreedK (H : List (Option Blk)) (t : Tb) (o : Option (List UInt8) × List Term) (r : AV) (H' : List (Option Blk)) : Prop := r = optK o.1 ∧ ∃ V', H' = tbOf H t V' o.2
theorem AgreedK.ex (H : List (Option Blk)) (t : Tb) (o : Option (List UInt8) × List Term) : ∃ r H', AgreedK H t o r H' := ⟨_, _, rfl, .slice none 0 0, rfl⟩

def agS (N : Nat) (H : List (Option Blk)) (t : Tb) (c : Nat) (Vc : Value) (n : Nat) (l4 : Nat × Nat) (x : Nat × List (List UInt8) × List Term × Value × Value) : AS :=
  ⟨N, [freeI t.b t.l, .own c Vc, .any, .any, .ptr (N + 4) l4 0 [], .lit (.bool false), .own (N + 32) x.2.2.2.1, .any, .any, .any, .any, .own c Vc, .lit (jn n), .lit (jn x.1)] ++ List.replicate 23 .any,
    tbOf H t x.2.2.2.2 x.2.2.1 ++ ([none, none, none, none, some (.box l4 32 (keyA zk))] ++ List.replicate 27 none ++ [some (.row 28 x.2.2.2.1 32 (klA x.2.1) 0)] ++ List.replicate 4 none)⟩

set_option maxHeartbeats 16000000 in
theorem agreed_call {H : List (Option Blk)} {t : Tb} {V : Value} {ts : List Term} (hh : TbOk H t V ts) (hts : TsOk ts) {c sl : Nat} {Vc : Value} {ps : List KK} (hb : c ≠ t.b) (hj : c ≠ t.j) (hm : c ≠ t.m)
    (hc : H[c]? = some (some (.row 55 Vc 64 (ps.map pairA) sl))) (hps : ps.length < 1000) (h32 : ∀ x ∈ ps, x.1.length = 32 ∧ x.2.length = 32) (hlen : ts.length + 2000 < 90000) :
    XCall Go.Proofs.Try.prog 16 [freeI t.b t.l, .own c Vc] H (AgreedK H t (agreedT ts ps)) := by
  have h421 := fc421_eq
  refine XCall.le ?_
  have hself := hh.self
  have lc := (List.getElem?_eq_some_iff.1 hc).1
  have G1 : ∀ V' ts', (tbOf H t V' ts').length = H.length := fun V' ts' => tbOf_len _ _ _ _
  have g1 : ∀ V' ts' L k, (tbOf H t V' ts' ++ L)[H.length + k]? = L[k]? := fun V' ts' L k => cat1 _ _ _ _ (G1 _ _)
  have g2 : ∀ V' ts' L k x, (tbOf H t V' ts' ++ L).set (H.length + k) x = tbOf H t V' ts' ++ L.set k x := fun V' ts' L k x => cat2 _ _ _ _ _ (G1 _ _)
  have gc : ∀ V' ts' L, (tbOf H t V' ts' ++ L)[c]? = some (some (.row 55 Vc 64 (ps.map pairA) sl)) := fun V' ts' L => by rw [cat4 H.length _ _ _ (G1 _ _) lc, hh.other _ _ hb hj hm]; exact hc
  refine XCall.of h421 rfl ?_; show AC.wp _ fb421 ⟨H.length, [freeI t.b t.l, .own c Vc] ++ List.replicate (37 - 2) .any, H ++ List.replicate 37 none⟩ (fun x s => match x with | .exit _ => False | _ => ∃ s1, Le s s1 ∧ FinX [(.cell 4 .true 32), (.tmp 5)] s1 _); unfold fb421
  rw [← hself]
  have hag := fun ts' (h : TsOk ts') V' L a p ha hp => agree_at hh h V' L (a := a) (p := p) ha hp
  rw [tbOf_len]
  generalize hN : H.length = N at *
  refine wp_sg (areg_al' zk_eq.symm fun l4 => areg_end (by simp [runPre, AOp.ex, AOp.ex0, ex_mov, ex_bin, binA_lit, ex_cvt, ex_iaddrA, ex_iaddrS, ex_faddr, ex_load, ldA, ex_ext, ex_add64, add64A_un, ex_pick, ex_beq, ex_un, ex_len, lenA_sl, lenA_nil, lenA_str, lenA_own, lenRow_row, elA_own, elA_sl, elRow_row, ex_nilc, ex_build, ex_bslice, ex_fieldv, AOp.ro, AS.ev, AS.put, AS.fieldAddr, idxA_ptr, idxA_cptr, AS.peek, AS.poke, AS.blk, AS.setBlk, AV.nav, AV.upd, Blk.loc, Blk.cont, Blk.n, Blk.may, Blk.upd, AV.isAgg, AV.isTup, AV.sz, unVal, ownOk, fillAV, AV.sub, cvt_64j, cvt_64b, cvt_64w, cvt_8u, cvt_8w, bin_add64, bin_mul64, bin_sub64, bin_and51, bin_and32, bin_and1, bin_and8_1, bin_or64, bin_xor64, bin_or8, bin_shl64, bin_shl64j, bin_shr64, bin_shr64j, bin_shl8j, bin_shr8j, bin_quo64, bin_rem64, bin_quo32, bin_rem32, bin_addj, bin_subj, bin_quoj, bin_remj, bin_eqlj, bin_neqj, bin_lssj, bin_leqj, bin_gtrj, bin_geqj, bin_eql64, bin_lss64, bin_gtr64, bin_eql8, bin_rem8, lenA_tx, ex_prim, primA_some, AS.lits, prim_ix, prim_sub, prim_sub2, prim_min, prim_ib, ex_b2s, textOf_eq, textA_sl, textA_nil, lend_own, lendRow_row, lend_sl, lend_lit, bin_adds, bin_eqls, bin_neqs, bin_geq8, bin_leq8, bin_lss8, bin_gtr8, bin_neq8, bin_sub8, bin_quo8, bin_add8, bin_mulj, cvt_j8, cvt_8j, AOp.mineB, AV.place, ex_rdp, ex_rd, rdB, bnds, efF, bin_shrju, bin_shlju, listB_tx, listB_sl, listB_nil, ex_tups, bound_jn, AV.isText, keyA_arr, bl_len, zk_len, nameK_len, g2]; exact rfl) ?_)
  refine wp_sr (by simp [runPre, AOp.ex, AOp.ex0, ex_mov, ex_bin, binA_lit, ex_cvt, ex_iaddrA, ex_iaddrS, ex_faddr, ex_load, ldA, ex_ext, ex_add64, add64A_un, ex_pick, ex_beq, ex_un, ex_len, lenA_sl, lenA_nil, lenA_str, lenA_own, lenRow_row, elA_own, elA_sl, elRow_row, ex_nilc, ex_build, ex_bslice, ex_fieldv, AOp.ro, AS.ev, AS.put, AS.fieldAddr, idxA_ptr, idxA_cptr, AS.peek, AS.poke, AS.blk, AS.setBlk, AV.nav, AV.upd, Blk.loc, Blk.cont, Blk.n, Blk.may, Blk.upd, AV.isAgg, AV.isTup, AV.sz, unVal, ownOk, fillAV, AV.sub, cvt_64j, cvt_64b, cvt_64w, cvt_8u, cvt_8w, bin_add64, bin_mul64, bin_sub64, bin_and51, bin_and32, bin_and1, bin_and8_1, bin_or64, bin_xor64, bin_or8, bin_shl64, bin_shl64j, bin_shr64, bin_shr64j, bin_shl8j, bin_shr8j, bin_quo64, bin_rem64, bin_quo32, bin_rem32, bin_addj, bin_subj, bin_quoj, bin_remj, bin_eqlj, bin_neqj, bin_lssj, bin_leqj, bin_gtrj, bin_geqj, bin_eql64, bin_lss64, bin_gtr64, bin_eql8, bin_rem8, lenA_tx, ex_prim, primA_some, AS.lits, prim_ix, prim_sub, prim_sub2, prim_min, prim_ib, ex_b2s, textOf_eq, textA_sl, textA_nil, lend_own, lendRow_row, lend_sl, lend_lit, bin_adds, bin_eqls, bin_neqs, bin_geq8, bin_leq8, bin_lss8, bin_gtr8, bin_neq8, bin_sub8, bin_quo8, bin_add8, bin_mulj, cvt_j8, cvt_8j, AOp.mineB, AV.place, ex_rdp, ex_rd, rdB, bnds, efF, bin_shrju, bin_shlju, listB_tx, listB_sl, listB_nil, ex_tups, bound_jn, AV.isText, keyA_arr, bl_len, zk_len, nameK_len]; exact rfl) ?_
  refine wp_seqL (wp_seq' (wp_r (by simp [runPre, AOp.ex, AOp.ex0, ex_mov, ex_bin, binA_lit, ex_cvt, ex_iaddrA, ex_iaddrS, ex_faddr, ex_load, ldA, ex_ext, ex_add64, add64A_un, ex_pick, ex_beq, ex_un, ex_len, lenA_sl, lenA_nil, lenA_str, lenA_own, lenRow_row, elA_own, elA_sl, elRow_row, ex_nilc, ex_build, ex_bslice, ex_fieldv, AOp.ro, AS.ev, AS.put, AS.fieldAddr, idxA_ptr, idxA_cptr, AS.peek, AS.poke, AS.blk, AS.setBlk, AV.nav, AV.upd, Blk.loc, Blk.cont, Blk.n, Blk.may, Blk.upd, AV.isAgg, AV.isTup, AV.sz, unVal, ownOk, fillAV, AV.sub, cvt_64j, cvt_64b, cvt_64w, cvt_8u, cvt_8w, bin_add64, bin_mul64, bin_sub64, bin_and51, bin_and32, bin_and1, bin_and8_1, bin_or64, bin_xor64, bin_or8, bin_shl64, bin_shl64j, bin_shr64, bin_shr64j, bin_shl8j, bin_shr8j, bin_quo64, bin_rem64, bin_quo32, bin_rem32, bin_addj, bin_subj, bin_quoj, bin_remj, bin_eqlj, bin_neqj, bin_lssj, bin_leqj, bin_gtrj, bin_geqj, bin_eql64, bin_lss64, bin_gtr64, bin_eql8, bin_rem8, lenA_tx, ex_prim, primA_some, AS.lits, prim_ix, prim_sub, prim_sub2, prim_min, prim_ib, ex_b2s, textOf_eq, textA_sl, textA_nil, lend_own, lendRow_row, lend_sl, lend_lit, bin_adds, bin_eqls, bin_neqs, bin_geq8, bin_leq8, bin_lss8, bin_gtr8, bin_neq8, bin_sub8, bin_quo8, bin_add8, bin_mulj, cvt_j8, cvt_8j, AOp.mineB, AV.place, ex_rdp, ex_rd, rdB, bnds, efF, bin_shrju, bin_shlju, listB_tx, listB_sl, listB_nil, ex_tups, bound_jn, AV.isText, keyA_arr, bl_len, zk_len, nameK_len, gc]; exact rfl) ?_))
  refine wp_block' (wp_loop_m (agS N H t c Vc ps.length l4) (fun x => ps.length - x.1) (fun x => agreedG x.2.2.1 x.2.1 (ps.drop x.1) = agreedG ts [] ps ∧ x.1 ≤ ps.length ∧ TsOk x.2.2.1 ∧ x.2.2.1.length + (ps.length - x.1) + 1000 < 90000 ∧ x.2.1.length = x.1 ∧ ∀ k ∈ x.2.1, k.length = 32) (0, [], ts, .slice none 0 0, V) ?_ ⟨rfl, by simp, hts, by simp; omega, rfl, by simp⟩ ?_)
  · refine Le.trans (Le.nilRow (t := 6) (b := N + 32) rfl (by simp only [AS.blk, g1]; rfl) 28 32) (Le.mk rfl (by simp [agS, leT]) ?_)
    simp only [g2, agS]
    exact leH_app (leH_refl _) (by simp [leH, klA, keyA])
  · rintro ⟨i, acc, ts1, Vr, Vt⟩ ⟨hI, hi, hok, hlen1, hacc, h32a⟩
    simp only at hI hi hok hlen1 hacc h32a ⊢
    unfold agS
    simp only
    by_cases hlt : i < ps.length
    · obtain ⟨⟨a, p⟩, hp⟩ : ∃ x, ps[i]? = some x := ⟨_, List.getElem?_eq_getElem hlt⟩
      have hdrop : ps.drop i = (a, p) :: ps.drop (i + 1) := by
        rw [List.drop_eq_getElem_cons hlt]
        rw [List.getElem?_eq_getElem hlt] at hp
        rw [Option.some.inj hp]
      rw [hdrop, agreedG] at hI
      simp only at hI
      obtain ⟨ha, hp32⟩ := h32 _ (List.mem_of_getElem? hp)
      simp only at ha hp32
      have gp : (ps.map pairA)[i]? = some (.st [32, 32] [keyA a, keyA p]) := by rw [List.getElem?_map, hp]; rfl
      have gp' : ∀ h, (ps.map pairA)[i]'h = .st [32, 32] [keyA a, keyA p] := fun h => by rw [List.getElem?_eq_getElem h] at gp; exact Option.some.inj gp
      have gl : (ps.map pairA).length = ps.length := List.length_map _
      generalize ps.map pairA = T at *
      refine wp_sr (by simp [runPre, AOp.ex, AOp.ex0, ex_mov, ex_bin, binA_lit, ex_cvt, ex_iaddrA, ex_iaddrS, ex_faddr, ex_load, ldA, ex_ext, ex_add64, add64A_un, ex_pick, ex_beq, ex_un, ex_len, lenA_sl, lenA_nil, lenA_str, lenA_own, lenRow_row, elA_own, elA_sl, elRow_row, ex_nilc, ex_build, ex_bslice, ex_fieldv, AOp.ro, AS.ev, AS.put, AS.fieldAddr, idxA_ptr, idxA_cptr, AS.peek, AS.poke, AS.blk, AS.setBlk, AV.nav, AV.upd, Blk.loc, Blk.cont, Blk.n, Blk.may, Blk.upd, AV.isAgg, AV.isTup, AV.sz, unVal, ownOk, fillAV, AV.sub, cvt_64j, cvt_64b, cvt_64w, cvt_8u, cvt_8w, bin_add64, bin_mul64, bin_sub64, bin_and51, bin_and32, bin_and1, bin_and8_1, bin_or64, bin_xor64, bin_or8, bin_shl64, bin_shl64j, bin_shr64, bin_shr64j, bin_shl8j, bin_shr8j, bin_quo64, bin_rem64, bin_quo32, bin_rem32, bin_addj, bin_subj, bin_quoj, bin_remj, bin_eqlj, bin_neqj, bin_lssj, bin_leqj, bin_gtrj, bin_geqj, bin_eql64, bin_lss64, bin_gtr64, bin_eql8, bin_rem8, lenA_tx, ex_prim, primA_some, AS.lits, prim_ix, prim_sub, prim_sub2, prim_min, prim_ib, ex_b2s, textOf_eq, textA_sl, textA_nil, lend_own, lendRow_row, lend_sl, lend_lit, bin_adds, bin_eqls, bin_neqs, bin_geq8, bin_leq8, bin_lss8, bin_gtr8, bin_neq8, bin_sub8, bin_quo8, bin_add8, bin_mulj, cvt_j8, cvt_8j, AOp.mineB, AV.place, ex_rdp, ex_rd, rdB, bnds, efF, bin_shrju, bin_shlju, listB_tx, listB_sl, listB_nil, ex_tups, bound_jn, AV.isText, keyA_arr, bl_len, zk_len, nameK_len, hlt]; exact rfl) (wp_seq' (wp_cond_t (by simp [AS.ev]) (wp_skip' ?_)))
      refine wp_seq' (wp_block' (wp_sg ?_))
      refine areg_run 2 (by simp [runPre, AOp.ex, AOp.ex0, ex_mov, ex_bin, binA_lit, ex_cvt, ex_iaddrA, ex_iaddrS, ex_faddr, ex_load, ldA, ex_ext, ex_add64, add64A_un, ex_pick, ex_beq, ex_un, ex_len, lenA_sl, lenA_nil, lenA_str, lenA_own, lenRow_row, elA_own, elA_sl, elRow_row, ex_nilc, ex_build, ex_bslice, ex_fieldv, AOp.ro, AS.ev, AS.put, AS.fieldAddr, idxA_ptr, idxA_cptr, AS.peek, AS.poke, AS.blk, AS.setBlk, AV.nav, AV.upd, Blk.loc, Blk.cont, Blk.n, Blk.may, Blk.upd, AV.isAgg, AV.isTup, AV.sz, unVal, ownOk, fillAV, AV.sub, cvt_64j, cvt_64b, cvt_64w, cvt_8u, cvt_8w, bin_add64, bin_mul64, bin_sub64, bin_and51, bin_and32, bin_and1, bin_and8_1, bin_or64, bin_xor64, bin_or8, bin_shl64, bin_shl64j, bin_shr64, bin_shr64j, bin_shl8j, bin_shr8j, bin_quo64, bin_rem64, bin_quo32, bin_rem32, bin_addj, bin_subj, bin_quoj, bin_remj, bin_eqlj, bin_neqj, bin_lssj, bin_leqj, bin_gtrj, bin_geqj, bin_eql64, bin_lss64, bin_gtr64, bin_eql8, bin_rem8, lenA_tx, ex_prim, primA_some, AS.lits, prim_ix, prim_sub, prim_sub2, prim_min, prim_ib, ex_b2s, textOf_eq, textA_sl, textA_nil, lend_own, lendRow_row, lend_sl, lend_lit, bin_adds, bin_eqls, bin_neqs, bin_geq8, bin_leq8, bin_lss8, bin_gtr8, bin_neq8, bin_sub8, bin_quo8, bin_add8, bin_mulj, cvt_j8, cvt_8j, AOp.mineB, AV.place, ex_rdp, ex_rd, rdB, bnds, efF, bin_shrju, bin_shlju, listB_tx, listB_sl, listB_nil, ex_tups, bound_jn, AV.isText, keyA_arr, bl_len, zk_len, nameK_len, gc, gp, gp', gl, hlt]; exact rfl) ?_
      refine areg_al' (z' := .st [32, 32] [keyA zk, keyA zk]) (by rw [zk_eq]) fun l8 => areg_end (by simp [runPre, AOp.ex, AOp.ex0, ex_mov, ex_bin, binA_lit, ex_cvt, ex_iaddrA, ex_iaddrS, ex_faddr, ex_load, ldA, ex_ext, ex_add64, add64A_un, ex_pick, ex_beq, ex_un, ex_len, lenA_sl, lenA_nil, lenA_str, lenA_own, lenRow_row, elA_own, elA_sl, elRow_row, ex_nilc, ex_build, ex_bslice, ex_fieldv, AOp.ro, AS.ev, AS.put, AS.fieldAddr, idxA_ptr, idxA_cptr, AS.peek, AS.poke, AS.blk, AS.setBlk, AV.nav, AV.upd, Blk.loc, Blk.cont, Blk.n, Blk.may, Blk.upd, AV.isAgg, AV.isTup, AV.sz, unVal, ownOk, fillAV, AV.sub, cvt_64j, cvt_64b, cvt_64w, cvt_8u, cvt_8w, bin_add64, bin_mul64, bin_sub64, bin_and51, bin_and32, bin_and1, bin_and8_1, bin_or64, bin_xor64, bin_or8, bin_shl64, bin_shl64j, bin_shr64, bin_shr64j, bin_shl8j, bin_shr8j, bin_quo64, bin_rem64, bin_quo32, bin_rem32, bin_addj, bin_subj, bin_quoj, bin_remj, bin_eqlj, bin_neqj, bin_lssj, bin_leqj, bin_gtrj, bin_geqj, bin_eql64, bin_lss64, bin_gtr64, bin_eql8, bin_rem8, lenA_tx, ex_prim, primA_some, AS.lits, prim_ix, prim_sub, prim_sub2, prim_min, prim_ib, ex_b2s, textOf_eq, textA_sl, textA_nil, lend_own, lendRow_row, lend_sl, lend_lit, bin_adds, bin_eqls, bin_neqs, bin_geq8, bin_leq8, bin_lss8, bin_gtr8, bin_neq8, bin_sub8, bin_quo8, bin_add8, bin_mulj, cvt_j8, cvt_8j, AOp.mineB, AV.place, ex_rdp, ex_rd, rdB, bnds, efF, bin_shrju, bin_shlju, listB_tx, listB_sl, listB_nil, ex_tups, bound_jn, AV.isText, keyA_arr, bl_len, zk_len, nameK_len, g1, g2, ha, hp32]; exact rfl) ?_
      refine wp_sg ?_
      refine areg_run 5 (by simp [runPre, AOp.ex, AOp.ex0, ex_mov, ex_bin, binA_lit, ex_cvt, ex_iaddrA, ex_iaddrS, ex_faddr, ex_load, ldA, ex_ext, ex_add64, add64A_un, ex_pick, ex_beq, ex_un, ex_len, lenA_sl, lenA_nil, lenA_str, lenA_own, lenRow_row, elA_own, elA_sl, elRow_row, ex_nilc, ex_build, ex_bslice, ex_fieldv, AOp.ro, AS.ev, AS.put, AS.fieldAddr, idxA_ptr, idxA_cptr, AS.peek, AS.poke, AS.blk, AS.setBlk, AV.nav, AV.upd, Blk.loc, Blk.cont, Blk.n, Blk.may, Blk.upd, AV.isAgg, AV.isTup, AV.sz, unVal, ownOk, fillAV, AV.sub, cvt_64j, cvt_64b, cvt_64w, cvt_8u, cvt_8w, bin_add64, bin_mul64, bin_sub64, bin_and51, bin_and32, bin_and1, bin_and8_1, bin_or64, bin_xor64, bin_or8, bin_shl64, bin_shl64j, bin_shr64, bin_shr64j, bin_shl8j, bin_shr8j, bin_quo64, bin_rem64, bin_quo32, bin_rem32, bin_addj, bin_subj, bin_quoj, bin_remj, bin_eqlj, bin_neqj, bin_lssj, bin_leqj, bin_gtrj, bin_geqj, bin_eql64, bin_lss64, bin_gtr64, bin_eql8, bin_rem8, lenA_tx, ex_prim, primA_some, AS.lits, prim_ix, prim_sub, prim_sub2, prim_min, prim_ib, ex_b2s, textOf_eq, textA_sl, textA_nil, lend_own, lendRow_row, lend_sl, lend_lit, bin_adds, bin_eqls, bin_neqs, bin_geq8, bin_leq8, bin_lss8, bin_gtr8, bin_neq8, bin_sub8, bin_quo8, bin_add8, bin_mulj, cvt_j8, cvt_8j, AOp.mineB, AV.place, ex_rdp, ex_rd, rdB, bnds, efF, bin_shrju, bin_shlju, listB_tx, listB_sl, listB_nil, ex_tups, bound_jn, AV.isText, keyA_arr, bl_len, zk_len, nameK_len, g1, g2, ha, hp32]; exact rfl) ?_
      refine areg_xq (us := [freeI t.b t.l, keyA a, keyA p]) rfl (tgt_agree _ _ _ _) (hag ts1 hok Vt _ a p ha hp32) (AgAt.ex _ _ _ _ _ _) (fun r hp' _ t' ht' => by cases ht') ?_
      intro r H' hK
      have hokx := fun x hx => agreeX_ok hok ha hp32 (x := x) hx
      generalize agreeX ts1 a p = o at *
      cases o with
      | none =>
        obtain ⟨rfl, rfl⟩ := hK
        simp only at hI
        refine areg_run 3 (by simp [runPre, AOp.ex, AOp.ex0, ex_mov, ex_bin, binA_lit, ex_cvt, ex_iaddrA, ex_iaddrS, ex_faddr, ex_load, ldA, ex_ext, ex_add64, add64A_un, ex_pick, ex_beq, ex_un, ex_len, lenA_sl, lenA_nil, lenA_str, lenA_own, lenRow_row, elA_own, elA_sl, elRow_row, ex_nilc, ex_build, ex_bslice, ex_fieldv, AOp.ro, AS.ev, AS.put, AS.fieldAddr, idxA_ptr, idxA_cptr, AS.peek, AS.poke, AS.blk, AS.setBlk, AV.nav, AV.upd, Blk.loc, Blk.cont, Blk.n, Blk.may, Blk.upd, AV.isAgg, AV.isTup, AV.sz, unVal, ownOk, fillAV, AV.sub, cvt_64j, cvt_64b, cvt_64w, cvt_8u, cvt_8w, bin_add64, bin_mul64, bin_sub64, bin_and51, bin_and32, bin_and1, bin_and8_1, bin_or64, bin_xor64, bin_or8, bin_shl64, bin_shl64j, bin_shr64, bin_shr64j, bin_shl8j, bin_shr8j, bin_quo64, bin_rem64, bin_quo32, bin_rem32, bin_addj, bin_subj, bin_quoj, bin_remj, bin_eqlj, bin_neqj, bin_lssj, bin_leqj, bin_gtrj, bin_geqj, bin_eql64, bin_lss64, bin_gtr64, bin_eql8, bin_rem8, lenA_tx, ex_prim, primA_some, AS.lits, prim_ix, prim_sub, prim_sub2, prim_min, prim_ib, ex_b2s, textOf_eq, textA_sl, textA_nil, lend_own, lendRow_row, lend_sl, lend_lit, bin_adds, bin_eqls, bin_neqs, bin_geq8, bin_leq8, bin_lss8, bin_gtr8, bin_neq8, bin_sub8, bin_quo8, bin_add8, bin_mulj, cvt_j8, cvt_8j, AOp.mineB, AV.place, ex_rdp, ex_rd, rdB, bnds, efF, bin_shrju, bin_shlju, listB_tx, listB_sl, listB_nil, ex_tups, bound_jn, AV.isText, keyA_arr, bl_len, zk_len, nameK_len]; exact rfl) ?_
        refine areg_al' zk_eq.symm fun l9 => areg_end (by simp [runPre, AOp.ex, AOp.ex0, ex_mov, ex_bin, binA_lit, ex_cvt, ex_iaddrA, ex_iaddrS, ex_faddr, ex_load, ldA, ex_ext, ex_add64, add64A_un, ex_pick, ex_beq, ex_un, ex_len, lenA_sl, lenA_nil, lenA_str, lenA_own, lenRow_row, elA_own, elA_sl, elRow_row, ex_nilc, ex_build, ex_bslice, ex_fieldv, AOp.ro, AS.ev, AS.put, AS.fieldAddr, idxA_ptr, idxA_cptr, AS.peek, AS.poke, AS.blk, AS.setBlk, AV.nav, AV.upd, Blk.loc, Blk.cont, Blk.n, Blk.may, Blk.upd, AV.isAgg, AV.isTup, AV.sz, unVal, ownOk, fillAV, AV.sub, cvt_64j, cvt_64b, cvt_64w, cvt_8u, cvt_8w, bin_add64, bin_mul64, bin_sub64, bin_and51, bin_and32, bin_and1, bin_and8_1, bin_or64, bin_xor64, bin_or8, bin_shl64, bin_shl64j, bin_shr64, bin_shr64j, bin_shl8j, bin_shr8j, bin_quo64, bin_rem64, bin_quo32, bin_rem32, bin_addj, bin_subj, bin_quoj, bin_remj, bin_eqlj, bin_neqj, bin_lssj, bin_leqj, bin_gtrj, bin_geqj, bin_eql64, bin_lss64, bin_gtr64, bin_eql8, bin_rem8, lenA_tx, ex_prim, primA_some, AS.lits, prim_ix, prim_sub, prim_sub2, prim_min, prim_ib, ex_b2s, textOf_eq, textA_sl, textA_nil, lend_own, lendRow_row, lend_sl, lend_lit, bin_adds, bin_eqls, bin_neqs, bin_geq8, bin_leq8, bin_lss8, bin_gtr8, bin_neq8, bin_sub8, bin_quo8, bin_add8, bin_mulj, cvt_j8, cvt_8j, AOp.mineB, AV.place, ex_rdp, ex_rd, rdB, bnds, efF, bin_shrju, bin_shlju, listB_tx, listB_sl, listB_nil, ex_tups, bound_jn, AV.isText, keyA_arr, bl_len, zk_len, nameK_len, g1, g2]; exact rfl) ?_
        refine wp_seq' (wp_seq' (wp_r (by simp [runPre, AOp.ex, AOp.ex0, ex_mov, ex_bin, binA_lit, ex_cvt, ex_iaddrA, ex_iaddrS, ex_faddr, ex_load, ldA, ex_ext, ex_add64, add64A_un, ex_pick, ex_beq, ex_un, ex_len, lenA_sl, lenA_nil, lenA_str, lenA_own, lenRow_row, elA_own, elA_sl, elRow_row, ex_nilc, ex_build, ex_bslice, ex_fieldv, AOp.ro, AS.ev, AS.put, AS.fieldAddr, idxA_ptr, idxA_cptr, AS.peek, AS.poke, AS.blk, AS.setBlk, AV.nav, AV.upd, Blk.loc, Blk.cont, Blk.n, Blk.may, Blk.upd, AV.isAgg, AV.isTup, AV.sz, unVal, ownOk, fillAV, AV.sub, cvt_64j, cvt_64b, cvt_64w, cvt_8u, cvt_8w, bin_add64, bin_mul64, bin_sub64, bin_and51, bin_and32, bin_and1, bin_and8_1, bin_or64, bin_xor64, bin_or8, bin_shl64, bin_shl64j, bin_shr64, bin_shr64j, bin_shl8j, bin_shr8j, bin_quo64, bin_rem64, bin_quo32, bin_rem32, bin_addj, bin_subj, bin_quoj, bin_remj, bin_eqlj, bin_neqj, bin_lssj, bin_leqj, bin_gtrj, bin_geqj, bin_eql64, bin_lss64, bin_gtr64, bin_eql8, bin_rem8, lenA_tx, ex_prim, primA_some, AS.lits, prim_ix, prim_sub, prim_sub2, prim_min, prim_ib, ex_b2s, textOf_eq, textA_sl, textA_nil, lend_own, lendRow_row, lend_sl, lend_lit, bin_adds, bin_eqls, bin_neqs, bin_geq8, bin_leq8, bin_lss8, bin_gtr8, bin_neq8, bin_sub8, bin_quo8, bin_add8, bin_mulj, cvt_j8, cvt_8j, AOp.mineB, AV.place, ex_rdp, ex_rd, rdB, bnds, efF, bin_shrju, bin_shlju, listB_tx, listB_sl, listB_nil, ex_tups, bound_jn, AV.isText, keyA_arr, bl_len, zk_len, nameK_len]; exact rfl) (wp_cond_t rfl (wp_seq' (wp_rg ?_)))))
        refine areg_bz (areg_end (by simp [runPre, AOp.ex, AOp.ex0, ex_mov, ex_bin, binA_lit, ex_cvt, ex_iaddrA, ex_iaddrS, ex_faddr, ex_load, ldA, ex_ext, ex_add64, add64A_un, ex_pick, ex_beq, ex_un, ex_len, lenA_sl, lenA_nil, lenA_str, lenA_own, lenRow_row, elA_own, elA_sl, elRow_row, ex_nilc, ex_build, ex_bslice, ex_fieldv, AOp.ro, AS.ev, AS.put, AS.fieldAddr, idxA_ptr, idxA_cptr, AS.peek, AS.poke, AS.blk, AS.setBlk, AV.nav, AV.upd, Blk.loc, Blk.cont, Blk.n, Blk.may, Blk.upd, AV.isAgg, AV.isTup, AV.sz, unVal, ownOk, fillAV, AV.sub, cvt_64j, cvt_64b, cvt_64w, cvt_8u, cvt_8w, bin_add64, bin_mul64, bin_sub64, bin_and51, bin_and32, bin_and1, bin_and8_1, bin_or64, bin_xor64, bin_or8, bin_shl64, bin_shl64j, bin_shr64, bin_shr64j, bin_shl8j, bin_shr8j, bin_quo64, bin_rem64, bin_quo32, bin_rem32, bin_addj, bin_subj, bin_quoj, bin_remj, bin_eqlj, bin_neqj, bin_lssj, bin_leqj, bin_gtrj, bin_geqj, bin_eql64, bin_lss64, bin_gtr64, bin_eql8, bin_rem8, lenA_tx, ex_prim, primA_some, AS.lits, prim_ix, prim_sub, prim_sub2, prim_min, prim_ib, ex_b2s, textOf_eq, textA_sl, textA_nil, lend_own, lendRow_row, lend_sl, lend_lit, bin_adds, bin_eqls, bin_neqs, bin_geq8, bin_leq8, bin_lss8, bin_gtr8, bin_neq8, bin_sub8, bin_quo8, bin_add8, bin_mulj, cvt_j8, cvt_8j, AOp.mineB, AV.place, ex_rdp, ex_rd, rdB, bnds, efF, bin_shrju, bin_shlju, listB_tx, listB_sl, listB_nil, ex_tups, bound_jn, AV.isText, keyA_arr, bl_len, zk_len, nameK_len, g1, g2]; exact rfl) (wp_ret' ?_))
        have hat : agreedT ts ps = (none, ts1) := by unfold agreedT; rw [← hI]
        rw [hat]
        exact ⟨_, Le.refl _, [], _, ⟨_, rfl, by simp [AS.seals, RVals, RVal, AS.ev, AS.peek, AS.blk, g1, Blk.loc, Blk.cont, Blk.n, AV.nav, AV.isAgg, AV.isTup, AS.coe]; rfl, by simp [keyA]⟩, optK none, _, RelLe.refl _, by simp [optK], HpLe.trim _ _, rfl, Vt, (hh.of_of _ _ _ _).symm⟩
      | some y =>
        obtain ⟨rfl, Vt', rfl⟩ := hK
        simp only at hI
        obtain ⟨hy1, hy2⟩ := hokx y rfl
        have hlen2 := putT_len ts1 y
        generalize hkk : nameK (putN ts1 y) = kk at *
        have hk32 : kk.length = 32 := by rw [← hkk]; exact nameK_len _
        have q1 : i + 1 < 9223372036854775808 := by omega
        refine areg_run 3 (by simp [runPre, AOp.ex, AOp.ex0, ex_mov, ex_bin, binA_lit, ex_cvt, ex_iaddrA, ex_iaddrS, ex_faddr, ex_load, ldA, ex_ext, ex_add64, add64A_un, ex_pick, ex_beq, ex_un, ex_len, lenA_sl, lenA_nil, lenA_str, lenA_own, lenRow_row, elA_own, elA_sl, elRow_row, ex_nilc, ex_build, ex_bslice, ex_fieldv, AOp.ro, AS.ev, AS.put, AS.fieldAddr, idxA_ptr, idxA_cptr, AS.peek, AS.poke, AS.blk, AS.setBlk, AV.nav, AV.upd, Blk.loc, Blk.cont, Blk.n, Blk.may, Blk.upd, AV.isAgg, AV.isTup, AV.sz, unVal, ownOk, fillAV, AV.sub, cvt_64j, cvt_64b, cvt_64w, cvt_8u, cvt_8w, bin_add64, bin_mul64, bin_sub64, bin_and51, bin_and32, bin_and1, bin_and8_1, bin_or64, bin_xor64, bin_or8, bin_shl64, bin_shl64j, bin_shr64, bin_shr64j, bin_shl8j, bin_shr8j, bin_quo64, bin_rem64, bin_quo32, bin_rem32, bin_addj, bin_subj, bin_quoj, bin_remj, bin_eqlj, bin_neqj, bin_lssj, bin_leqj, bin_gtrj, bin_geqj, bin_eql64, bin_lss64, bin_gtr64, bin_eql8, bin_rem8, lenA_tx, ex_prim, primA_some, AS.lits, prim_ix, prim_sub, prim_sub2, prim_min, prim_ib, ex_b2s, textOf_eq, textA_sl, textA_nil, lend_own, lendRow_row, lend_sl, lend_lit, bin_adds, bin_eqls, bin_neqs, bin_geq8, bin_leq8, bin_lss8, bin_gtr8, bin_neq8, bin_sub8, bin_quo8, bin_add8, bin_mulj, cvt_j8, cvt_8j, AOp.mineB, AV.place, ex_rdp, ex_rd, rdB, bnds, efF, bin_shrju, bin_shlju, listB_tx, listB_sl, listB_nil, ex_tups, bound_jn, AV.isText, keyA_arr, bl_len, zk_len, nameK_len]; exact rfl) ?_
        refine areg_al' zk_eq.symm fun l9 => areg_end (by simp [runPre, AOp.ex, AOp.ex0, ex_mov, ex_bin, binA_lit, ex_cvt, ex_iaddrA, ex_iaddrS, ex_faddr, ex_load, ldA, ex_ext, ex_add64, add64A_un, ex_pick, ex_beq, ex_un, ex_len, lenA_sl, lenA_nil, lenA_str, lenA_own, lenRow_row, elA_own, elA_sl, elRow_row, ex_nilc, ex_build, ex_bslice, ex_fieldv, AOp.ro, AS.ev, AS.put, AS.fieldAddr, idxA_ptr, idxA_cptr, AS.peek, AS.poke, AS.blk, AS.setBlk, AV.nav, AV.upd, Blk.loc, Blk.cont, Blk.n, Blk.may, Blk.upd, AV.isAgg, AV.isTup, AV.sz, unVal, ownOk, fillAV, AV.sub, cvt_64j, cvt_64b, cvt_64w, cvt_8u, cvt_8w, bin_add64, bin_mul64, bin_sub64, bin_and51, bin_and32, bin_and1, bin_and8_1, bin_or64, bin_xor64, bin_or8, bin_shl64, bin_shl64j, bin_shr64, bin_shr64j, bin_shl8j, bin_shr8j, bin_quo64, bin_rem64, bin_quo32, bin_rem32, bin_addj, bin_subj, bin_quoj, bin_remj, bin_eqlj, bin_neqj, bin_lssj, bin_leqj, bin_gtrj, bin_geqj, bin_eql64, bin_lss64, bin_gtr64, bin_eql8, bin_rem8, lenA_tx, ex_prim, primA_some, AS.lits, prim_ix, prim_sub, prim_sub2, prim_min, prim_ib, ex_b2s, textOf_eq, textA_sl, textA_nil, lend_own, lendRow_row, lend_sl, lend_lit, bin_adds, bin_eqls, bin_neqs, bin_geq8, bin_leq8, bin_lss8, bin_gtr8, bin_neq8, bin_sub8, bin_quo8, bin_add8, bin_mulj, cvt_j8, cvt_8j, AOp.mineB, AV.place, ex_rdp, ex_rd, rdB, bnds, efF, bin_shrju, bin_shlju, listB_tx, listB_sl, listB_nil, ex_tups, bound_jn, AV.isText, keyA_arr, bl_len, zk_len, nameK_len, g1, g2, hk32]; exact rfl) ?_
        refine wp_seq' (wp_seq' (wp_r (by simp [runPre, AOp.ex, AOp.ex0, ex_mov, ex_bin, binA_lit, ex_cvt, ex_iaddrA, ex_iaddrS, ex_faddr, ex_load, ldA, ex_ext, ex_add64, add64A_un, ex_pick, ex_beq, ex_un, ex_len, lenA_sl, lenA_nil, lenA_str, lenA_own, lenRow_row, elA_own, elA_sl, elRow_row, ex_nilc, ex_build, ex_bslice, ex_fieldv, AOp.ro, AS.ev, AS.put, AS.fieldAddr, idxA_ptr, idxA_cptr, AS.peek, AS.poke, AS.blk, AS.setBlk, AV.nav, AV.upd, Blk.loc, Blk.cont, Blk.n, Blk.may, Blk.upd, AV.isAgg, AV.isTup, AV.sz, unVal, ownOk, fillAV, AV.sub, cvt_64j, cvt_64b, cvt_64w, cvt_8u, cvt_8w, bin_add64, bin_mul64, bin_sub64, bin_and51, bin_and32, bin_and1, bin_and8_1, bin_or64, bin_xor64, bin_or8, bin_shl64, bin_shl64j, bin_shr64, bin_shr64j, bin_shl8j, bin_shr8j, bin_quo64, bin_rem64, bin_quo32, bin_rem32, bin_addj, bin_subj, bin_quoj, bin_remj, bin_eqlj, bin_neqj, bin_lssj, bin_leqj, bin_gtrj, bin_geqj, bin_eql64, bin_lss64, bin_gtr64, bin_eql8, bin_rem8, lenA_tx, ex_prim, primA_some, AS.lits, prim_ix, prim_sub, prim_sub2, prim_min, prim_ib, ex_b2s, textOf_eq, textA_sl, textA_nil, lend_own, lendRow_row, lend_sl, lend_lit, bin_adds, bin_eqls, bin_neqs, bin_geq8, bin_leq8, bin_lss8, bin_gtr8, bin_neq8, bin_sub8, bin_quo8, bin_add8, bin_mulj, cvt_j8, cvt_8j, AOp.mineB, AV.place, ex_rdp, ex_rd, rdB, bnds, efF, bin_shrju, bin_shlju, listB_tx, listB_sl, listB_nil, ex_tups, bound_jn, AV.isText, keyA_arr, bl_len, zk_len, nameK_len]; exact rfl) (wp_cond_f rfl (wp_skip' ?_))))
        refine wp_rg ?_
        refine areg_run 3 (by simp [runPre, AOp.ex, AOp.ex0, ex_mov, ex_bin, binA_lit, ex_cvt, ex_iaddrA, ex_iaddrS, ex_faddr, ex_load, ldA, ex_ext, ex_add64, add64A_un, ex_pick, ex_beq, ex_un, ex_len, lenA_sl, lenA_nil, lenA_str, lenA_own, lenRow_row, elA_own, elA_sl, elRow_row, ex_nilc, ex_build, ex_bslice, ex_fieldv, AOp.ro, AS.ev, AS.put, AS.fieldAddr, idxA_ptr, idxA_cptr, AS.peek, AS.poke, AS.blk, AS.setBlk, AV.nav, AV.upd, Blk.loc, Blk.cont, Blk.n, Blk.may, Blk.upd, AV.isAgg, AV.isTup, AV.sz, unVal, ownOk, fillAV, AV.sub, cvt_64j, cvt_64b, cvt_64w, cvt_8u, cvt_8w, bin_add64, bin_mul64, bin_sub64, bin_and51, bin_and32, bin_and1, bin_and8_1, bin_or64, bin_xor64, bin_or8, bin_shl64, bin_shl64j, bin_shr64, bin_shr64j, bin_shl8j, bin_shr8j, bin_quo64, bin_rem64, bin_quo32, bin_rem32, bin_addj, bin_subj, bin_quoj, bin_remj, bin_eqlj, bin_neqj, bin_lssj, bin_leqj, bin_gtrj, bin_geqj, bin_eql64, bin_lss64, bin_gtr64, bin_eql8, bin_rem8, lenA_tx, ex_prim, primA_some, AS.lits, prim_ix, prim_sub, prim_sub2, prim_min, prim_ib, ex_b2s, textOf_eq, textA_sl, textA_nil, lend_own, lendRow_row, lend_sl, lend_lit, bin_adds, bin_eqls, bin_neqs, bin_geq8, bin_leq8, bin_lss8, bin_gtr8, bin_neq8, bin_sub8, bin_quo8, bin_add8, bin_mulj, cvt_j8, cvt_8j, AOp.mineB, AV.place, ex_rdp, ex_rd, rdB, bnds, efF, bin_shrju, bin_shlju, listB_tx, listB_sl, listB_nil, ex_tups, bound_jn, AV.isText, keyA_arr, bl_len, zk_len, nameK_len, g1, g2, hk32]; exact rfl) ?_
        refine areg_ap (b := N + 32) (V := Vr) (ys := [keyA kk]) rfl (by simp only [AS.blk, g1]; rfl) (by simp [AS.ev, AS.coe, keyA]) (by rw [klA_len, hacc]; simp [maxLen]; omega) (by rw [klA_len, hacc]; simp; omega) fun V2 => ?_
        refine areg_end (by simp [runPre, AOp.ex, AOp.ex0, ex_mov, ex_bin, binA_lit, ex_cvt, ex_iaddrA, ex_iaddrS, ex_faddr, ex_load, ldA, ex_ext, ex_add64, add64A_un, ex_pick, ex_beq, ex_un, ex_len, lenA_sl, lenA_nil, lenA_str, lenA_own, lenRow_row, elA_own, elA_sl, elRow_row, ex_nilc, ex_build, ex_bslice, ex_fieldv, AOp.ro, AS.ev, AS.put, AS.fieldAddr, idxA_ptr, idxA_cptr, AS.peek, AS.poke, AS.blk, AS.setBlk, AV.nav, AV.upd, Blk.loc, Blk.cont, Blk.n, Blk.may, Blk.upd, AV.isAgg, AV.isTup, AV.sz, unVal, ownOk, fillAV, AV.sub, cvt_64j, cvt_64b, cvt_64w, cvt_8u, cvt_8w, bin_add64, bin_mul64, bin_sub64, bin_and51, bin_and32, bin_and1, bin_and8_1, bin_or64, bin_xor64, bin_or8, bin_shl64, bin_shl64j, bin_shr64, bin_shr64j, bin_shl8j, bin_shr8j, bin_quo64, bin_rem64, bin_quo32, bin_rem32, bin_addj, bin_subj, bin_quoj, bin_remj, bin_eqlj, bin_neqj, bin_lssj, bin_leqj, bin_gtrj, bin_geqj, bin_eql64, bin_lss64, bin_gtr64, bin_eql8, bin_rem8, lenA_tx, ex_prim, primA_some, AS.lits, prim_ix, prim_sub, prim_sub2, prim_min, prim_ib, ex_b2s, textOf_eq, textA_sl, textA_nil, lend_own, lendRow_row, lend_sl, lend_lit, bin_adds, bin_eqls, bin_neqs, bin_geq8, bin_leq8, bin_lss8, bin_gtr8, bin_neq8, bin_sub8, bin_quo8, bin_add8, bin_mulj, cvt_j8, cvt_8j, AOp.mineB, AV.place, ex_rdp, ex_rd, rdB, bnds, efF, bin_shrju, bin_shlju, listB_tx, listB_sl, listB_nil, ex_tups, bound_jn, AV.isText, keyA_arr, bl_len, zk_len, nameK_len, g2]; exact rfl) ?_
        refine wp_r (by simp [runPre, AOp.ex, AOp.ex0, ex_mov, ex_bin, binA_lit, ex_cvt, ex_iaddrA, ex_iaddrS, ex_faddr, ex_load, ldA, ex_ext, ex_add64, add64A_un, ex_pick, ex_beq, ex_un, ex_len, lenA_sl, lenA_nil, lenA_str, lenA_own, lenRow_row, elA_own, elA_sl, elRow_row, ex_nilc, ex_build, ex_bslice, ex_fieldv, AOp.ro, AS.ev, AS.put, AS.fieldAddr, idxA_ptr, idxA_cptr, AS.peek, AS.poke, AS.blk, AS.setBlk, AV.nav, AV.upd, Blk.loc, Blk.cont, Blk.n, Blk.may, Blk.upd, AV.isAgg, AV.isTup, AV.sz, unVal, ownOk, fillAV, AV.sub, cvt_64j, cvt_64b, cvt_64w, cvt_8u, cvt_8w, bin_add64, bin_mul64, bin_sub64, bin_and51, bin_and32, bin_and1, bin_and8_1, bin_or64, bin_xor64, bin_or8, bin_shl64, bin_shl64j, bin_shr64, bin_shr64j, bin_shl8j, bin_shr8j, bin_quo64, bin_rem64, bin_quo32, bin_rem32, bin_addj, bin_subj, bin_quoj, bin_remj, bin_eqlj, bin_neqj, bin_lssj, bin_leqj, bin_gtrj, bin_geqj, bin_eql64, bin_lss64, bin_gtr64, bin_eql8, bin_rem8, lenA_tx, ex_prim, primA_some, AS.lits, prim_ix, prim_sub, prim_sub2, prim_min, prim_ib, ex_b2s, textOf_eq, textA_sl, textA_nil, lend_own, lendRow_row, lend_sl, lend_lit, bin_adds, bin_eqls, bin_neqs, bin_geq8, bin_leq8, bin_lss8, bin_gtr8, bin_neq8, bin_sub8, bin_quo8, bin_add8, bin_mulj, cvt_j8, cvt_8j, AOp.mineB, AV.place, ex_rdp, ex_rd, rdB, bnds, efF, bin_shrju, bin_shlju, listB_tx, listB_sl, listB_nil, ex_tups, bound_jn, AV.isText, keyA_arr, bl_len, zk_len, nameK_len, q1]; exact rfl) ?_
        refine Exists.intro (i + 1, acc ++ [kk], putT ts1 y, V2, Vt') ⟨⟨hI, by omega, TsOk.put hok hy1 (fun h => absurd h hy2) (by omega), by simp only; omega, by simp [hacc], fun k hk => ?_⟩, by simp only; omega, Le.mk rfl (by simp [leT]) ?_⟩
        · rcases List.mem_append.1 hk with hk | hk
          · exact h32a k hk
          · simp at hk; subst hk; exact hk32
        · refine leH_app (leH_refl _) ?_
          simp [leH, klA, keyA]
    · have hin : i = ps.length := by omega
      subst hin
      rw [List.drop_length, agreedG] at hI
      have hat : agreedT ts ps = (some (nameK (putN ts1 ⟨2, hello, acc⟩)), putT ts1 ⟨2, hello, acc⟩) := by unfold agreedT; rw [← hI]
      rw [hat]
      have hash := hash_call (hh.at Vt ts1 ([none, none, none, none, some (.box l4 32 (keyA zk))] ++ List.replicate 32 none)) (by omega) hello (by simp [hello]) acc (by omega) h32a
      refine wp_sr (by simp [runPre, AOp.ex, AOp.ex0, ex_mov, ex_bin, binA_lit, ex_cvt, ex_iaddrA, ex_iaddrS, ex_faddr, ex_load, ldA, ex_ext, ex_add64, add64A_un, ex_pick, ex_beq, ex_un, ex_len, lenA_sl, lenA_nil, lenA_str, lenA_own, lenRow_row, elA_own, elA_sl, elRow_row, ex_nilc, ex_build, ex_bslice, ex_fieldv, AOp.ro, AS.ev, AS.put, AS.fieldAddr, idxA_ptr, idxA_cptr, AS.peek, AS.poke, AS.blk, AS.setBlk, AV.nav, AV.upd, Blk.loc, Blk.cont, Blk.n, Blk.may, Blk.upd, AV.isAgg, AV.isTup, AV.sz, unVal, ownOk, fillAV, AV.sub, cvt_64j, cvt_64b, cvt_64w, cvt_8u, cvt_8w, bin_add64, bin_mul64, bin_sub64, bin_and51, bin_and32, bin_and1, bin_and8_1, bin_or64, bin_xor64, bin_or8, bin_shl64, bin_shl64j, bin_shr64, bin_shr64j, bin_shl8j, bin_shr8j, bin_quo64, bin_rem64, bin_quo32, bin_rem32, bin_addj, bin_subj, bin_quoj, bin_remj, bin_eqlj, bin_neqj, bin_lssj, bin_leqj, bin_gtrj, bin_geqj, bin_eql64, bin_lss64, bin_gtr64, bin_eql8, bin_rem8, lenA_tx, ex_prim, primA_some, AS.lits, prim_ix, prim_sub, prim_sub2, prim_min, prim_ib, ex_b2s, textOf_eq, textA_sl, textA_nil, lend_own, lendRow_row, lend_sl, lend_lit, bin_adds, bin_eqls, bin_neqs, bin_geq8, bin_leq8, bin_lss8, bin_gtr8, bin_neq8, bin_sub8, bin_quo8, bin_add8, bin_mulj, cvt_j8, cvt_8j, AOp.mineB, AV.place, ex_rdp, ex_rd, rdB, bnds, efF, bin_shrju, bin_shlju, listB_tx, listB_sl, listB_nil, ex_tups, bound_jn, AV.isText, keyA_arr, bl_len, zk_len, nameK_len]; exact rfl) (wp_seq' (wp_cond_f (by simp [AS.ev]) (wp_exit' (if_hit rfl ?_))))
      refine ⟨_, Le.sealed (t := 6) (b := N + 32) (e := 28) (esz := 32) (sl := 0) (V := Vr) (els := klA acc) rfl (by simp only [AS.blk, g1]; rfl), ?_⟩
      refine wp_sg ?_
      refine areg_run 2 (by simp [runPre, AOp.ex, AOp.ex0, ex_mov, ex_bin, binA_lit, ex_cvt, ex_iaddrA, ex_iaddrS, ex_faddr, ex_load, ldA, ex_ext, ex_add64, add64A_un, ex_pick, ex_beq, ex_un, ex_len, lenA_sl, lenA_nil, lenA_str, lenA_own, lenRow_row, elA_own, elA_sl, elRow_row, ex_nilc, ex_build, ex_bslice, ex_fieldv, AOp.ro, AS.ev, AS.put, AS.fieldAddr, idxA_ptr, idxA_cptr, AS.peek, AS.poke, AS.blk, AS.setBlk, AV.nav, AV.upd, Blk.loc, Blk.cont, Blk.n, Blk.may, Blk.upd, AV.isAgg, AV.isTup, AV.sz, unVal, ownOk, fillAV, AV.sub, cvt_64j, cvt_64b, cvt_64w, cvt_8u, cvt_8w, bin_add64, bin_mul64, bin_sub64, bin_and51, bin_and32, bin_and1, bin_and8_1, bin_or64, bin_xor64, bin_or8, bin_shl64, bin_shl64j, bin_shr64, bin_shr64j, bin_shl8j, bin_shr8j, bin_quo64, bin_rem64, bin_quo32, bin_rem32, bin_addj, bin_subj, bin_quoj, bin_remj, bin_eqlj, bin_neqj, bin_lssj, bin_leqj, bin_gtrj, bin_geqj, bin_eql64, bin_lss64, bin_gtr64, bin_eql8, bin_rem8, lenA_tx, ex_prim, primA_some, AS.lits, prim_ix, prim_sub, prim_sub2, prim_min, prim_ib, ex_b2s, textOf_eq, textA_sl, textA_nil, lend_own, lendRow_row, lend_sl, lend_lit, bin_adds, bin_eqls, bin_neqs, bin_geq8, bin_leq8, bin_lss8, bin_gtr8, bin_neq8, bin_sub8, bin_quo8, bin_add8, bin_mulj, cvt_j8, cvt_8j, AOp.mineB, AV.place, ex_rdp, ex_rd, rdB, bnds, efF, bin_shrju, bin_shlju, listB_tx, listB_sl, listB_nil, ex_tups, bound_jn, AV.isText, keyA_arr, bl_len, zk_len, nameK_len, g2]; exact rfl) ?_
      refine areg_xq (us := [freeI t.b t.l, .lit (tx hello), .sl 32 (klA acc)]) rfl (tgt_hash _ _ _ _) hash (PutK.ex _ _ _ _) (fun r hp' _ t' ht' => by cases ht') ?_
      rintro r H' ⟨rfl, V', rfl⟩
      rw [hh.at_of]
      refine areg_end (by simp [runPre, AOp.ex, AOp.ex0, ex_mov, ex_bin, binA_lit, ex_cvt, ex_iaddrA, ex_iaddrS, ex_faddr, ex_load, ldA, ex_ext, ex_add64, add64A_un, ex_pick, ex_beq, ex_un, ex_len, lenA_sl, lenA_nil, lenA_str, lenA_own, lenRow_row, elA_own, elA_sl, elRow_row, ex_nilc, ex_build, ex_bslice, ex_fieldv, AOp.ro, AS.ev, AS.put, AS.fieldAddr, idxA_ptr, idxA_cptr, AS.peek, AS.poke, AS.blk, AS.setBlk, AV.nav, AV.upd, Blk.loc, Blk.cont, Blk.n, Blk.may, Blk.upd, AV.isAgg, AV.isTup, AV.sz, unVal, ownOk, fillAV, AV.sub, cvt_64j, cvt_64b, cvt_64w, cvt_8u, cvt_8w, bin_add64, bin_mul64, bin_sub64, bin_and51, bin_and32, bin_and1, bin_and8_1, bin_or64, bin_xor64, bin_or8, bin_shl64, bin_shl64j, bin_shr64, bin_shr64j, bin_shl8j, bin_shr8j, bin_quo64, bin_rem64, bin_quo32, bin_rem32, bin_addj, bin_subj, bin_quoj, bin_remj, bin_eqlj, bin_neqj, bin_lssj, bin_leqj, bin_gtrj, bin_geqj, bin_eql64, bin_lss64, bin_gtr64, bin_eql8, bin_rem8, lenA_tx, ex_prim, primA_some, AS.lits, prim_ix, prim_sub, prim_sub2, prim_min, prim_ib, ex_b2s, textOf_eq, textA_sl, textA_nil, lend_own, lendRow_row, lend_sl, lend_lit, bin_adds, bin_eqls, bin_neqs, bin_geq8, bin_leq8, bin_lss8, bin_gtr8, bin_neq8, bin_sub8, bin_quo8, bin_add8, bin_mulj, cvt_j8, cvt_8j, AOp.mineB, AV.place, ex_rdp, ex_rd, rdB, bnds, efF, bin_shrju, bin_shlju, listB_tx, listB_sl, listB_nil, ex_tups, bound_jn, AV.isText, keyA_arr, bl_len, zk_len, nameK_len, g1, g2, nameK_len]; exact rfl) (wp_ret' ?_)
      exact ⟨_, Le.refl _, [], _, ⟨_, rfl, by simp [AS.seals, RVals, RVal, AS.ev, AS.peek, AS.blk, g1, Blk.loc, Blk.cont, Blk.n, AV.nav, AV.isAgg, AV.isTup, AS.coe]; rfl, by simp [keyA]⟩, optK (some _), _, RelLe.refl _, by simp [optK], HpLe.trim _ _, rfl, V', (hh.of_of _ _ _ _).symm⟩
end Go.Cab

/- Bundle: which one is named; a list searched. -/
-- TEXTS
-- KIT
namespace Go.Cab
open Classical
def fb424 : AC := (.seq (.reg [⟨(.some 3), .none, (.box 32 (.tmp 0)), [], .none⟩, ⟨(.some 4), .none, (.mov (.const (.bool .false))), [], .none⟩]) (.seq (.reg [⟨(.some 5), .none, (.load .false 1 (.tmp 1)), [], .none⟩, ⟨(.some 6), .none, (.load .true 32 (.tmp 3)), [], .none⟩, ⟨(.some 7), .none, (.xc (.inv "Pub") [(.tmp 5), (.tmp 6)] [2] []), [], .none⟩, ⟨(.some 8), .none, (.faddr 64 2 (.tmp 2)), [], .none⟩, ⟨(.some 9), .none, (.load .true 32 (.tmp 8)), [], (.some 2)⟩, ⟨(.some 10), .none, (.eqv 28 .false (.tmp 7) (.tmp 9)), [], .none⟩, ⟨(.some 4), .none, (.mov (.tmp 10)), [], .none⟩]) .ret))
def fc424 : FC := ⟨1, 11, [(.tmp 4)], fb424⟩
theorem fc424_eq : compF Go.Proofs.Try.prog 19 = some fc424 := by kernel_rfl
def fb423 : AC := (.seq (.reg [⟨(.some 4), .none, (.mov (.const (jn 0))), [], .none⟩]) (.seq (.seq (.reg [⟨(.some 6), .none, (.mov (.tmp 0)), [], .none⟩, ⟨(.some 7), .none, (.len .false (.tmp 6)), [], .none⟩, ⟨(.some 8), .none, (.mov (.const (jn 0))), [], .none⟩]) (.block 0 (.loop (.seq (.reg [⟨(.some 9), .none, (.bin .lss (.tmp 8) (.tmp 7)), [], .none⟩]) (.seq (.cond (.tmp 9) .skip (.exit 0)) (.seq (.block 1 (.seq (.reg [⟨(.some 10), .none, (.mov (.tmp 8)), [], .none⟩, ⟨(.some 5), .none, (.mov (.tmp 10)), [], .none⟩]) (.seq (.reg [⟨(.some 11), .none, (.mov (.tmp 1)), [], .none⟩, ⟨(.some 12), .none, (.mov (.tmp 0)), [], .none⟩, ⟨(.some 13), .none, (.mov (.tmp 5)), [], .none⟩, ⟨(.some 14), .none, (.iaddrS 32 (.tmp 12) (.tmp 13)), [], .none⟩, ⟨(.some 15), .none, (.load .true 32 (.tmp 14)), [], .none⟩, ⟨(.some 16), .none, (.xc .val [(.tmp 11), (.tmp 15)] [] []), [], .none⟩]) (.cond (.tmp 16) (.seq (.reg [⟨(.some 17), .none, (.mov (.tmp 5)), [], .none⟩, ⟨(.some 4), .none, (.mov (.tmp 17)), [], .none⟩]) .ret) .skip)))) (.reg [⟨(.some 18), .none, (.bin .add (.tmp 8) (.const (jn 1))), [], .none⟩, ⟨(.some 8), .none, (.mov (.tmp 18)), [], .none⟩]))))))) (.seq (.reg [⟨(.some 4), .none, (.mov (.const (.int .i64 (-1)))), [], .none⟩]) .ret)))
def fc423 : FC := ⟨2, 19, [(.tmp 4)], fb423⟩
theorem fc423_eq : compF Go.Proofs.Try.prog 18 = some fc423 := by kernel_rfl

def pubT (k : List UInt8) : Term := ⟨3, [], [k]⟩
theorem pubT_ok {k : List UInt8} (h : k.length = 32) : TermOk (pubT k) := ⟨by simp [pubT], by simp [pubT], by simp [pubT], by simp [pubT, h]⟩
theorem TsOk.putPub {ts : List Term} (h : TsOk ts) {k : List UInt8} (hk : k.length = 32) (hl : ts.length + 1 < 90000) : TsOk (putT ts (pubT k)) :=
  TsOk.put h (pubT_ok hk) (fun _ => ⟨k, rfl⟩) hl
theorem pub_at {H : List (Option Blk)} {t : Tb} {V0 : Value} {ts0 : List Term} (hh : TbOk H t V0 ts0) {ts : List Term} (hn : ts.length < 100000) (V : Value) (L : List (Option Blk)) {k : List UInt8} (hk : k.length = 32) :
    XCall Go.Proofs.Try.prog 52 [.ptr t.b t.l 0 [], keyA k] (tbOf H t V ts ++ L) fun r H' => r = keyA (nameK (putN ts (pubT k))) ∧ ∃ V', H' = tbOf H t V' (putT ts (pubT k)) ++ L := by
  refine XCall.mono (pub_call (hh.at V ts L) hn hk) ?_
  rintro r H' ⟨h1, V', h2⟩
  exact ⟨h1, V', by rw [h2, hh.at_of]; rfl⟩

/-- A greeting: three keys. -/
structure Hello where
  id : List UInt8
  eph : List UInt8
  one : List UInt8
structure HelloOk (h : Hello) : Prop where
  id : h.id.length = 32
  eph : h.eph.length = 32
  one : h.one.length = 32
def helloA (h : Hello) : AV := .st [32, 32, 32] [keyA h.id, keyA h.eph, keyA h.one]

set_option maxHeartbeats 4000000 in
theorem named_call {H : List (Option Blk)} {t : Tb} {V0 : Value} {ts0 : List Term} (hh : TbOk H t V0 ts0) {kb hb : Nat} {kl hl : Nat × Nat} {h : Hello} (ho : HelloOk h) (k1 : kb ≠ t.b) (k2 : kb ≠ t.j) (k3 : kb ≠ t.m) (h1 : hb ≠ t.b) (h2 : hb ≠ t.j) (h3 : hb ≠ t.m)
    (hkb : H[kb]? = some (some (.box kl 1 (freeI t.b t.l)))) (hhb : H[hb]? = some (some (.box hl 96 (helloA h)))) {ts : List Term} (hn : ts.length < 90000) (V : Value) (L0 : List (Option Blk)) {x : List UInt8} (hx : x.length = 32) :
    XCall Go.Proofs.Try.prog 19 [keyA x, .ptr kb kl 0 [], .ptr hb hl 0 []] (tbOf H t V ts ++ L0) fun r H' => r = .lit (.bool (decide (nameK (putN ts (pubT x)) = h.one))) ∧ ∃ V', H' = tbOf H t V' (putT ts (pubT x)) ++ L0 := by
  have h424 := fc424_eq
  refine XCall.le ?_
  have lk := (List.getElem?_eq_some_iff.1 hkb).1
  have lh := (List.getElem?_eq_some_iff.1 hhb).1
  have G1 : ∀ V' ts', (tbOf H t V' ts').length = H.length := fun V' ts' => tbOf_len _ _ _ _
  obtain ⟨N, hN⟩ : ∃ N, N = (tbOf H t V ts ++ L0).length := ⟨_, rfl⟩
  have hN2 : ∀ V' ts', (tbOf H t V' ts' ++ L0).length = N := fun V' ts' => by rw [hN]; simp [G1]
  have g1 : ∀ V' ts' L k, (tbOf H t V' ts' ++ (L0 ++ L))[N + k]? = L[k]? := fun V' ts' L k => by rw [← List.append_assoc]; exact cat1 _ _ _ _ (hN2 _ _)
  have g2 : ∀ V' ts' L k x, (tbOf H t V' ts' ++ (L0 ++ L)).set (N + k) x = tbOf H t V' ts' ++ (L0 ++ L.set k x) := fun V' ts' L k x => by rw [← List.append_assoc, ← List.append_assoc]; exact cat2 _ _ _ _ _ (hN2 _ _)
  have gk : ∀ V' ts' L, (tbOf H t V' ts' ++ L)[kb]? = some (some (.box kl 1 (freeI t.b t.l))) := fun V' ts' L => by rw [cat4 H.length _ _ _ (G1 _ _) lk, hh.other _ _ k1 k2 k3]; exact hkb
  have gh : ∀ V' ts' L, (tbOf H t V' ts' ++ L)[hb]? = some (some (.box hl 96 (.st [32, 32, 32] [keyA h.id, keyA h.eph, keyA h.one]))) := fun V' ts' L => by rw [cat4 H.length _ _ _ (G1 _ _) lh, hh.other _ _ h1 h2 h3]; exact hhb
  obtain ⟨o1, o2, o3⟩ := ho
  have e1 := eq_key (nameK_len (putN ts (pubT x))) o3
  refine XCall.ofC h424 (by show 3 ≤ 11; omega) ?_; show AC.wp _ fb424 ⟨(tbOf H t V ts ++ L0).length, [keyA x, .ptr kb kl 0 [], .ptr hb hl 0 []] ++ List.replicate (11 - 3) .any, (tbOf H t V ts ++ L0) ++ List.replicate 11 none⟩ (fun x s => match x with | .exit _ => False | _ => ∃ s1, Le s s1 ∧ FinX [(.tmp 4)] s1 _); unfold fb424
  rw [List.append_assoc, ← hN]
  have hpub := fun L => pub_at hh (ts := ts) (by omega) V L hx
  refine wp_sg (areg_bx rfl (by simp [AS.ev, keyA, AV.sz, bl, hx]) fun l => areg_end (by simp [runPre, AOp.ex, AOp.ex0, ex_mov, ex_bin, binA_lit, ex_cvt, ex_iaddrA, ex_iaddrS, ex_faddr, ex_load, ldA, ex_ext, ex_add64, add64A_un, ex_pick, ex_beq, ex_un, ex_len, lenA_sl, lenA_nil, lenA_str, lenA_own, lenRow_row, elA_own, elA_sl, elRow_row, ex_nilc, ex_build, ex_bslice, ex_fieldv, AOp.ro, AS.ev, AS.put, AS.fieldAddr, idxA_ptr, idxA_cptr, AS.peek, AS.poke, AS.blk, AS.setBlk, AV.nav, AV.upd, Blk.loc, Blk.cont, Blk.n, Blk.may, Blk.upd, AV.isAgg, AV.isTup, AV.sz, unVal, ownOk, fillAV, AV.sub, cvt_64j, cvt_64b, cvt_64w, cvt_8u, cvt_8w, bin_add64, bin_mul64, bin_sub64, bin_and51, bin_and32, bin_and1, bin_and8_1, bin_or64, bin_xor64, bin_or8, bin_shl64, bin_shl64j, bin_shr64, bin_shr64j, bin_shl8j, bin_shr8j, bin_quo64, bin_rem64, bin_quo32, bin_rem32, bin_addj, bin_subj, bin_quoj, bin_remj, bin_eqlj, bin_neqj, bin_lssj, bin_leqj, bin_gtrj, bin_geqj, bin_eql64, bin_lss64, bin_gtr64, bin_eql8, bin_rem8, lenA_tx, ex_prim, primA_some, AS.lits, prim_ix, prim_sub, prim_sub2, prim_min, prim_ib, ex_b2s, textOf_eq, textA_sl, textA_nil, lend_own, lendRow_row, lend_sl, lend_lit, bin_adds, bin_eqls, bin_neqs, bin_geq8, bin_leq8, bin_lss8, bin_gtr8, bin_neq8, bin_sub8, bin_quo8, bin_add8, bin_mulj, cvt_j8, cvt_8j, AOp.mineB, AV.place, ex_rdp, ex_rd, rdB, bnds, efF, bin_shrju, bin_shlju, listB_tx, listB_sl, listB_nil, ex_tups, bound_jn, AV.isText, keyA_arr, bl_len, zk_len, nameK_len, g2]; exact rfl) ?_)
  refine wp_sg ?_
  refine areg_run 2 (by simp [runPre, AOp.ex, AOp.ex0, ex_mov, ex_bin, binA_lit, ex_cvt, ex_iaddrA, ex_iaddrS, ex_faddr, ex_load, ldA, ex_ext, ex_add64, add64A_un, ex_pick, ex_beq, ex_un, ex_len, lenA_sl, lenA_nil, lenA_str, lenA_own, lenRow_row, elA_own, elA_sl, elRow_row, ex_nilc, ex_build, ex_bslice, ex_fieldv, AOp.ro, AS.ev, AS.put, AS.fieldAddr, idxA_ptr, idxA_cptr, AS.peek, AS.poke, AS.blk, AS.setBlk, AV.nav, AV.upd, Blk.loc, Blk.cont, Blk.n, Blk.may, Blk.upd, AV.isAgg, AV.isTup, AV.sz, unVal, ownOk, fillAV, AV.sub, cvt_64j, cvt_64b, cvt_64w, cvt_8u, cvt_8w, bin_add64, bin_mul64, bin_sub64, bin_and51, bin_and32, bin_and1, bin_and8_1, bin_or64, bin_xor64, bin_or8, bin_shl64, bin_shl64j, bin_shr64, bin_shr64j, bin_shl8j, bin_shr8j, bin_quo64, bin_rem64, bin_quo32, bin_rem32, bin_addj, bin_subj, bin_quoj, bin_remj, bin_eqlj, bin_neqj, bin_lssj, bin_leqj, bin_gtrj, bin_geqj, bin_eql64, bin_lss64, bin_gtr64, bin_eql8, bin_rem8, lenA_tx, ex_prim, primA_some, AS.lits, prim_ix, prim_sub, prim_sub2, prim_min, prim_ib, ex_b2s, textOf_eq, textA_sl, textA_nil, lend_own, lendRow_row, lend_sl, lend_lit, bin_adds, bin_eqls, bin_neqs, bin_geq8, bin_leq8, bin_lss8, bin_gtr8, bin_neq8, bin_sub8, bin_quo8, bin_add8, bin_mulj, cvt_j8, cvt_8j, AOp.mineB, AV.place, ex_rdp, ex_rd, rdB, bnds, efF, bin_shrju, bin_shlju, listB_tx, listB_sl, listB_nil, ex_tups, bound_jn, AV.isText, keyA_arr, bl_len, zk_len, nameK_len, gk, g1, hx, freeI]; exact rfl) ?_
  refine areg_xq (us := [freeI t.b t.l, keyA x]) rfl (tgt_pub _ _ _) (hpub _) ⟨_, _, rfl, .slice none 0 0, rfl⟩ (fun r hp' hK t' ht' b hb' => ?_) ?_
  · obtain ⟨_, V', rfl⟩ := hK
    simp at ht'
    subst ht'
    simp [AS.ev, AV.place] at hb'
    subst hb'
    simp only [gh]
  rintro r H' ⟨rfl, V', rfl⟩
  generalize hkk : nameK (putN ts (pubT x)) = kk at *
  refine areg_run 2 (by simp [runPre, AOp.ex, AOp.ex0, ex_mov, ex_bin, binA_lit, ex_cvt, ex_iaddrA, ex_iaddrS, ex_faddr, ex_load, ldA, ex_ext, ex_add64, add64A_un, ex_pick, ex_beq, ex_un, ex_len, lenA_sl, lenA_nil, lenA_str, lenA_own, lenRow_row, elA_own, elA_sl, elRow_row, ex_nilc, ex_build, ex_bslice, ex_fieldv, AOp.ro, AS.ev, AS.put, AS.fieldAddr, idxA_ptr, idxA_cptr, AS.peek, AS.poke, AS.blk, AS.setBlk, AV.nav, AV.upd, Blk.loc, Blk.cont, Blk.n, Blk.may, Blk.upd, AV.isAgg, AV.isTup, AV.sz, unVal, ownOk, fillAV, AV.sub, cvt_64j, cvt_64b, cvt_64w, cvt_8u, cvt_8w, bin_add64, bin_mul64, bin_sub64, bin_and51, bin_and32, bin_and1, bin_and8_1, bin_or64, bin_xor64, bin_or8, bin_shl64, bin_shl64j, bin_shr64, bin_shr64j, bin_shl8j, bin_shr8j, bin_quo64, bin_rem64, bin_quo32, bin_rem32, bin_addj, bin_subj, bin_quoj, bin_remj, bin_eqlj, bin_neqj, bin_lssj, bin_leqj, bin_gtrj, bin_geqj, bin_eql64, bin_lss64, bin_gtr64, bin_eql8, bin_rem8, lenA_tx, ex_prim, primA_some, AS.lits, prim_ix, prim_sub, prim_sub2, prim_min, prim_ib, ex_b2s, textOf_eq, textA_sl, textA_nil, lend_own, lendRow_row, lend_sl, lend_lit, bin_adds, bin_eqls, bin_neqs, bin_geq8, bin_leq8, bin_lss8, bin_gtr8, bin_neq8, bin_sub8, bin_quo8, bin_add8, bin_mulj, cvt_j8, cvt_8j, AOp.mineB, AV.place, ex_rdp, ex_rd, rdB, bnds, efF, bin_shrju, bin_shlju, listB_tx, listB_sl, listB_nil, ex_tups, bound_jn, AV.isText, keyA_arr, bl_len, zk_len, nameK_len, gh, o3, o1, o2]; exact rfl) ?_
  refine areg_eq (by simp [AS.ev, AS.put] <;> exact rfl) (by simp [AS.ev, AS.put] <;> exact rfl) e1 rfl rfl ?_
  refine areg_end (by simp [runPre, AOp.ex, AOp.ex0, ex_mov, ex_bin, binA_lit, ex_cvt, ex_iaddrA, ex_iaddrS, ex_faddr, ex_load, ldA, ex_ext, ex_add64, add64A_un, ex_pick, ex_beq, ex_un, ex_len, lenA_sl, lenA_nil, lenA_str, lenA_own, lenRow_row, elA_own, elA_sl, elRow_row, ex_nilc, ex_build, ex_bslice, ex_fieldv, AOp.ro, AS.ev, AS.put, AS.fieldAddr, idxA_ptr, idxA_cptr, AS.peek, AS.poke, AS.blk, AS.setBlk, AV.nav, AV.upd, Blk.loc, Blk.cont, Blk.n, Blk.may, Blk.upd, AV.isAgg, AV.isTup, AV.sz, unVal, ownOk, fillAV, AV.sub, cvt_64j, cvt_64b, cvt_64w, cvt_8u, cvt_8w, bin_add64, bin_mul64, bin_sub64, bin_and51, bin_and32, bin_and1, bin_and8_1, bin_or64, bin_xor64, bin_or8, bin_shl64, bin_shl64j, bin_shr64, bin_shr64j, bin_shl8j, bin_shr8j, bin_quo64, bin_rem64, bin_quo32, bin_rem32, bin_addj, bin_subj, bin_quoj, bin_remj, bin_eqlj, bin_neqj, bin_lssj, bin_leqj, bin_gtrj, bin_geqj, bin_eql64, bin_lss64, bin_gtr64, bin_eql8, bin_rem8, lenA_tx, ex_prim, primA_some, AS.lits, prim_ix, prim_sub, prim_sub2, prim_min, prim_ib, ex_b2s, textOf_eq, textA_sl, textA_nil, lend_own, lendRow_row, lend_sl, lend_lit, bin_adds, bin_eqls, bin_neqs, bin_geq8, bin_leq8, bin_lss8, bin_gtr8, bin_neq8, bin_sub8, bin_quo8, bin_add8, bin_mulj, cvt_j8, cvt_8j, AOp.mineB, AV.place, ex_rdp, ex_rd, rdB, bnds, efF, bin_shrju, bin_shlju, listB_tx, listB_sl, listB_nil, ex_tups, bound_jn, AV.isText, keyA_arr, bl_len, zk_len, nameK_len]; exact rfl) (wp_ret' ?_)
  exact ⟨_, Le.refl _, finX1 (v := .lit (.bool (decide (kk = h.one)))) rfl (by simp) ⟨_, tbOf H t V' (putT ts (pubT x)) ++ L0, RelLe.refl _, by simp, by simp only [← List.append_assoc]; exact HpLe.trim _ _, rfl, V', rfl⟩⟩

/-! ### A list searched -/
def idxF (one : List UInt8) : List Term → List (List UInt8) → Nat → Option Nat × List Term
  | ts, [], _ => (none, ts)
  | ts, x :: xs, i => if nameK (putN ts (pubT x)) = one then (some i, putT ts (pubT x)) else idxF one (putT ts (pubT x)) xs (i + 1)
def idxV : Option Nat → Value
  | none => .int .i64 (-1)
  | some n => jn n
def cloA (kb hb : Nat) (kl hl : Nat × Nat) : AV := .fnv (.func 19) [] [.ptr kb kl 0 [], .ptr hb hl 0 []]
theorem tgt_clo (kb hb : Nat) (kl hl : Nat × Nat) (x : AV) : tgtA Go.Proofs.Try.prog .val [cloA kb hb kl hl, x] = some (19, [x, .ptr kb kl 0 [], .ptr hb hl 0 []]) := by kernel_rfl
def idxS (N : Nat) (H : List (Option Blk)) (t : Tb) (c : Nat) (Vc : Value) (clo : AV) (n : Nat) (x : Nat × List Term × Value) : AS :=
  ⟨N, [.own c Vc, clo, .any, .any, .lit (jn 0), .any, .own c Vc, .lit (jn n), .lit (jn x.1)] ++ List.replicate 10 .any, tbOf H t x.2.2 x.2.1 ++ List.replicate 19 none⟩

set_option maxHeartbeats 8000000 in
theorem index_call {H : List (Option Blk)} {t : Tb} {V : Value} {ts : List Term} (hh : TbOk H t V ts) (hts : TsOk ts) {kb hb c sl : Nat} {kl hl : Nat × Nat} {Vc : Value} {h : Hello} {ks : List (List UInt8)} (ho : HelloOk h)
    (k1 : kb ≠ t.b) (k2 : kb ≠ t.j) (k3 : kb ≠ t.m) (h1 : hb ≠ t.b) (h2 : hb ≠ t.j) (h3 : hb ≠ t.m) (c1 : c ≠ t.b) (c2 : c ≠ t.j) (c3 : c ≠ t.m)
    (hkb : H[kb]? = some (some (.box kl 1 (freeI t.b t.l)))) (hhb : H[hb]? = some (some (.box hl 96 (helloA h)))) (hc : H[c]? = some (some (.row 28 Vc 32 (klA ks) sl))) (hks : ks.length < 1000) (h32 : ∀ k ∈ ks, k.length = 32) (hlen : ts.length + 2000 < 90000) :
    XCall Go.Proofs.Try.prog 18 [.own c Vc, cloA kb hb kl hl] H fun r H' => r = .lit (idxV (idxF h.one ts ks 0).1) ∧ ∃ V', H' = tbOf H t V' (idxF h.one ts ks 0).2 := by
  have h423 := fc423_eq
  refine XCall.le ?_
  have hself := hh.self
  have lc := (List.getElem?_eq_some_iff.1 hc).1
  have G1 : ∀ V' ts', (tbOf H t V' ts').length = H.length := fun V' ts' => tbOf_len _ _ _ _
  have gc : ∀ V' ts' L, (tbOf H t V' ts' ++ L)[c]? = some (some (.row 28 Vc 32 (klA ks) sl)) := fun V' ts' L => by rw [cat4 H.length _ _ _ (G1 _ _) lc, hh.other _ _ c1 c2 c3]; exact hc
  have hone := ho.one
  have hnm := fun ts' (hn : ts'.length < 90000) V' L x hx => named_call hh ho k1 k2 k3 h1 h2 h3 hkb hhb (ts := ts') hn V' L (x := x) hx
  have htg := tgt_clo kb hb kl hl
  generalize cloA kb hb kl hl = clo at *
  refine XCall.of h423 rfl ?_; show AC.wp _ fb423 ⟨H.length, [.own c Vc, clo] ++ List.replicate (19 - 2) .any, H ++ List.replicate 19 none⟩ (fun x s => match x with | .exit _ => False | _ => ∃ s1, Le s s1 ∧ FinX [(.tmp 4)] s1 _); unfold fb423
  rw [← hself]
  rw [tbOf_len]
  generalize hN : H.length = N at *
  refine wp_sr (by simp [runPre, AOp.ex, AOp.ex0, ex_mov, ex_bin, binA_lit, ex_cvt, ex_iaddrA, ex_iaddrS, ex_faddr, ex_load, ldA, ex_ext, ex_add64, add64A_un, ex_pick, ex_beq, ex_un, ex_len, lenA_sl, lenA_nil, lenA_str, lenA_own, lenRow_row, elA_own, elA_sl, elRow_row, ex_nilc, ex_build, ex_bslice, ex_fieldv, AOp.ro, AS.ev, AS.put, AS.fieldAddr, idxA_ptr, idxA_cptr, AS.peek, AS.poke, AS.blk, AS.setBlk, AV.nav, AV.upd, Blk.loc, Blk.cont, Blk.n, Blk.may, Blk.upd, AV.isAgg, AV.isTup, AV.sz, unVal, ownOk, fillAV, AV.sub, cvt_64j, cvt_64b, cvt_64w, cvt_8u, cvt_8w, bin_add64, bin_mul64, bin_sub64, bin_and51, bin_and32, bin_and1, bin_and8_1, bin_or64, bin_xor64, bin_or8, bin_shl64, bin_shl64j, bin_shr64, bin_shr64j, bin_shl8j, bin_shr8j, bin_quo64, bin_rem64, bin_quo32, bin_rem32, bin_addj, bin_subj, bin_quoj, bin_remj, bin_eqlj, bin_neqj, bin_lssj, bin_leqj, bin_gtrj, bin_geqj, bin_eql64, bin_lss64, bin_gtr64, bin_eql8, bin_rem8, lenA_tx, ex_prim, primA_some, AS.lits, prim_ix, prim_sub, prim_sub2, prim_min, prim_ib, ex_b2s, textOf_eq, textA_sl, textA_nil, lend_own, lendRow_row, lend_sl, lend_lit, bin_adds, bin_eqls, bin_neqs, bin_geq8, bin_leq8, bin_lss8, bin_gtr8, bin_neq8, bin_sub8, bin_quo8, bin_add8, bin_mulj, cvt_j8, cvt_8j, AOp.mineB, AV.place, ex_rdp, ex_rd, rdB, bnds, efF, bin_shrju, bin_shlju, listB_tx, listB_sl, listB_nil, ex_tups, bound_jn, AV.isText, keyA_arr, bl_len, zk_len, nameK_len]; exact rfl) ?_
  refine wp_seq' (wp_seq' (wp_r (by simp [runPre, AOp.ex, AOp.ex0, ex_mov, ex_bin, binA_lit, ex_cvt, ex_iaddrA, ex_iaddrS, ex_faddr, ex_load, ldA, ex_ext, ex_add64, add64A_un, ex_pick, ex_beq, ex_un, ex_len, lenA_sl, lenA_nil, lenA_str, lenA_own, lenRow_row, elA_own, elA_sl, elRow_row, ex_nilc, ex_build, ex_bslice, ex_fieldv, AOp.ro, AS.ev, AS.put, AS.fieldAddr, idxA_ptr, idxA_cptr, AS.peek, AS.poke, AS.blk, AS.setBlk, AV.nav, AV.upd, Blk.loc, Blk.cont, Blk.n, Blk.may, Blk.upd, AV.isAgg, AV.isTup, AV.sz, unVal, ownOk, fillAV, AV.sub, cvt_64j, cvt_64b, cvt_64w, cvt_8u, cvt_8w, bin_add64, bin_mul64, bin_sub64, bin_and51, bin_and32, bin_and1, bin_and8_1, bin_or64, bin_xor64, bin_or8, bin_shl64, bin_shl64j, bin_shr64, bin_shr64j, bin_shl8j, bin_shr8j, bin_quo64, bin_rem64, bin_quo32, bin_rem32, bin_addj, bin_subj, bin_quoj, bin_remj, bin_eqlj, bin_neqj, bin_lssj, bin_leqj, bin_gtrj, bin_geqj, bin_eql64, bin_lss64, bin_gtr64, bin_eql8, bin_rem8, lenA_tx, ex_prim, primA_some, AS.lits, prim_ix, prim_sub, prim_sub2, prim_min, prim_ib, ex_b2s, textOf_eq, textA_sl, textA_nil, lend_own, lendRow_row, lend_sl, lend_lit, bin_adds, bin_eqls, bin_neqs, bin_geq8, bin_leq8, bin_lss8, bin_gtr8, bin_neq8, bin_sub8, bin_quo8, bin_add8, bin_mulj, cvt_j8, cvt_8j, AOp.mineB, AV.place, ex_rdp, ex_rd, rdB, bnds, efF, bin_shrju, bin_shlju, listB_tx, listB_sl, listB_nil, ex_tups, bound_jn, AV.isText, keyA_arr, bl_len, zk_len, nameK_len, gc, klA_len]; exact rfl) ?_))
  refine wp_block' (wp_loop_m (idxS N H t c Vc clo ks.length) (fun x => ks.length - x.1) (fun x => idxF h.one x.2.1 (ks.drop x.1) x.1 = idxF h.one ts ks 0 ∧ x.1 ≤ ks.length ∧ TsOk x.2.1 ∧ x.2.1.length + (ks.length - x.1) + 100 < 90000) (0, ts, V) ?_ ⟨rfl, by simp, hts, by simp; omega⟩ ?_)
  · exact Le.mk rfl (by simp [idxS, leT]) (leH_refl _)
  · rintro ⟨i, ts1, Vt⟩ ⟨hI, hi, hok, hl1⟩
    simp only at hI hi hok hl1 ⊢
    unfold idxS
    simp only
    by_cases hlt : i < ks.length
    · obtain ⟨x, hx⟩ : ∃ x, ks[i]? = some x := ⟨_, List.getElem?_eq_getElem hlt⟩
      have hdrop : ks.drop i = x :: ks.drop (i + 1) := by
        rw [List.drop_eq_getElem_cons hlt]
        rw [List.getElem?_eq_getElem hlt] at hx
        rw [Option.some.inj hx]
      rw [hdrop, idxF] at hI
      have hx32 := h32 _ (List.mem_of_getElem? hx)
      have g1 : (klA ks)[i]? = some (keyA x) := by rw [klA_get, hx]; rfl
      have g2 : ∀ h, (klA ks)[i]'h = keyA x := fun h => by rw [List.getElem?_eq_getElem h] at g1; exact Option.some.inj g1
      have q1 : i + 1 < 9223372036854775808 := by omega
      have hlen2 := putT_len ts1 (pubT x)
      have hput := TsOk.putPub hok hx32 (by omega)
      have hnm1 := hnm ts1 hok.len Vt (List.replicate 19 none) x hx32
      generalize putT ts1 (pubT x) = ts2 at *
      generalize nameK (putN ts1 (pubT x)) = kk at *
      refine wp_sr (by simp [runPre, AOp.ex, AOp.ex0, ex_mov, ex_bin, binA_lit, ex_cvt, ex_iaddrA, ex_iaddrS, ex_faddr, ex_load, ldA, ex_ext, ex_add64, add64A_un, ex_pick, ex_beq, ex_un, ex_len, lenA_sl, lenA_nil, lenA_str, lenA_own, lenRow_row, elA_own, elA_sl, elRow_row, ex_nilc, ex_build, ex_bslice, ex_fieldv, AOp.ro, AS.ev, AS.put, AS.fieldAddr, idxA_ptr, idxA_cptr, AS.peek, AS.poke, AS.blk, AS.setBlk, AV.nav, AV.upd, Blk.loc, Blk.cont, Blk.n, Blk.may, Blk.upd, AV.isAgg, AV.isTup, AV.sz, unVal, ownOk, fillAV, AV.sub, cvt_64j, cvt_64b, cvt_64w, cvt_8u, cvt_8w, bin_add64, bin_mul64, bin_sub64, bin_and51, bin_and32, bin_and1, bin_and8_1, bin_or64, bin_xor64, bin_or8, bin_shl64, bin_shl64j, bin_shr64, bin_shr64j, bin_shl8j, bin_shr8j, bin_quo64, bin_rem64, bin_quo32, bin_rem32, bin_addj, bin_subj, bin_quoj, bin_remj, bin_eqlj, bin_neqj, bin_lssj, bin_leqj, bin_gtrj, bin_geqj, bin_eql64, bin_lss64, bin_gtr64, bin_eql8, bin_rem8, lenA_tx, ex_prim, primA_some, AS.lits, prim_ix, prim_sub, prim_sub2, prim_min, prim_ib, ex_b2s, textOf_eq, textA_sl, textA_nil, lend_own, lendRow_row, lend_sl, lend_lit, bin_adds, bin_eqls, bin_neqs, bin_geq8, bin_leq8, bin_lss8, bin_gtr8, bin_neq8, bin_sub8, bin_quo8, bin_add8, bin_mulj, cvt_j8, cvt_8j, AOp.mineB, AV.place, ex_rdp, ex_rd, rdB, bnds, efF, bin_shrju, bin_shlju, listB_tx, listB_sl, listB_nil, ex_tups, bound_jn, AV.isText, keyA_arr, bl_len, zk_len, nameK_len, hlt]; exact rfl) (wp_seq' (wp_cond_t (by simp [AS.ev]) (wp_skip' ?_)))
      refine wp_seq' (wp_block' (wp_sr (by simp [runPre, AOp.ex, AOp.ex0, ex_mov, ex_bin, binA_lit, ex_cvt, ex_iaddrA, ex_iaddrS, ex_faddr, ex_load, ldA, ex_ext, ex_add64, add64A_un, ex_pick, ex_beq, ex_un, ex_len, lenA_sl, lenA_nil, lenA_str, lenA_own, lenRow_row, elA_own, elA_sl, elRow_row, ex_nilc, ex_build, ex_bslice, ex_fieldv, AOp.ro, AS.ev, AS.put, AS.fieldAddr, idxA_ptr, idxA_cptr, AS.peek, AS.poke, AS.blk, AS.setBlk, AV.nav, AV.upd, Blk.loc, Blk.cont, Blk.n, Blk.may, Blk.upd, AV.isAgg, AV.isTup, AV.sz, unVal, ownOk, fillAV, AV.sub, cvt_64j, cvt_64b, cvt_64w, cvt_8u, cvt_8w, bin_add64, bin_mul64, bin_sub64, bin_and51, bin_and32, bin_and1, bin_and8_1, bin_or64, bin_xor64, bin_or8, bin_shl64, bin_shl64j, bin_shr64, bin_shr64j, bin_shl8j, bin_shr8j, bin_quo64, bin_rem64, bin_quo32, bin_rem32, bin_addj, bin_subj, bin_quoj, bin_remj, bin_eqlj, bin_neqj, bin_lssj, bin_leqj, bin_gtrj, bin_geqj, bin_eql64, bin_lss64, bin_gtr64, bin_eql8, bin_rem8, lenA_tx, ex_prim, primA_some, AS.lits, prim_ix, prim_sub, prim_sub2, prim_min, prim_ib, ex_b2s, textOf_eq, textA_sl, textA_nil, lend_own, lendRow_row, lend_sl, lend_lit, bin_adds, bin_eqls, bin_neqs, bin_geq8, bin_leq8, bin_lss8, bin_gtr8, bin_neq8, bin_sub8, bin_quo8, bin_add8, bin_mulj, cvt_j8, cvt_8j, AOp.mineB, AV.place, ex_rdp, ex_rd, rdB, bnds, efF, bin_shrju, bin_shlju, listB_tx, listB_sl, listB_nil, ex_tups, bound_jn, AV.isText, keyA_arr, bl_len, zk_len, nameK_len]; exact rfl) ?_))
      refine wp_seq' (wp_rg ?_)
      refine areg_run 5 (by simp [runPre, AOp.ex, AOp.ex0, ex_mov, ex_bin, binA_lit, ex_cvt, ex_iaddrA, ex_iaddrS, ex_faddr, ex_load, ldA, ex_ext, ex_add64, add64A_un, ex_pick, ex_beq, ex_un, ex_len, lenA_sl, lenA_nil, lenA_str, lenA_own, lenRow_row, elA_own, elA_sl, elRow_row, ex_nilc, ex_build, ex_bslice, ex_fieldv, AOp.ro, AS.ev, AS.put, AS.fieldAddr, idxA_ptr, idxA_cptr, AS.peek, AS.poke, AS.blk, AS.setBlk, AV.nav, AV.upd, Blk.loc, Blk.cont, Blk.n, Blk.may, Blk.upd, AV.isAgg, AV.isTup, AV.sz, unVal, ownOk, fillAV, AV.sub, cvt_64j, cvt_64b, cvt_64w, cvt_8u, cvt_8w, bin_add64, bin_mul64, bin_sub64, bin_and51, bin_and32, bin_and1, bin_and8_1, bin_or64, bin_xor64, bin_or8, bin_shl64, bin_shl64j, bin_shr64, bin_shr64j, bin_shl8j, bin_shr8j, bin_quo64, bin_rem64, bin_quo32, bin_rem32, bin_addj, bin_subj, bin_quoj, bin_remj, bin_eqlj, bin_neqj, bin_lssj, bin_leqj, bin_gtrj, bin_geqj, bin_eql64, bin_lss64, bin_gtr64, bin_eql8, bin_rem8, lenA_tx, ex_prim, primA_some, AS.lits, prim_ix, prim_sub, prim_sub2, prim_min, prim_ib, ex_b2s, textOf_eq, textA_sl, textA_nil, lend_own, lendRow_row, lend_sl, lend_lit, bin_adds, bin_eqls, bin_neqs, bin_geq8, bin_leq8, bin_lss8, bin_gtr8, bin_neq8, bin_sub8, bin_quo8, bin_add8, bin_mulj, cvt_j8, cvt_8j, AOp.mineB, AV.place, ex_rdp, ex_rd, rdB, bnds, efF, bin_shrju, bin_shlju, listB_tx, listB_sl, listB_nil, ex_tups, bound_jn, AV.isText, keyA_arr, bl_len, zk_len, nameK_len, gc, g1, g2, hlt, klA_len, hx32]; exact rfl) ?_
      refine areg_xq (us := [clo, keyA x]) rfl (htg _) hnm1 ⟨_, _, rfl, .slice none 0 0, rfl⟩ (fun r hp' _ t' ht' => by cases ht') ?_
      rintro r H' ⟨rfl, Vt', rfl⟩
      refine areg_end (by simp [runPre, AOp.ex, AOp.ex0, ex_mov, ex_bin, binA_lit, ex_cvt, ex_iaddrA, ex_iaddrS, ex_faddr, ex_load, ldA, ex_ext, ex_add64, add64A_un, ex_pick, ex_beq, ex_un, ex_len, lenA_sl, lenA_nil, lenA_str, lenA_own, lenRow_row, elA_own, elA_sl, elRow_row, ex_nilc, ex_build, ex_bslice, ex_fieldv, AOp.ro, AS.ev, AS.put, AS.fieldAddr, idxA_ptr, idxA_cptr, AS.peek, AS.poke, AS.blk, AS.setBlk, AV.nav, AV.upd, Blk.loc, Blk.cont, Blk.n, Blk.may, Blk.upd, AV.isAgg, AV.isTup, AV.sz, unVal, ownOk, fillAV, AV.sub, cvt_64j, cvt_64b, cvt_64w, cvt_8u, cvt_8w, bin_add64, bin_mul64, bin_sub64, bin_and51, bin_and32, bin_and1, bin_and8_1, bin_or64, bin_xor64, bin_or8, bin_shl64, bin_shl64j, bin_shr64, bin_shr64j, bin_shl8j, bin_shr8j, bin_quo64, bin_rem64, bin_quo32, bin_rem32, bin_addj, bin_subj, bin_quoj, bin_remj, bin_eqlj, bin_neqj, bin_lssj, bin_leqj, bin_gtrj, bin_geqj, bin_eql64, bin_lss64, bin_gtr64, bin_eql8, bin_rem8, lenA_tx, ex_prim, primA_some, AS.lits, prim_ix, prim_sub, prim_sub2, prim_min, prim_ib, ex_b2s, textOf_eq, textA_sl, textA_nil, lend_own, lendRow_row, lend_sl, lend_lit, bin_adds, bin_eqls, bin_neqs, bin_geq8, bin_leq8, bin_lss8, bin_gtr8, bin_neq8, bin_sub8, bin_quo8, bin_add8, bin_mulj, cvt_j8, cvt_8j, AOp.mineB, AV.place, ex_rdp, ex_rd, rdB, bnds, efF, bin_shrju, bin_shlju, listB_tx, listB_sl, listB_nil, ex_tups, bound_jn, AV.isText, keyA_arr, bl_len, zk_len, nameK_len]; exact rfl) ?_
      by_cases hk : kk = h.one
      · rw [if_pos hk] at hI
        refine wp_cond_t (by simp [AS.ev, AS.put, hk]) ?_
        refine wp_sr (by simp [runPre, AOp.ex, AOp.ex0, ex_mov, ex_bin, binA_lit, ex_cvt, ex_iaddrA, ex_iaddrS, ex_faddr, ex_load, ldA, ex_ext, ex_add64, add64A_un, ex_pick, ex_beq, ex_un, ex_len, lenA_sl, lenA_nil, lenA_str, lenA_own, lenRow_row, elA_own, elA_sl, elRow_row, ex_nilc, ex_build, ex_bslice, ex_fieldv, AOp.ro, AS.ev, AS.put, AS.fieldAddr, idxA_ptr, idxA_cptr, AS.peek, AS.poke, AS.blk, AS.setBlk, AV.nav, AV.upd, Blk.loc, Blk.cont, Blk.n, Blk.may, Blk.upd, AV.isAgg, AV.isTup, AV.sz, unVal, ownOk, fillAV, AV.sub, cvt_64j, cvt_64b, cvt_64w, cvt_8u, cvt_8w, bin_add64, bin_mul64, bin_sub64, bin_and51, bin_and32, bin_and1, bin_and8_1, bin_or64, bin_xor64, bin_or8, bin_shl64, bin_shl64j, bin_shr64, bin_shr64j, bin_shl8j, bin_shr8j, bin_quo64, bin_rem64, bin_quo32, bin_rem32, bin_addj, bin_subj, bin_quoj, bin_remj, bin_eqlj, bin_neqj, bin_lssj, bin_leqj, bin_gtrj, bin_geqj, bin_eql64, bin_lss64, bin_gtr64, bin_eql8, bin_rem8, lenA_tx, ex_prim, primA_some, AS.lits, prim_ix, prim_sub, prim_sub2, prim_min, prim_ib, ex_b2s, textOf_eq, textA_sl, textA_nil, lend_own, lendRow_row, lend_sl, lend_lit, bin_adds, bin_eqls, bin_neqs, bin_geq8, bin_leq8, bin_lss8, bin_gtr8, bin_neq8, bin_sub8, bin_quo8, bin_add8, bin_mulj, cvt_j8, cvt_8j, AOp.mineB, AV.place, ex_rdp, ex_rd, rdB, bnds, efF, bin_shrju, bin_shlju, listB_tx, listB_sl, listB_nil, ex_tups, bound_jn, AV.isText, keyA_arr, bl_len, zk_len, nameK_len]; exact rfl) (wp_ret' ?_)
        refine ⟨_, Le.refl _, finX1 (v := .lit (jn i)) rfl (by simp) ⟨_, tbOf H t Vt' ts2, RelLe.refl _, by simp, HpLe.trim _ _, by rw [← hI]; rfl, Vt', by rw [← hI]; exact (hh.of_of _ _ _ _).symm⟩⟩
      · rw [if_neg hk] at hI
        refine wp_cond_f (by simp [AS.ev, AS.put, hk]) (wp_skip' ?_)
        refine wp_r (by simp [runPre, AOp.ex, AOp.ex0, ex_mov, ex_bin, binA_lit, ex_cvt, ex_iaddrA, ex_iaddrS, ex_faddr, ex_load, ldA, ex_ext, ex_add64, add64A_un, ex_pick, ex_beq, ex_un, ex_len, lenA_sl, lenA_nil, lenA_str, lenA_own, lenRow_row, elA_own, elA_sl, elRow_row, ex_nilc, ex_build, ex_bslice, ex_fieldv, AOp.ro, AS.ev, AS.put, AS.fieldAddr, idxA_ptr, idxA_cptr, AS.peek, AS.poke, AS.blk, AS.setBlk, AV.nav, AV.upd, Blk.loc, Blk.cont, Blk.n, Blk.may, Blk.upd, AV.isAgg, AV.isTup, AV.sz, unVal, ownOk, fillAV, AV.sub, cvt_64j, cvt_64b, cvt_64w, cvt_8u, cvt_8w, bin_add64, bin_mul64, bin_sub64, bin_and51, bin_and32, bin_and1, bin_and8_1, bin_or64, bin_xor64, bin_or8, bin_shl64, bin_shl64j, bin_shr64, bin_shr64j, bin_shl8j, bin_shr8j, bin_quo64, bin_rem64, bin_quo32, bin_rem32, bin_addj, bin_subj, bin_quoj, bin_remj, bin_eqlj, bin_neqj, bin_lssj, bin_leqj, bin_gtrj, bin_geqj, bin_eql64, bin_lss64, bin_gtr64, bin_eql8, bin_rem8, lenA_tx, ex_prim, primA_some, AS.lits, prim_ix, prim_sub, prim_sub2, prim_min, prim_ib, ex_b2s, textOf_eq, textA_sl, textA_nil, lend_own, lendRow_row, lend_sl, lend_lit, bin_adds, bin_eqls, bin_neqs, bin_geq8, bin_leq8, bin_lss8, bin_gtr8, bin_neq8, bin_sub8, bin_quo8, bin_add8, bin_mulj, cvt_j8, cvt_8j, AOp.mineB, AV.place, ex_rdp, ex_rd, rdB, bnds, efF, bin_shrju, bin_shlju, listB_tx, listB_sl, listB_nil, ex_tups, bound_jn, AV.isText, keyA_arr, bl_len, zk_len, nameK_len, q1]; exact rfl) ?_
        refine Exists.intro (i + 1, ts2, Vt') ⟨⟨hI, by omega, hput, by simp only; omega⟩, by simp only; omega, Le.mk rfl (by simp [leT]) (leH_refl _)⟩
    · have hin : i = ks.length := by omega
      subst hin
      rw [List.drop_length, idxF] at hI
      refine wp_sr (by simp [runPre, AOp.ex, AOp.ex0, ex_mov, ex_bin, binA_lit, ex_cvt, ex_iaddrA, ex_iaddrS, ex_faddr, ex_load, ldA, ex_ext, ex_add64, add64A_un, ex_pick, ex_beq, ex_un, ex_len, lenA_sl, lenA_nil, lenA_str, lenA_own, lenRow_row, elA_own, elA_sl, elRow_row, ex_nilc, ex_build, ex_bslice, ex_fieldv, AOp.ro, AS.ev, AS.put, AS.fieldAddr, idxA_ptr, idxA_cptr, AS.peek, AS.poke, AS.blk, AS.setBlk, AV.nav, AV.upd, Blk.loc, Blk.cont, Blk.n, Blk.may, Blk.upd, AV.isAgg, AV.isTup, AV.sz, unVal, ownOk, fillAV, AV.sub, cvt_64j, cvt_64b, cvt_64w, cvt_8u, cvt_8w, bin_add64, bin_mul64, bin_sub64, bin_and51, bin_and32, bin_and1, bin_and8_1, bin_or64, bin_xor64, bin_or8, bin_shl64, bin_shl64j, bin_shr64, bin_shr64j, bin_shl8j, bin_shr8j, bin_quo64, bin_rem64, bin_quo32, bin_rem32, bin_addj, bin_subj, bin_quoj, bin_remj, bin_eqlj, bin_neqj, bin_lssj, bin_leqj, bin_gtrj, bin_geqj, bin_eql64, bin_lss64, bin_gtr64, bin_eql8, bin_rem8, lenA_tx, ex_prim, primA_some, AS.lits, prim_ix, prim_sub, prim_sub2, prim_min, prim_ib, ex_b2s, textOf_eq, textA_sl, textA_nil, lend_own, lendRow_row, lend_sl, lend_lit, bin_adds, bin_eqls, bin_neqs, bin_geq8, bin_leq8, bin_lss8, bin_gtr8, bin_neq8, bin_sub8, bin_quo8, bin_add8, bin_mulj, cvt_j8, cvt_8j, AOp.mineB, AV.place, ex_rdp, ex_rd, rdB, bnds, efF, bin_shrju, bin_shlju, listB_tx, listB_sl, listB_nil, ex_tups, bound_jn, AV.isText, keyA_arr, bl_len, zk_len, nameK_len]; exact rfl) (wp_seq' (wp_cond_f (by simp [AS.ev]) (wp_exit' (if_hit rfl ?_))))
      refine wp_sr (by simp [runPre, AOp.ex, AOp.ex0, ex_mov, ex_bin, binA_lit, ex_cvt, ex_iaddrA, ex_iaddrS, ex_faddr, ex_load, ldA, ex_ext, ex_add64, add64A_un, ex_pick, ex_beq, ex_un, ex_len, lenA_sl, lenA_nil, lenA_str, lenA_own, lenRow_row, elA_own, elA_sl, elRow_row, ex_nilc, ex_build, ex_bslice, ex_fieldv, AOp.ro, AS.ev, AS.put, AS.fieldAddr, idxA_ptr, idxA_cptr, AS.peek, AS.poke, AS.blk, AS.setBlk, AV.nav, AV.upd, Blk.loc, Blk.cont, Blk.n, Blk.may, Blk.upd, AV.isAgg, AV.isTup, AV.sz, unVal, ownOk, fillAV, AV.sub, cvt_64j, cvt_64b, cvt_64w, cvt_8u, cvt_8w, bin_add64, bin_mul64, bin_sub64, bin_and51, bin_and32, bin_and1, bin_and8_1, bin_or64, bin_xor64, bin_or8, bin_shl64, bin_shl64j, bin_shr64, bin_shr64j, bin_shl8j, bin_shr8j, bin_quo64, bin_rem64, bin_quo32, bin_rem32, bin_addj, bin_subj, bin_quoj, bin_remj, bin_eqlj, bin_neqj, bin_lssj, bin_leqj, bin_gtrj, bin_geqj, bin_eql64, bin_lss64, bin_gtr64, bin_eql8, bin_rem8, lenA_tx, ex_prim, primA_some, AS.lits, prim_ix, prim_sub, prim_sub2, prim_min, prim_ib, ex_b2s, textOf_eq, textA_sl, textA_nil, lend_own, lendRow_row, lend_sl, lend_lit, bin_adds, bin_eqls, bin_neqs, bin_geq8, bin_leq8, bin_lss8, bin_gtr8, bin_neq8, bin_sub8, bin_quo8, bin_add8, bin_mulj, cvt_j8, cvt_8j, AOp.mineB, AV.place, ex_rdp, ex_rd, rdB, bnds, efF, bin_shrju, bin_shlju, listB_tx, listB_sl, listB_nil, ex_tups, bound_jn, AV.isText, keyA_arr, bl_len, zk_len, nameK_len]; exact rfl) (wp_ret' ?_)
      refine ⟨_, Le.refl _, finX1 (v := .lit (.int .i64 (-1))) rfl (by simp) ⟨_, tbOf H t Vt ts1, RelLe.refl _, by simp, HpLe.trim _ _, by rw [← hI]; rfl, Vt, by rw [← hI]; exact (hh.of_of _ _ _ _).symm⟩⟩
end Go.Cab

/- Bundle: one taken out of a list, in place. -/
-- TEXTS
-- KIT
namespace Go.Cab
open Go.RowKit Go.Lib Go.Sort Go.Proofs

def zb : Value := .int .u8 0
theorem zero_rep (n : Nat) : (Builtin.zeroCells (Array.replicate 32 zb) n).toList = List.replicate (n * 32) zb := by
  simp [Builtin.zeroCells]
  apply List.ext_getElem
  · simp
  · intro i h1 h2
    simp
    rw [getElem!_pos _ _ (by simp; omega)]
    simp
theorem run_clear32 (W : World) (ty : TypeId) (b o n c : Nat) (hn : 0 < n) (hc : ∀ j, j < n * 32 → (W.cell? ⟨b, o + j, none⟩).isSome = true) (hf : ∀ j, j < n * 32 → W.frozen? ⟨b, o + j, none⟩ = false) :
    (Builtin.clear_ #[29] ty #[.slice (some ⟨b, o, none⟩) n c]).run Try.prog W = .ok (.tuple #[]) (W.setCells b o (List.replicate (n * 32) zb)) := by
  have hv : ∀ w, (zeroValue 28).run Try.prog w = .ok (.agg (Array.replicate 32 zb)) w := Try.zeroValue28
  have hst := run_storeCells_cells (P := Try.prog) b o (List.replicate (n * 32) zb) 0 W (by simpa using hc) (by simpa using hf) (by intro v hv'; rw [List.eq_of_mem_replicate hv']; rfl)
  simp only [Nat.add_zero] at hst
  obtain ⟨m, rfl⟩ : ∃ m, n = m + 1 := ⟨n - 1, by omega⟩
  have hz : (Value.agg (Array.replicate 32 zb)).cells = Array.replicate 32 zb := rfl
  simp [Builtin.clear_, run_underlying Try.underlying29, hv, hz, zero_rep, hst]

set_option maxHeartbeats 4000000 in
set_option maxRecDepth 1000000 in
theorem del_raw (g cap i j n : Nat) (cs : List Value) (w : World) (hlen : cs.length = n * 32) (hcell : ∀ k u, cs[k]? = some u → w.cell? ⟨g, 0 + k, none⟩ = some u) (hfz : ∀ k, k < n * 32 → w.frozen? ⟨g, 0 + k, none⟩ = false)
    (h1c : ∀ u ∈ cs, u.oneCell' = true) (hcap : n ≤ cap) (hm : cap ≤ 9223372036854775807) (hij : i < j) (hj : j ≤ n) :
    Calls Try.prog 20 #[.slice (some ⟨g, 0, none⟩) n cap, .int .i64 i, .int .i64 j] w fun e w' => e = .returned (.slice (some ⟨g, 0, none⟩) (i + (n - j)) cap) ∧
      w' = (w.drew.setCells g (i * 32) (cs.drop (j * 32))).setCells g ((i + (n - j)) * 32) (List.replicate ((j - i) * 32) zb) := by
  have mixed : Try.prog.follows .mixedOrders = true := by kernel_rfl
  obtain ⟨i0, hi0, hz0, hz1, hz2⟩ := info_parts (P := Try.prog) (e := 28) (by kernel_rfl : (Try.prog.info? 28).map (fun i => (i.zero, i.size, i.bytes)) = some (some (.agg (Array.replicate 32 zb)), 32, 32))
  have t0 := @Try.underlying0; have t3 := @Try.underlying3; have t4 := @Try.underlying4; have t29 := @Try.underlying29
  have heq : i ≠ j := by omega
  obtain ⟨news, hnews⟩ : ∃ news, news = cs.drop (j * 32) := ⟨_, rfl⟩
  have hnl : news.length = (n - j) * 32 := by rw [hnews, List.length_drop, hlen]; omega
  have hget : ∀ t u, news[t]? = some u → w.cell? ⟨g, 0 + (j * 32 + t), none⟩ = some u := fun t u hu => by
    rw [hnews, List.getElem?_drop] at hu
    exact hcell _ _ hu
  obtain ⟨A, hA, hsrc⟩ : ∃ A : Addr, (if cap = j then some (⟨g, 0, none⟩ : Addr) else some ⟨g, j * 32, none⟩) = some A ∧ Hid (∀ t u, news[t]? = some u → w.drew.cell? (A.add t) = some u) := by
    by_cases h : cap = j
    · refine ⟨⟨g, 0, none⟩, by simp [h], fun t u hu => ?_⟩
      have h0 : news.length = 0 := by rw [hnl]; omega
      rw [List.length_eq_zero_iff.1 h0] at hu
      simp at hu
    · refine ⟨⟨g, j * 32, none⟩, by simp [h], fun t u hu => ?_⟩
      rw [Addr.add_lit]
      have := hget t u hu
      rwa [Nat.zero_add] at this
  have s1 : Hid (news.length = (n - j) * 32) := hnl
  have s2 : Hid (∀ u ∈ news, u.oneCell' = true) := by
    intro u hu
    rw [hnews] at hu
    exact h1c u (List.mem_of_mem_drop hu)
  have s3 : Hid (∀ t, t < news.length → (w.drew.cell? ⟨g, 0 + i * 32 + t, none⟩).isSome = true ∧ w.drew.frozen? ⟨g, 0 + i * 32 + t, none⟩ = false) := by
    intro t ht
    rw [hnl] at ht
    have hlt : i * 32 + t < cs.length := by omega
    refine ⟨?_, ?_⟩
    · rw [Nat.add_assoc]
      show (w.cell? _).isSome = true
      rw [hcell (i * 32 + t) _ (List.getElem?_eq_getElem hlt)]; rfl
    · rw [Nat.add_assoc]; exact hfz _ (by omega)
  obtain ⟨W1, hW1⟩ : ∃ W1, W1 = w.drew.setCells g (0 + i * 32) news := ⟨_, rfl⟩
  have hcl : ∀ ty, (Builtin.clear_ #[29] ty #[.slice (some ⟨g, (i + (n - j)) * 32, none⟩) (n - (i + (n - j))) (cap - (i + (n - j)))]).run Try.prog W1 = .ok (.tuple #[]) (W1.setCells g ((i + (n - j)) * 32) (List.replicate ((n - (i + (n - j))) * 32) zb)) := by
    intro ty
    refine run_clear32 W1 ty g _ _ _ (by omega) (fun t ht => ?_) (fun t ht => ?_)
    · rw [hW1]
      refine World.isSome_setCells g news _ _ _ ?_
      have hlt : (i + (n - j)) * 32 + t < cs.length := by omega
      have := hcell _ _ (List.getElem?_eq_getElem hlt)
      rw [Nat.zero_add] at this
      show (w.cell? _).isSome = true
      rw [this]; rfl
    · rw [hW1, World.frozen?_setCells]
      have := hfz ((i + (n - j)) * 32 + t) (by omega)
      rwa [Nat.zero_add] at this
  have X : Aside (W1 = w.drew.setCells g (0 + i * 32) news) := hW1
  have hW : Hid (W1 = w.drew.setCells g (0 + i * 32) news) := hW1
  have hN : Hid (news = cs.drop (j * 32)) := hnews
  have hic : i ≤ cap := by omega
  have hjc : j ≤ cap := by omega
  clear hW1 hcell hfz h1c hnews hnl hget hlen
  go_enter Try.func20, Try.ntmps20
  go_wp2_with fail
  go_region_law_o (refine step_append_room rfl (.tmp 22) (.tmp 25) 29 rfl 28 i0 32 t29 hi0 hz1 g 0 i cap (by simp [Act.eval, Act.put]) A (n - j) (cap - j) news (by simp [Act.eval, Act.put]) s1.out hsrc.out s2.out (by omega) s3.out ?_; rw [← hW.out])
  go_wp2
  go_ret
  refine ⟨rfl, ?_⟩
  rw [X.out, hN.out, show n - (i + (n - j)) = j - i by omega, Nat.zero_add]

/-- The world with one row's object turned. -/
theorem turnRow {w0 wk w w' : World} {regs : List (Nat × Nat × Nat)} {St Imm : Nat → Nat → Prop} {hp : List (Option Blk)} {c g : Nat} {x x' : Blk} (hfr : Fr regs w0 w) (h1 : ImmOk w0 wk St Imm w) (h3 : HeapOk w0 regs Imm hp w) (hb : (hp[c]?).join = some x)
    (hfx : ∀ b o, x.foot b o ↔ b = g) (hfx' : ∀ b o, x'.foot b o ↔ b = g) (hI : ∀ o, ¬ Imm g o) (hos : w'.os = w.os) (htp : w'.tape = w.tape) (hot : w'.output = w.output) (hsize : w'.heap.size = w.heap.size)
    (hoth : ∀ k, k ≠ g → w'.heap[k]? = w.heap[k]?) (hfro : ∀ k o, w'.frozen? ⟨k, o, none⟩ = w.frozen? ⟨k, o, none⟩) (hx' : x'.ok Imm w') : Fr regs w0 w' ∧ ImmOk w0 wk St Imm w' ∧ HeapOk w0 regs Imm (hp.set c (some x')) w' := by
  obtain ⟨hok, hfoot⟩ := h3.ok _ _ hb
  have hcell : ∀ k o, k ≠ g → w'.cell? ⟨k, o, none⟩ = w.cell? ⟨k, o, none⟩ := fun k o hk => by
    simp only [World.cell?, hoth k hk]
  have hImm : ∀ b o, Imm b o → w'.cell? ⟨b, o, none⟩ = w.cell? ⟨b, o, none⟩ := fun b o hb => hcell b o (fun he => hI o (he ▸ hb))
  have hreg : g < w0.heap.size → ∀ o, inReg regs g o := fun h o => ((hfoot g o ((hfx g o).2 rfl)).2.resolve_left (by omega))
  refine ⟨?_, ⟨h1.sub, h1.old, fun b o hb => by rw [hImm b o hb]; exact h1.there b o hb, fun b o hb => by rw [hImm b o (h1.sub b o hb)]; exact h1.val b o hb⟩, ⟨fun k y hy => ?_, fun k k' y z hne hy hz => ?_⟩⟩
  · refine ⟨hos.trans hfr.os, htp.trans hfr.tape, hot.trans hfr.output, by rw [hsize]; exact hfr.size, fun k hk hr => ?_, fun b o hlb hn => ?_, fun b o hlb => by rw [hfro]; exact hfr.frozen b o hlb⟩
    · rw [hoth k (fun he => ?_)]
      · exact hfr.block k hk hr
      · subst he
        obtain ⟨q, hq, e, _⟩ := hreg hk 0
        exact hr q hq e.symm
    · rw [hcell b o (fun he => ?_)]
      · exact hfr.cell b o hlb hn
      · subst he; exact hn (hreg hlb o)
  · rcases hp_set hy with ⟨rfl, rfl⟩ | ⟨hkb, hy'⟩
    · refine ⟨hx', fun b' o hf => ?_⟩
      obtain rfl := (hfx' b' o).1 hf
      rw [hsize]
      exact hfoot b' o ((hfx b' o).2 rfl)
    · obtain ⟨hyo, hyf⟩ := h3.ok k y hy'
      have hne : ∀ b' o, y.foot b' o → b' ≠ g := fun b' o hf he => by
        subst he
        exact h3.apart k c y x hkb hy' hb b' o hf ((hfx b' o).2 rfl)
      refine ⟨hyo.keep (fun _ _ h => h) hImm (fun _ _ _ h => h) (fun b' o hf => hcell b' o (hne b' o hf)) (fun b' o _ => hfro b' o) (fun b' hw => hoth b' (hne b' 0 (Blk.whole_foot hw 0))), fun b' o hf => by rw [hsize]; exact hyf b' o hf⟩
  · intro b' o hf hf'
    rcases hp_set hy with ⟨rfl, rfl⟩ | ⟨hkb, hy'⟩
    · rcases hp_set hz with ⟨rfl, rfl⟩ | ⟨hkb', hz'⟩
      · exact hne rfl
      · exact h3.apart _ k' x z hne hb hz' b' o ((hfx b' o).2 ((hfx' b' o).1 hf)) hf'
    · rcases hp_set hz with ⟨rfl, rfl⟩ | ⟨hkb', hz'⟩
      · exact h3.apart k _ y x hne hy' hb b' o hf ((hfx b' o).2 ((hfx' b' o).1 hf'))
      · exact h3.apart k k' y z hne hy' hz' b' o hf hf'

theorem wsetCells (b : Nat) : ∀ (vs : List Value) (o : Nat) (w : World), w.setCells b o vs = Cab.setCells b o vs w
  | [], _, _ => rfl
  | v :: vs, o, w => by rw [World.setCells, Cab.setCells, wsetCells b vs]

set_option maxHeartbeats 4000000 in
theorem delete_call {H : List (Option Blk)} {c i j e : Nat} {V : Value} {els : List AV} (hc : H[c]? = some (some (.row e V 32 els 0))) (hij : i < j) (hj : j ≤ els.length) :
    XCall Go.Proofs.Try.prog 20 [.own c V, .lit (jn i), .lit (jn j)] H fun r H' => ∃ V', r = .own c V' ∧ H' = H.set c (some (.row e V' 32 (els.take i ++ els.drop j) 0)) := by
  intro w0 w regs Imm Vs hfr hth hheap hargs
  match Vs, hargs with
  | [V0, V1, V2], ⟨a0, a1, a2, _⟩ =>
    obtain ⟨rfl, _⟩ := a1.lit
    obtain ⟨rfl, _⟩ := a2.lit
    have hV : V0 = V := by
      rcases a0 with h | ⟨cs, h, e⟩
      · cases h
      · cases h; exact e
    subst hV
    have hcj : (H[c]?).join = some (.row e V0 32 els 0) := by rw [hc]; rfl
    obtain ⟨⟨cs, hR, hown, hsV, _, hnI⟩, hfoot⟩ := hheap.ok c _ hcj
    obtain ⟨hlen, hown2⟩ := hown
    rcases hown2 with ⟨_, hn⟩ | ⟨g, cap, cur, rfl, h0, hg, hcapn, hcapm, hcs, htake⟩
    · omega
    have hscs : ∀ u ∈ cs, sc u = true := hR.scs rfl
    have hcellw : ∀ k, w.cell? ⟨g, k, none⟩ = cur[k]? := fun k => cell_of_row w g k cur e (0, 0) hg
    have hcur : ∀ k u, cs[k]? = some u → cur[k]? = some u := fun k u hu => by
      rw [← htake, List.getElem?_take] at hu
      split at hu
      · simpa using hu
      · cases hu
    have hraw := del_raw g cap i j els.length cs w hlen (fun k u hu => by rw [Nat.zero_add, hcellw]; exact hcur k u hu) (fun k hk => frozen_of_row w g _ cur e hg) (fun u hu => oneCell_of_sc (hscs u hu)) hcapn (by simp only [maxLen] at hcapm; omega) hij hj
    refine Calls.mono hraw ?_
    rintro e' w' ⟨rfl, rfl⟩
    rw [wsetCells, wsetCells]
    have hel : (els.take i ++ els.drop j).length = i + (els.length - j) := by rw [List.length_append, List.length_take, List.length_drop]; omega
    have hnl : (cs.drop (j * 32)).length = (els.length - j) * 32 := by rw [List.length_drop, hlen]; omega
    have hdrew : w.drew.heap[g]? = some (.cells cur e (0, 0)) := hg
    obtain ⟨cur1, hg1, hs1⟩ := setCells_heap_same g (cs.drop (j * 32)) (i * 32) w.drew cur e (0, 0) hdrew
    obtain ⟨cur2, hg2, hs2⟩ := setCells_heap_same g (List.replicate ((j - i) * 32) zb) ((i + (els.length - j)) * 32) _ cur1 e (0, 0) hg1
    have hw2 := setCells_os g (List.replicate ((j - i) * 32) zb) ((i + (els.length - j)) * 32) (Cab.setCells g (i * 32) (cs.drop (j * 32)) w.drew)
    have hw1 := setCells_os g (cs.drop (j * 32)) (i * 32) w.drew
    have hz2 := setCells_size g (List.replicate ((j - i) * 32) zb) ((i + (els.length - j)) * 32) (Cab.setCells g (i * 32) (cs.drop (j * 32)) w.drew)
    have hz1 := setCells_size g (cs.drop (j * 32)) (i * 32) w.drew
    have hcell2 : ∀ k, k < (i + (els.length - j)) * 32 → (Cab.setCells g ((i + (els.length - j)) * 32) (List.replicate ((j - i) * 32) zb) (Cab.setCells g (i * 32) (cs.drop (j * 32)) w.drew)).cell? ⟨g, k, none⟩ = (cs.take (i * 32) ++ cs.drop (j * 32))[k]? := fun k hk => by
      rw [setCells_out _ _ _ _ _ _ (.inr (.inl hk))]
      have hlt : (cs.take (i * 32)).length = i * 32 := by rw [List.length_take, hlen]; omega
      by_cases hki : k < i * 32
      · rw [setCells_out _ _ _ _ _ _ (.inr (.inl hki)), List.getElem?_append_left (by omega), List.getElem?_take, if_pos hki]
        have h2 : k < cs.length := by omega
        show w.cell? ⟨g, k, none⟩ = _
        rw [hcellw, List.getElem?_eq_getElem h2]
        exact hcur k _ (List.getElem?_eq_getElem h2)
      · obtain ⟨t, rfl⟩ : ∃ t, k = i * 32 + t := ⟨k - i * 32, by omega⟩
        have h2 : t < (cs.drop (j * 32)).length := by omega
        rw [List.getElem?_append_right (by omega), hlt, Nat.add_sub_cancel_left, List.getElem?_eq_getElem h2]
        refine setCells_in g _ _ _ (fun q hq => ?_) t _ (List.getElem?_eq_getElem h2)
        show (w.cell? _).isSome = true
        have h3 : i * 32 + q < cs.length := by omega
        rw [hcellw, hcur _ _ (List.getElem?_eq_getElem h3)]; rfl
    generalize hW2 : Cab.setCells g ((i + (els.length - j)) * 32) (List.replicate ((j - i) * 32) zb) (Cab.setCells g (i * 32) (cs.drop (j * 32)) w.drew) = W2 at *
    have hoth : ∀ k, k ≠ g → W2.heap[k]? = w.heap[k]? := fun k hk => by
      rw [← hW2, setCells_heap_other _ _ _ _ _ hk, setCells_heap_other _ _ _ _ _ hk]; rfl
    have hfro : ∀ k o, W2.frozen? ⟨k, o, none⟩ = w.frozen? ⟨k, o, none⟩ := fun k o => by
      rw [← hW2, setCells_frozen, setCells_frozen]; rfl
    have hng : ∀ o, ¬ Imm g o := fun o => hnI g o rfl (by omega)
    have hImmW : ∀ b o, Imm b o → W2.cell? ⟨b, o, none⟩ = w.cell? ⟨b, o, none⟩ := fun b o hb => by
      have : b ≠ g := fun he => hng o (he ▸ hb)
      simp only [World.cell?, hoth b this]
    have hR' : R Imm W2 (.arr 32 (els.take i ++ els.drop j)) (cs.take (i * 32) ++ cs.drop (j * 32)) := (R.app (R_arr_drop i hR).2 (R_arr_drop j hR).1).mono (fun _ _ h => h) hImmW
    have hcl : (cs.take (i * 32) ++ cs.drop (j * 32)).length = (i + (els.length - j)) * 32 := by rw [List.length_append, List.length_take, hnl, hlen]; omega
    have hx' : (Blk.row e (.slice (some ⟨g, 0, none⟩) (i + (els.length - j)) cap) 32 (els.take i ++ els.drop j) 0).ok Imm W2 := by
      refine ⟨_, hR', ⟨by rw [hel]; exact hcl, .inr ⟨g, cap, cur2, by rw [hel], Nat.zero_le _, hg2, by rw [hel]; omega, hcapm, by rw [hs2, hs1]; exact hcs, ?_⟩⟩, rfl, Nat.zero_le _, fun b o hb _ => by
        have : g = b := by simpa [Value.ownBlock] using hb
        subst this
        exact hng o⟩
      rw [hel]
      apply List.ext_getElem?
      intro k
      rw [List.getElem?_take]
      by_cases hk : k < (i + (els.length - j)) * 32
      · rw [if_pos hk, ← hcell2 k hk, cell_of_row W2 g k cur2 e (0, 0) hg2]
        simp
      · rw [if_neg hk, List.getElem?_eq_none (by omega)]
    have hf0 : ∀ (n' : Nat) (es : List AV) (b o : Nat), (Blk.row e (.slice (some ⟨g, 0, none⟩) n' cap) 32 es 0).foot b o ↔ b = g := fun n' es b o => by
      simp only [Blk.foot, Value.ownBlock, Option.map_some, Option.some.injEq]
      exact eq_comm
    obtain ⟨f1, f2, f3⟩ := turnRow (wk := w) (St := Imm) hfr ⟨fun _ _ h => h, fun _ _ h _ => h, hth, fun _ _ _ => rfl⟩ hheap hcj (hf0 _ _) (hf0 (i + (els.length - j)) (els.take i ++ els.drop j)) hng (hw2.1.trans hw1.1) (hw2.2.1.trans hw1.2.1) (hw2.2.2.trans hw1.2.2) (hz2.trans hz1) hoth hfro hx'
    exact ⟨_, .own c (.slice (some ⟨g, 0, none⟩) (i + (els.length - j)) cap), _, Imm, rfl, ⟨_, rfl, rfl⟩, f1, f2, .inr ⟨_, .own c _ rfl, rfl⟩, by simp, f3⟩
end Go.Cab

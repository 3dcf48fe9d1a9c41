/- Field: contracts by limbs. -/
import Derived.Test.YtjkckdiepdbfeaaCabM1
import Derived.Test.YtjkckdiepdbfeaaCabF3
set_option linter.unusedSimpArgs false
set_option linter.unusedVariables false
set_option linter.unusedSectionVars false
namespace Go.Cab
def fb37 : AC := (.seq (.reg [⟨(.some 2), .none, (.box 5 (.tmp 0)), [], .none⟩, ⟨(.some 4), .none, (.alloc 5 (.st [5] [(.arr 1 (List.replicate 5 (.lit (un 0))))])), [], .none⟩]) (.seq (.seq (.reg [⟨(.some 8), .none, (.mov (.tmp 1)), [], .none⟩, ⟨(.some 9), .none, (.len .false (.tmp 8)), [], .none⟩, ⟨(.some 10), .none, (.mov (.const (jn 0))), [], .none⟩]) (.block 0 (.loop (.seq (.reg [⟨(.some 11), .none, (.bin .lss (.tmp 10) (.tmp 9)), [], .none⟩]) (.seq (.cond (.tmp 11) .skip (.exit 0)) (.seq (.block 1 (.seq (.reg [⟨(.some 12), .none, (.iaddrS 5 (.tmp 8) (.tmp 10)), [], .none⟩, ⟨(.some 13), .none, (.load .true 5 (.tmp 12)), [], .none⟩, ⟨(.some 6), .none, (.alloc 5 (.st [5] [(.arr 1 (List.replicate 5 (.lit (un 0))))])), [], .none⟩, ⟨.none, .none, (.store 5 (.tmp 6) (.tmp 13)), [], .none⟩]) (.seq (.seq (.reg [⟨(.some 14), .none, (.mov (.const (jn 0))), [], .none⟩]) (.block 2 (.loop (.seq (.reg [⟨(.some 15), .none, (.bin .lss (.tmp 14) (.const (jn 5))), [], .none⟩]) (.seq (.cond (.tmp 15) .skip (.exit 2)) (.seq (.block 3 (.seq (.reg [⟨(.some 16), .none, (.mov (.tmp 14)), [], .none⟩, ⟨(.some 7), .none, (.mov (.tmp 16)), [], .none⟩]) (.reg [⟨(.some 17), .none, (.mov (.tmp 7)), [], .none⟩, ⟨(.some 18), .none, (.faddr 0 0 (.tmp 2)), [], .none⟩, ⟨(.some 19), .none, (.iaddrA 5 1 (.tmp 18) (.tmp 17)), [], .none⟩, ⟨(.some 20), .none, (.load .false 1 (.tmp 19)), [], .none⟩, ⟨(.some 21), .none, (.mov (.tmp 7)), [], .none⟩, ⟨(.some 22), .none, (.faddr 0 0 (.tmp 6)), [], .none⟩, ⟨(.some 23), .none, (.iaddrA 5 1 (.tmp 22) (.tmp 21)), [], .none⟩, ⟨(.some 24), .none, (.load .false 1 (.tmp 23)), [], .none⟩, ⟨(.some 25), .none, (.bin .add (.tmp 20) (.tmp 24)), [], .none⟩, ⟨(.some 26), .none, (.faddr 0 0 (.tmp 2)), [], .none⟩, ⟨(.some 27), .none, (.iaddrA 5 1 (.tmp 26) (.tmp 17)), [], .none⟩, ⟨.none, .none, (.store 1 (.tmp 27) (.tmp 25)), [], .none⟩]))) (.reg [⟨(.some 28), .none, (.bin .add (.tmp 14) (.const (jn 1))), [], .none⟩, ⟨(.some 14), .none, (.mov (.tmp 28)), [], .none⟩]))))))) (.reg [⟨(.some 29), .none, (.load .true 5 (.tmp 2)), [], .none⟩, ⟨(.some 30), .none, (.call 29 [(.tmp 29)]), [], .none⟩, ⟨.none, .none, (.store 5 (.tmp 2) (.tmp 30)), [], .none⟩])))) (.reg [⟨(.some 31), .none, (.bin .add (.tmp 10) (.const (jn 1))), [], .none⟩, ⟨(.some 10), .none, (.mov (.tmp 31)), [], .none⟩]))))))) (.seq (.reg [⟨(.some 32), .none, (.load .true 5 (.tmp 2)), [], .none⟩, ⟨.none, .none, (.store 5 (.tmp 4) (.tmp 32)), [], .none⟩]) .ret)))
def fc37 : FC := ⟨2, 33, [(.cell 4 .true 5)], fb37⟩
theorem fc37_eq : compF Go.Proofs.Try.prog 22 = some fc37 := by kernel_rfl

theorem least_L {P : Program} (h79 : compF P 29 = some fc79) (h74 : compF P 24 = some fc74) {l : L5} (hl : l.ok) : PCall P 24 [l.av] (.val (elAV (l.val % pp))) := by
  obtain ⟨a, b, c, d, e, hcc, ha, hb, hc, hd, he⟩ := least_nums hl
  have h1 := carry_L h79 hl.lim63
  have h2 := carry_L h79 (L5.carry_fine hl.lim63).ok.lim63
  have hv : l.val % pp = val5 a b c d e % pp := by
    rw [← L5.carry_mod l, ← L5.carry_mod l.carry, hcc]
    rfl
  rw [hcc] at h2
  have hlt := val5_lt ha hb hc hd he
  have hr := ripple (a + 19) b c d e
  have hs : val5 (a + 19) b c d e = val5 a b c d e + 19 := by unfold val5; omega
  have hrl := val5_lt (Nat.mod_lt (a + 19) (y := 2251799813685248) (by decide)) (Nat.mod_lt (cy2 (a + 19) b) (y := 2251799813685248) (by decide)) (Nat.mod_lt (cy3 (a + 19) b c) (y := 2251799813685248) (by decide)) (Nat.mod_lt (cy4 (a + 19) b c d) (y := 2251799813685248) (by decide)) (Nat.mod_lt (cy5 (a + 19) b c d e) (y := 2251799813685248) (by decide))
  rw [hv]
  by_cases hz : cy5 (a + 19) b c d e < 2251799813685248
  · have h3 := least_t h74 h1 h2 ha hb hc hd he hz
    have h0 : cy5 (a + 19) b c d e / 2251799813685248 = 0 := by omega
    rw [h0] at hr
    have h4 : val5 a b c d e % pp = val5 a b c d e := Nat.mod_eq_of_lt (by unfold pp; omega)
    rw [h4, ← L5.of_av, of_val5 ha hb hc hd he]
    exact h3
  · have h3 := least_f h74 h1 h2 ha hb hc hd he hz
    have h5 : val5 a b c d e % pp = val5 ((a + 19) % 2251799813685248) (cy2 (a + 19) b % 2251799813685248) (cy3 (a + 19) b c % 2251799813685248) (cy4 (a + 19) b c d % 2251799813685248) (cy5 (a + 19) b c d e % 2251799813685248) := by
      have h0 : cy5 (a + 19) b c d e / 2251799813685248 = 1 := by
        generalize val5 ((a + 19) % 2251799813685248) (cy2 (a + 19) b % 2251799813685248) (cy3 (a + 19) b c % 2251799813685248) (cy4 (a + 19) b c d % 2251799813685248) (cy5 (a + 19) b c d e % 2251799813685248) = r at *
        omega
      rw [h0] at hr
      generalize val5 ((a + 19) % 2251799813685248) (cy2 (a + 19) b % 2251799813685248) (cy3 (a + 19) b c % 2251799813685248) (cy4 (a + 19) b c d % 2251799813685248) (cy5 (a + 19) b c d e % 2251799813685248) = r at *
      unfold pp
      omega
    rw [h5, ← L5.of_av, of_val5 (Nat.mod_lt _ (by decide)) (Nat.mod_lt _ (by decide)) (Nat.mod_lt _ (by decide)) (Nat.mod_lt _ (by decide)) (Nat.mod_lt _ (by decide))]
    exact h3

theorem pp_lt (n : Nat) : n % pp < 57896044618658097711785492504343953926634992332820282019728792003956564819949 := Nat.mod_lt _ (by decide)

theorem bytes_L {P : Program} (h79 : compF P 29 = some fc79) (h74 : compF P 24 = some fc74) (h26 : compF P 11 = some fc26) {l : L5} (hl : l.ok) : PCall P 11 [l.av] (.val (keyAV (l.val % pp))) := by
  have h := bytes_call h26 (l.val % pp) rfl (least_L h79 h74 hl)
  have e : l.val % pp % 2 ^ 255 = l.val % pp := Nat.mod_eq_of_lt (Nat.lt_trans (pp_lt _) (by decide))
  rw [e] at h
  exact h

theorem from_L {P : Program} (h25 : compF P 10 = some fc25) (n : Nat) : PCall P 10 [keyAV n] (.val (L5.of (n % 2 ^ 255)).av) := by
  rw [L5.of_av]; exact from_call h25 n

theorem small_L {P : Program} (h28 : compF P 13 = some fc28) {n : Nat} (hn : n < 4294967296) : PCall P 13 [.lit (wn n)] (.val (L5.mk n 0 0 0 0).av) := small_call h28 hn

theorem minus_L {P : Program} (h79 : compF P 29 = some fc79) (h36 : compF P 21 = some fc36) {l m : L5} (hl : l.ok) (hm : m.ok) : PCall P 21 [l.av, m.av] (.val (l.minus m).av) := by
  have hf := L5.carry_fine hm.lim63
  refine minus_t h36 (carry_L h79 hm.lim63) hl.1 hl.2.1 hl.2.2.1 hl.2.2.2.1 hl.2.2.2.2 ?_ ?_ ?_ ?_ ?_ (carry_L h79 (L5.take_lim (m := m.carry) hl))
  · have := hf.1; omega
  · have := hf.2.1; omega
  · have := hf.2.2.1; omega
  · have := hf.2.2.2.1; omega
  · have := hf.2.2.2.2; omega

theorem choose_L {P : Program} (h38 : compF P 23 = some fc38) (sw : Bool) {l m : L5} (hl : l.ok) (hm : m.ok) : PCall P 23 [.lit (.bool sw), l.av, m.av] (.val (.tup [if sw then m.av else l.av, if sw then l.av else m.av])) :=
  choose_t h38 sw hl.1 hl.2.1 hl.2.2.1 hl.2.2.2.1 hl.2.2.2.2 hm.1 hm.2.1 hm.2.2.1 hm.2.2.2.1 hm.2.2.2.2

theorem foldl_take {α β : Type} (f : β → α → β) (z : β) (ls : List α) (i : Nat) (y : α) (h : ls[i]? = some y) : (ls.take (i + 1)).foldl f z = f ((ls.take i).foldl f z) y := by
  rw [List.take_add_one, h]
  simp

theorem plus_fold_ok {l : L5} (hl : l.ok) : ∀ {ls : List L5}, (∀ m ∈ ls, m.ok) → (ls.foldl L5.plus l).ok := by
  intro ls
  induction ls generalizing l with
  | nil => intro _; exact hl
  | cons m ls ih => intro h; exact ih (L5.plus_ok hl (h m (by simp))) (fun x hx => h x (by simp [hx]))

set_option maxHeartbeats 8000000 in
set_option maxRecDepth 20000 in
theorem plus_L {P : Program} (h79 : compF P 29 = some fc79) (h37 : compF P 22 = some fc37) {l : L5} (hl : l.ok) (ls : List L5) (hls : ∀ m ∈ ls, m.ok) (hn : ls.length < 9223372036854775807) : PCall P 22 [l.av, .sl 5 (ls.map L5.av)] (.val (ls.foldl L5.plus l).av) := by
  refine PCall.of h37 rfl ?_; show AC.wp _ fb37 (AS.init [l.av, .sl 5 (ls.map L5.av)] 2 33) (fun x s => match x with | .exit _ => False | _ => Fin [(.cell 4 .true 5)] s _); unfold fb37 AS.init
  refine wp_sg (areg_bx rfl rfl fun l1 => areg_al fun l2 => areg_nil ?_)
  refine wp_seq' (wp_seq' (wp_r (by simp [runPre, AOp.ex, AOp.ex0, ex_mov, ex_bin, binA_lit, ex_cvt, ex_iaddrA, ex_iaddrS, ex_faddr, ex_load, ldA, ex_ext, ex_add64, add64A_un, ex_pick, ex_beq, ex_un, ex_len, lenA_sl, lenA_nil, lenA_str, lenA_own, lenRow_row, elA_own, elA_sl, elRow_row, ex_nilc, ex_build, ex_bslice, ex_fieldv, AOp.ro, AS.ev, AS.put, AS.fieldAddr, idxA_ptr, idxA_cptr, AS.peek, AS.poke, AS.blk, AS.setBlk, AV.nav, AV.upd, Blk.loc, Blk.cont, Blk.n, Blk.may, Blk.upd, AV.isAgg, AV.isTup, AV.sz, unVal, ownOk, fillAV, AV.sub, cvt_64j, cvt_64b, cvt_64w, cvt_8u, cvt_8w, bin_add64, bin_mul64, bin_sub64, bin_and51, bin_and32, bin_and1, bin_and8_1, bin_or64, bin_xor64, bin_or8, bin_shl64, bin_shl64j, bin_shr64, bin_shr64j, bin_shl8j, bin_shr8j, bin_quo64, bin_rem64, bin_quo32, bin_rem32, bin_addj, bin_subj, bin_quoj, bin_remj, bin_eqlj, bin_neqj, bin_lssj, bin_leqj, bin_gtrj, bin_geqj, bin_eql64, bin_lss64, bin_gtr64, bin_eql8, bin_rem8]; exact rfl) (wp_block' (wp_loop_to ls.length (fun i => ⟨0, [.any, .any, .ptr 2 l1 0 [], .any, .ptr 4 l2 0 [], .any, .any, .any, .sl 5 (ls.map L5.av), .lit (jn ls.length), .lit (jn i)] ++ List.replicate 22 .any, [none, none, some (.box l1 5 ((ls.take i).foldl L5.plus l).av), none, some (.box l2 5 (.st [5] [.arr 1 (List.replicate 5 (.lit (un 0)))]))] ++ List.replicate 28 none⟩) ?_ ?_ ?_))))
  · exact Le.mk rfl (by simp [leT]) (by simp [leH])
  · intro i hi
    obtain ⟨y, hy⟩ : ∃ y, ls[i]? = some y := ⟨ls[i], by simp [hi]⟩
    have hyo : y.ok := hls y (List.mem_of_getElem? hy)
    have hxo : ((ls.take i).foldl L5.plus l).ok := plus_fold_ok hl (fun m hm => hls m (List.mem_of_mem_take hm))
    have hst := foldl_take L5.plus l ls i y hy
    have q4 : i + 1 < 9223372036854775808 := by omega
    simp only [hst]
    generalize (ls.take i).foldl L5.plus l = x at *
    have hca : PCall P 29 [elem (x.a + y.a) (x.b + y.b) (x.c + y.c) (x.d + y.d) (x.e + y.e)] (.val (x.plus y).av) := carry_L h79 (L5.add_lim hxo hyo)
    have hlim : (x.add y).lim 9223372036854775808 := L5.add_lim hxo hyo
    simp only [L5.lim, L5.add] at hlim
    have n1 : (x.a + y.a) % 18446744073709551616 = x.a + y.a := by omega
    have n2 : (x.b + y.b) % 18446744073709551616 = x.b + y.b := by omega
    have n3 : (x.c + y.c) % 18446744073709551616 = x.c + y.c := by omega
    have n4 : (x.d + y.d) % 18446744073709551616 = x.d + y.d := by omega
    have n5 : (x.e + y.e) % 18446744073709551616 = x.e + y.e := by omega
    simp only [L5.av, elem] at hca
    refine wp_sr (by simp [runPre, AOp.ex, AOp.ex0, ex_mov, ex_bin, binA_lit, ex_cvt, ex_iaddrA, ex_iaddrS, ex_faddr, ex_load, ldA, ex_ext, ex_add64, add64A_un, ex_pick, ex_beq, ex_un, ex_len, lenA_sl, lenA_nil, lenA_str, lenA_own, lenRow_row, elA_own, elA_sl, elRow_row, ex_nilc, ex_build, ex_bslice, ex_fieldv, AOp.ro, AS.ev, AS.put, AS.fieldAddr, idxA_ptr, idxA_cptr, AS.peek, AS.poke, AS.blk, AS.setBlk, AV.nav, AV.upd, Blk.loc, Blk.cont, Blk.n, Blk.may, Blk.upd, AV.isAgg, AV.isTup, AV.sz, unVal, ownOk, fillAV, AV.sub, cvt_64j, cvt_64b, cvt_64w, cvt_8u, cvt_8w, bin_add64, bin_mul64, bin_sub64, bin_and51, bin_and32, bin_and1, bin_and8_1, bin_or64, bin_xor64, bin_or8, bin_shl64, bin_shl64j, bin_shr64, bin_shr64j, bin_shl8j, bin_shr8j, bin_quo64, bin_rem64, bin_quo32, bin_rem32, bin_addj, bin_subj, bin_quoj, bin_remj, bin_eqlj, bin_neqj, bin_lssj, bin_leqj, bin_gtrj, bin_geqj, bin_eql64, bin_lss64, bin_gtr64, bin_eql8, bin_rem8, hi]; exact rfl) ?_
    refine wp_seq' (wp_cond_t (by simp [AS.ev]) (wp_skip' ?_))
    refine wp_seq' (wp_block' (wp_sg (areg_run 2 (by simp [runPre, AOp.ex, AOp.ex0, ex_mov, ex_bin, binA_lit, ex_cvt, ex_iaddrA, ex_iaddrS, ex_faddr, ex_load, ldA, ex_ext, ex_add64, add64A_un, ex_pick, ex_beq, ex_un, ex_len, lenA_sl, lenA_nil, lenA_str, lenA_own, lenRow_row, elA_own, elA_sl, elRow_row, ex_nilc, ex_build, ex_bslice, ex_fieldv, AOp.ro, AS.ev, AS.put, AS.fieldAddr, idxA_ptr, idxA_cptr, AS.peek, AS.poke, AS.blk, AS.setBlk, AV.nav, AV.upd, Blk.loc, Blk.cont, Blk.n, Blk.may, Blk.upd, AV.isAgg, AV.isTup, AV.sz, unVal, ownOk, fillAV, AV.sub, cvt_64j, cvt_64b, cvt_64w, cvt_8u, cvt_8w, bin_add64, bin_mul64, bin_sub64, bin_and51, bin_and32, bin_and1, bin_and8_1, bin_or64, bin_xor64, bin_or8, bin_shl64, bin_shl64j, bin_shr64, bin_shr64j, bin_shl8j, bin_shr8j, bin_quo64, bin_rem64, bin_quo32, bin_rem32, bin_addj, bin_subj, bin_quoj, bin_remj, bin_eqlj, bin_neqj, bin_lssj, bin_leqj, bin_gtrj, bin_geqj, bin_eql64, bin_lss64, bin_gtr64, bin_eql8, bin_rem8, hy, L5.av, elem]; exact rfl) (areg_al fun l3 => areg_end (by simp [runPre, AOp.ex, AOp.ex0, ex_mov, ex_bin, binA_lit, ex_cvt, ex_iaddrA, ex_iaddrS, ex_faddr, ex_load, ldA, ex_ext, ex_add64, add64A_un, ex_pick, ex_beq, ex_un, ex_len, lenA_sl, lenA_nil, lenA_str, lenA_own, lenRow_row, elA_own, elA_sl, elRow_row, ex_nilc, ex_build, ex_bslice, ex_fieldv, AOp.ro, AS.ev, AS.put, AS.fieldAddr, idxA_ptr, idxA_cptr, AS.peek, AS.poke, AS.blk, AS.setBlk, AV.nav, AV.upd, Blk.loc, Blk.cont, Blk.n, Blk.may, Blk.upd, AV.isAgg, AV.isTup, AV.sz, unVal, ownOk, fillAV, AV.sub, cvt_64j, cvt_64b, cvt_64w, cvt_8u, cvt_8w, bin_add64, bin_mul64, bin_sub64, bin_and51, bin_and32, bin_and1, bin_and8_1, bin_or64, bin_xor64, bin_or8, bin_shl64, bin_shl64j, bin_shr64, bin_shr64j, bin_shl8j, bin_shr8j, bin_quo64, bin_rem64, bin_quo32, bin_rem32, bin_addj, bin_subj, bin_quoj, bin_remj, bin_eqlj, bin_neqj, bin_lssj, bin_leqj, bin_gtrj, bin_geqj, bin_eql64, bin_lss64, bin_gtr64, bin_eql8, bin_rem8, L5.av, elem]; exact rfl) ?_))))
    repeat (first | (with_reducible apply wp_sr); focus (simp [runPre, AOp.ex, AOp.ex0, ex_mov, ex_bin, binA_lit, ex_cvt, ex_iaddrA, ex_iaddrS, ex_faddr, ex_load, ldA, ex_ext, ex_add64, add64A_un, ex_pick, ex_beq, ex_un, ex_len, lenA_sl, lenA_nil, lenA_str, lenA_own, lenRow_row, elA_own, elA_sl, elRow_row, ex_nilc, ex_build, ex_bslice, ex_fieldv, AOp.ro, AS.ev, AS.put, AS.fieldAddr, idxA_ptr, idxA_cptr, AS.peek, AS.poke, AS.blk, AS.setBlk, AV.nav, AV.upd, Blk.loc, Blk.cont, Blk.n, Blk.may, Blk.upd, AV.isAgg, AV.isTup, AV.sz, unVal, ownOk, fillAV, AV.sub, cvt_64j, cvt_64b, cvt_64w, cvt_8u, cvt_8w, bin_add64, bin_mul64, bin_sub64, bin_and51, bin_and32, bin_and1, bin_and8_1, bin_or64, bin_xor64, bin_or8, bin_shl64, bin_shl64j, bin_shr64, bin_shr64j, bin_shl8j, bin_shr8j, bin_quo64, bin_rem64, bin_quo32, bin_rem32, bin_addj, bin_subj, bin_quoj, bin_remj, bin_eqlj, bin_neqj, bin_lssj, bin_leqj, bin_gtrj, bin_geqj, bin_eql64, bin_lss64, bin_gtr64, bin_eql8, bin_rem8, n1, n2, n3, n4, n5]; exact rfl) | (with_reducible apply wp_r); focus (simp [runPre, AOp.ex, AOp.ex0, ex_mov, ex_bin, binA_lit, ex_cvt, ex_iaddrA, ex_iaddrS, ex_faddr, ex_load, ldA, ex_ext, ex_add64, add64A_un, ex_pick, ex_beq, ex_un, ex_len, lenA_sl, lenA_nil, lenA_str, lenA_own, lenRow_row, elA_own, elA_sl, elRow_row, ex_nilc, ex_build, ex_bslice, ex_fieldv, AOp.ro, AS.ev, AS.put, AS.fieldAddr, idxA_ptr, idxA_cptr, AS.peek, AS.poke, AS.blk, AS.setBlk, AV.nav, AV.upd, Blk.loc, Blk.cont, Blk.n, Blk.may, Blk.upd, AV.isAgg, AV.isTup, AV.sz, unVal, ownOk, fillAV, AV.sub, cvt_64j, cvt_64b, cvt_64w, cvt_8u, cvt_8w, bin_add64, bin_mul64, bin_sub64, bin_and51, bin_and32, bin_and1, bin_and8_1, bin_or64, bin_xor64, bin_or8, bin_shl64, bin_shl64j, bin_shr64, bin_shr64j, bin_shl8j, bin_shr8j, bin_quo64, bin_rem64, bin_quo32, bin_rem32, bin_addj, bin_subj, bin_quoj, bin_remj, bin_eqlj, bin_neqj, bin_lssj, bin_leqj, bin_gtrj, bin_geqj, bin_eql64, bin_lss64, bin_gtr64, bin_eql8, bin_rem8, n1, n2, n3, n4, n5]; exact rfl) | (with_reducible refine wp_seq' (wp_cond_t ?_ ?_)); focus (simp [AS.ev]; done) | (with_reducible refine wp_seq' (wp_cond_f ?_ ?_)); focus (simp [AS.ev]; done) | (with_reducible refine wp_cond_t ?_ ?_); focus (simp [AS.ev]; done) | (with_reducible refine wp_cond_f ?_ ?_); focus (simp [AS.ev]; done) | with_reducible refine wp_seq' ?_ | with_reducible refine wp_block' ?_ | with_reducible refine wp_skip' ?_ | with_reducible refine wp_exit' ?_ | with_reducible refine wp_ret' ?_ | with_reducible refine if_hit rfl ?_ | with_reducible refine loopN_succ ?_ | with_reducible refine wp_loopN 6 ?_)
    refine wp_rg (areg_run 1 (by simp [runPre, AOp.ex, AOp.ex0, ex_mov, ex_bin, binA_lit, ex_cvt, ex_iaddrA, ex_iaddrS, ex_faddr, ex_load, ldA, ex_ext, ex_add64, add64A_un, ex_pick, ex_beq, ex_un, ex_len, lenA_sl, lenA_nil, lenA_str, lenA_own, lenRow_row, elA_own, elA_sl, elRow_row, ex_nilc, ex_build, ex_bslice, ex_fieldv, AOp.ro, AS.ev, AS.put, AS.fieldAddr, idxA_ptr, idxA_cptr, AS.peek, AS.poke, AS.blk, AS.setBlk, AV.nav, AV.upd, Blk.loc, Blk.cont, Blk.n, Blk.may, Blk.upd, AV.isAgg, AV.isTup, AV.sz, unVal, ownOk, fillAV, AV.sub, cvt_64j, cvt_64b, cvt_64w, cvt_8u, cvt_8w, bin_add64, bin_mul64, bin_sub64, bin_and51, bin_and32, bin_and1, bin_and8_1, bin_or64, bin_xor64, bin_or8, bin_shl64, bin_shl64j, bin_shr64, bin_shr64j, bin_shl8j, bin_shr8j, bin_quo64, bin_rem64, bin_quo32, bin_rem32, bin_addj, bin_subj, bin_quoj, bin_remj, bin_eqlj, bin_neqj, bin_lssj, bin_leqj, bin_gtrj, bin_geqj, bin_eql64, bin_lss64, bin_gtr64, bin_eql8, bin_rem8]; exact rfl) (areg_ca (by simp [AS.coe, AS.ev]) hca (areg_end (by simp [runPre, AOp.ex, AOp.ex0, ex_mov, ex_bin, binA_lit, ex_cvt, ex_iaddrA, ex_iaddrS, ex_faddr, ex_load, ldA, ex_ext, ex_add64, add64A_un, ex_pick, ex_beq, ex_un, ex_len, lenA_sl, lenA_nil, lenA_str, lenA_own, lenRow_row, elA_own, elA_sl, elRow_row, ex_nilc, ex_build, ex_bslice, ex_fieldv, AOp.ro, AS.ev, AS.put, AS.fieldAddr, idxA_ptr, idxA_cptr, AS.peek, AS.poke, AS.blk, AS.setBlk, AV.nav, AV.upd, Blk.loc, Blk.cont, Blk.n, Blk.may, Blk.upd, AV.isAgg, AV.isTup, AV.sz, unVal, ownOk, fillAV, AV.sub, cvt_64j, cvt_64b, cvt_64w, cvt_8u, cvt_8w, bin_add64, bin_mul64, bin_sub64, bin_and51, bin_and32, bin_and1, bin_and8_1, bin_or64, bin_xor64, bin_or8, bin_shl64, bin_shl64j, bin_shr64, bin_shr64j, bin_shl8j, bin_shr8j, bin_quo64, bin_rem64, bin_quo32, bin_rem32, bin_addj, bin_subj, bin_quoj, bin_remj, bin_eqlj, bin_neqj, bin_lssj, bin_leqj, bin_gtrj, bin_geqj, bin_eql64, bin_lss64, bin_gtr64, bin_eql8, bin_rem8]; exact rfl) ?_)))
    refine wp_r (by simp [runPre, AOp.ex, AOp.ex0, ex_mov, ex_bin, binA_lit, ex_cvt, ex_iaddrA, ex_iaddrS, ex_faddr, ex_load, ldA, ex_ext, ex_add64, add64A_un, ex_pick, ex_beq, ex_un, ex_len, lenA_sl, lenA_nil, lenA_str, lenA_own, lenRow_row, elA_own, elA_sl, elRow_row, ex_nilc, ex_build, ex_bslice, ex_fieldv, AOp.ro, AS.ev, AS.put, AS.fieldAddr, idxA_ptr, idxA_cptr, AS.peek, AS.poke, AS.blk, AS.setBlk, AV.nav, AV.upd, Blk.loc, Blk.cont, Blk.n, Blk.may, Blk.upd, AV.isAgg, AV.isTup, AV.sz, unVal, ownOk, fillAV, AV.sub, cvt_64j, cvt_64b, cvt_64w, cvt_8u, cvt_8w, bin_add64, bin_mul64, bin_sub64, bin_and51, bin_and32, bin_and1, bin_and8_1, bin_or64, bin_xor64, bin_or8, bin_shl64, bin_shl64j, bin_shr64, bin_shr64j, bin_shl8j, bin_shr8j, bin_quo64, bin_rem64, bin_quo32, bin_rem32, bin_addj, bin_subj, bin_quoj, bin_remj, bin_eqlj, bin_neqj, bin_lssj, bin_leqj, bin_gtrj, bin_geqj, bin_eql64, bin_lss64, bin_gtr64, bin_eql8, bin_rem8, q4]; exact rfl) ?_
    exact Le.mk rfl (by simp [leT]) (by simp [leH, L5.av, elem])
  · have e : ls.take ls.length = ls := List.take_length
    simp only [e]
    refine wp_sr (by simp [runPre, AOp.ex, AOp.ex0, ex_mov, ex_bin, binA_lit, ex_cvt, ex_iaddrA, ex_iaddrS, ex_faddr, ex_load, ldA, ex_ext, ex_add64, add64A_un, ex_pick, ex_beq, ex_un, ex_len, lenA_sl, lenA_nil, lenA_str, lenA_own, lenRow_row, elA_own, elA_sl, elRow_row, ex_nilc, ex_build, ex_bslice, ex_fieldv, AOp.ro, AS.ev, AS.put, AS.fieldAddr, idxA_ptr, idxA_cptr, AS.peek, AS.poke, AS.blk, AS.setBlk, AV.nav, AV.upd, Blk.loc, Blk.cont, Blk.n, Blk.may, Blk.upd, AV.isAgg, AV.isTup, AV.sz, unVal, ownOk, fillAV, AV.sub, cvt_64j, cvt_64b, cvt_64w, cvt_8u, cvt_8w, bin_add64, bin_mul64, bin_sub64, bin_and51, bin_and32, bin_and1, bin_and8_1, bin_or64, bin_xor64, bin_or8, bin_shl64, bin_shl64j, bin_shr64, bin_shr64j, bin_shl8j, bin_shr8j, bin_quo64, bin_rem64, bin_quo32, bin_rem32, bin_addj, bin_subj, bin_quoj, bin_remj, bin_eqlj, bin_neqj, bin_lssj, bin_leqj, bin_gtrj, bin_geqj, bin_eql64, bin_lss64, bin_gtr64, bin_eql8, bin_rem8]; exact rfl) ?_
    refine wp_seq' (wp_cond_f (by simp [AS.ev]) (wp_exit' (if_hit rfl ?_)))
    repeat (first | (with_reducible apply wp_sr); focus (simp [runPre, AOp.ex, AOp.ex0, ex_mov, ex_bin, binA_lit, ex_cvt, ex_iaddrA, ex_iaddrS, ex_faddr, ex_load, ldA, ex_ext, ex_add64, add64A_un, ex_pick, ex_beq, ex_un, ex_len, lenA_sl, lenA_nil, lenA_str, lenA_own, lenRow_row, elA_own, elA_sl, elRow_row, ex_nilc, ex_build, ex_bslice, ex_fieldv, AOp.ro, AS.ev, AS.put, AS.fieldAddr, idxA_ptr, idxA_cptr, AS.peek, AS.poke, AS.blk, AS.setBlk, AV.nav, AV.upd, Blk.loc, Blk.cont, Blk.n, Blk.may, Blk.upd, AV.isAgg, AV.isTup, AV.sz, unVal, ownOk, fillAV, AV.sub, cvt_64j, cvt_64b, cvt_64w, cvt_8u, cvt_8w, bin_add64, bin_mul64, bin_sub64, bin_and51, bin_and32, bin_and1, bin_and8_1, bin_or64, bin_xor64, bin_or8, bin_shl64, bin_shl64j, bin_shr64, bin_shr64j, bin_shl8j, bin_shr8j, bin_quo64, bin_rem64, bin_quo32, bin_rem32, bin_addj, bin_subj, bin_quoj, bin_remj, bin_eqlj, bin_neqj, bin_lssj, bin_leqj, bin_gtrj, bin_geqj, bin_eql64, bin_lss64, bin_gtr64, bin_eql8, bin_rem8, L5.av, elem]; exact rfl) | (with_reducible apply wp_r); focus (simp [runPre, AOp.ex, AOp.ex0, ex_mov, ex_bin, binA_lit, ex_cvt, ex_iaddrA, ex_iaddrS, ex_faddr, ex_load, ldA, ex_ext, ex_add64, add64A_un, ex_pick, ex_beq, ex_un, ex_len, lenA_sl, lenA_nil, lenA_str, lenA_own, lenRow_row, elA_own, elA_sl, elRow_row, ex_nilc, ex_build, ex_bslice, ex_fieldv, AOp.ro, AS.ev, AS.put, AS.fieldAddr, idxA_ptr, idxA_cptr, AS.peek, AS.poke, AS.blk, AS.setBlk, AV.nav, AV.upd, Blk.loc, Blk.cont, Blk.n, Blk.may, Blk.upd, AV.isAgg, AV.isTup, AV.sz, unVal, ownOk, fillAV, AV.sub, cvt_64j, cvt_64b, cvt_64w, cvt_8u, cvt_8w, bin_add64, bin_mul64, bin_sub64, bin_and51, bin_and32, bin_and1, bin_and8_1, bin_or64, bin_xor64, bin_or8, bin_shl64, bin_shl64j, bin_shr64, bin_shr64j, bin_shl8j, bin_shr8j, bin_quo64, bin_rem64, bin_quo32, bin_rem32, bin_addj, bin_subj, bin_quoj, bin_remj, bin_eqlj, bin_neqj, bin_lssj, bin_leqj, bin_gtrj, bin_geqj, bin_eql64, bin_lss64, bin_gtr64, bin_eql8, bin_rem8, L5.av, elem]; exact rfl) | (with_reducible refine wp_seq' (wp_cond_t ?_ ?_)); focus (simp [AS.ev]; done) | (with_reducible refine wp_seq' (wp_cond_f ?_ ?_)); focus (simp [AS.ev]; done) | (with_reducible refine wp_cond_t ?_ ?_); focus (simp [AS.ev]; done) | (with_reducible refine wp_cond_f ?_ ?_); focus (simp [AS.ev]; done) | with_reducible refine wp_seq' ?_ | with_reducible refine wp_block' ?_ | with_reducible refine wp_skip' ?_ | with_reducible refine wp_exit' ?_ | with_reducible refine wp_ret' ?_ | with_reducible refine if_hit rfl ?_ | with_reducible refine loopN_succ ?_)
    refine fin_cell (by simp [RVal, AS.coe, tt, AS.ev, AS.peek, AS.blk, Blk.loc, Blk.cont, Blk.n, AV.nav, AV.isAgg, AV.isTup, L5.av, elem]) (by simp [L5.av, elem])
end Go.Cab

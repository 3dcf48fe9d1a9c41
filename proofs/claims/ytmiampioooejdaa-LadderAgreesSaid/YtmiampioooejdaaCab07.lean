/- Part 7 of what the proof stands on: E1, F6, R1, R2, R3. -/
import Derived.Test.YtmiampioooejdaaCab04
import Derived.Test.YtmiampioooejdaaCab05
import Derived.Test.YtmiampioooejdaaCab06
import Derived.Test.YtmiampioooejdaaCab03
import Derived.Test.YtmiampioooejdaaProg
set_option linter.unusedSimpArgs false
set_option linter.unusedVariables false
set_option linter.unusedSectionVars false
/- Keys and elements compared. -/
namespace Go.Cab

theorem R_lits {Imm : Nat → Nat → Prop} {w : World} : ∀ {xs : List Value} {cs : List Value}, R Imm w (.arr 1 (xs.map AV.lit)) cs → cs = xs
  | [], cs, h => by cases h; rfl
  | x :: xs, cs, h => by
    cases h with
    | arr1 _ _ _ c d hx _ _ hd =>
      cases hx
      rw [R_lits hd]
      rfl

theorem R_lst {Imm : Nat → Nat → Prop} {w : World} {n : Nat} {f : Nat → Value} {cs : List Value} (h : R Imm w (.arr 1 (lst n fun j => .lit (f j))) cs) : cs = (List.range n).map f := by
  refine R_lits (Imm := Imm) (w := w) ?_
  rw [List.map_map]
  exact h

theorem mapM_some {α β : Type} {f : α → Option β} {g : α → β} : ∀ {l : List α}, (∀ i ∈ l, f i = some (g i)) → l.mapM f = some (l.map g)
  | [], _ => rfl
  | a :: l, h => by
    rw [List.mapM_cons, h a (by simp), mapM_some (fun i hi => h i (by simp [hi]))]
    rfl

theorem flat_single {α β : Type} (f : α → β) : ∀ (l : List α), (l.map fun i => [f i]).flatten = l.map f
  | [] => rfl
  | a :: l => by simp [flat_single f l]

theorem keyLits_row {P : Program} {t e : TypeId} {n : Nat} {q : IntKind} (hu : P.underlying t = some (.array n e)) (he : P.underlying e = some (.int q)) (hc : P.cellsOf t = n) (h1 : P.cellsOf e = 1) (x : Nat → Int)
    (hw : ∀ i, i < n → (Lit.int q (x i)).wf = true) (d : Nat) : P.keyLits (d + 2) t ((List.range n).map fun i => Value.int q (x i)) = some ((List.range n).map fun i => Lit.int q (x i)) := by
  unfold Program.keyLits
  simp only [hu]
  rw [if_pos (by simp [hc]), mapM_some (g := fun i => [Lit.int q (x i)])]
  · simp only [Option.map_some, flat_single]
  · intro i hi
    have hi' : i < n := by simpa using hi
    rw [h1, Nat.mul_one]
    have e1 : (((List.range n).map fun i => Value.int q (x i)).drop i).take 1 = [Value.int q (x i)] := by
      apply List.ext_getElem?
      intro k
      rw [List.getElem?_take, List.getElem?_drop]
      cases k with
      | zero => simp [hi']
      | succ k => simp
    rw [e1]
    unfold Program.keyLits
    simp only [he]
    rw [if_pos ⟨trivial, hw i hi'⟩]

theorem wf_bn {x : Nat} (h : x < 256) : (Lit.int .u8 (x : Int)).wf = true := by
  simp [Lit.wf, IntKind.min, IntKind.max, IntKind.signed, IntKind.bits]
  omega
theorem wf_un {x : Nat} (h : x < 18446744073709551616) : (Lit.int .u64 (x : Int)).wf = true := by
  simp [Lit.wf, IntKind.min, IntKind.max, IntKind.signed, IntKind.bits]
  omega

theorem keys_inj {m n : Nat} (h : ∀ i, i < 32 → m / 2 ^ (8 * i) % 256 = n / 2 ^ (8 * i) % 256) : m % 2 ^ 256 = n % 2 ^ 256 := by
  apply Nat.eq_of_testBit_eq
  intro t
  rw [Nat.testBit_mod_two_pow, Nat.testBit_mod_two_pow]
  by_cases ht : t < 256
  · have h2 := congrArg (fun z => z.testBit (t % 8)) (h (t / 8) (by omega))
    have e : (256 : Nat) = 2 ^ 8 := by decide
    rw [e] at h2
    rw [Nat.testBit_mod_two_pow, Nat.testBit_mod_two_pow, Nat.testBit_div_two_pow, Nat.testBit_div_two_pow] at h2
    have e2 : t % 8 + 8 * (t / 8) = t := by omega
    have e3 : t % 8 < 8 := by omega
    rw [e2] at h2
    simp [e3] at h2
    simp [h2]
  · simp [ht]

/-- Two keys. -/
theorem eq_key {P : Program} (hu : P.underlying 23 = some (.array 32 5)) (he : P.underlying 5 = some (.int .u8)) (hc : P.cellsOf 23 = 32) (h1 : P.cellsOf 5 = 1) {m n : Nat} (hm : m < 2 ^ 256) (hn : n < 2 ^ 256) :
    EqAV P 23 (keyAV m) (keyAV n) (decide (m = n)) := by
  intro Imm w cs cs' hx hy
  have ex := R_lst hx
  have ey := R_lst hy
  subst ex ey
  refine ⟨2, 2, _, _, ?_, ?_, keyLits_row hu he hc h1 (fun j => ((m / 2 ^ (8 * j) % 256 : Nat) : Int)) (fun i _ => wf_bn (Nat.mod_lt _ (by decide))) 0, keyLits_row hu he hc h1 (fun j => ((n / 2 ^ (8 * j) % 256 : Nat) : Int)) (fun i _ => wf_bn (Nat.mod_lt _ (by decide))) 0, ?_⟩
  · simp only [keyAV, asVal, Value.formed, hu]
    simp [hc]
  · simp only [keyAV, asVal, Value.formed, hu]
    simp [hc]
  · rw [decide_eq_true_iff]
    constructor
    · rintro rfl; rfl
    · intro h
      have h2 := keys_inj (m := m) (n := n) fun i hi => by
        have := congrArg (fun l => l[i]?) h
        simp only [List.getElem?_map, List.getElem?_range hi, Option.map_some, Option.some.injEq, Lit.int.injEq, true_and] at this
        exact Int.ofNat.inj this
      rwa [Nat.mod_eq_of_lt hm, Nat.mod_eq_of_lt hn] at h2

theorem els_inj {m n : Nat} (h : ∀ i, i < 5 → m / 2 ^ (51 * i) % 2251799813685248 = n / 2 ^ (51 * i) % 2251799813685248) : m % 2 ^ 255 = n % 2 ^ 255 := by
  apply Nat.eq_of_testBit_eq
  intro t
  rw [Nat.testBit_mod_two_pow, Nat.testBit_mod_two_pow]
  by_cases ht : t < 255
  · have h2 := congrArg (fun z => z.testBit (t % 51)) (h (t / 51) (by omega))
    have e : (2251799813685248 : Nat) = 2 ^ 51 := by decide
    rw [e] at h2
    rw [Nat.testBit_mod_two_pow, Nat.testBit_mod_two_pow, Nat.testBit_div_two_pow, Nat.testBit_div_two_pow] at h2
    have e2 : t % 51 + 51 * (t / 51) = t := by omega
    have e3 : t % 51 < 51 := by omega
    rw [e2] at h2
    simp [e3] at h2
    simp [h2]
  · simp [ht]

theorem R_st1 {Imm : Nat → Nat → Prop} {w : World} {n : Nat} {f : AV} {cs : List Value} (h : R Imm w (.st [n] [f]) cs) : R Imm w f cs := by
  cases h with
  | st1 _ _ _ _ c d hc _ _ hd =>
    cases hd
    simpa using hc

/-- Two elements. -/
theorem eq_elem {P : Program} {fd : Field} (hs : P.underlying 29 = some (.struct #[fd])) (hft : fd.type = 27) (hfo : fd.offset = 0) (hfn : (fd.name != "_") = true) (hu : P.underlying 27 = some (.array 5 26)) (he : P.underlying 26 = some (.int .u64)) (hc0 : P.cellsOf 29 = 5) (hc : P.cellsOf 27 = 5) (h1 : P.cellsOf 26 = 1) {m n : Nat} (hm : m < 2 ^ 255) (hn : n < 2 ^ 255) :
    EqAV P 29 (elAV m) (elAV n) (decide (m = n)) := by
  have key : ∀ k : Nat, P.keyLits 3 29 ((List.range 5).map fun j => un (k / 2 ^ (51 * j) % 2251799813685248)) = some ((List.range 5).map fun j => Lit.int .u64 ((k / 2 ^ (51 * j) % 2251799813685248 : Nat) : Int)) := by
    intro k
    have h2 := keyLits_row hu he hc h1 (fun j => ((k / 2 ^ (51 * j) % 2251799813685248 : Nat) : Int)) (fun i _ => wf_un (Nat.lt_trans (Nat.mod_lt _ (by decide)) (by decide))) 0
    unfold Program.keyLits
    simp only [hs]
    rw [if_pos ⟨by simp [hc0], by simp [hfn]⟩]
    have h3 : (((List.range 5).map fun j => un (k / 2 ^ (51 * j) % 2251799813685248)).drop fd.offset).take (P.cellsOf fd.type) = (List.range 5).map fun j => un (k / 2 ^ (51 * j) % 2251799813685248) := by
      rw [hfo, hft, hc, List.drop_zero]
      exact List.take_of_length_le (by simp)
    simp only [List.mapM_cons, List.mapM_nil]
    rw [h3, hft]
    erw [h2]
    simp
  intro Imm w cs cs' hx hy
  have ex := R_lst (R_st1 hx)
  have ey := R_lst (R_st1 hy)
  subst ex ey
  refine ⟨3, 3, _, _, ?_, ?_, key m, key n, ?_⟩
  · simp only [elAV, asVal, Value.formed, hs]
    simp [hc0]
  · simp only [elAV, asVal, Value.formed, hs]
    simp [hc0]
  · rw [decide_eq_true_iff]
    constructor
    · rintro rfl; rfl
    · intro h
      have h2 := els_inj (m := m) (n := n) fun i hi => by
        have := congrArg (fun l => l[i]?) h
        simp only [List.getElem?_map, List.getElem?_range hi, Option.map_some, Option.some.injEq, Lit.int.injEq, true_and] at this
        exact Int.ofNat.inj this
      rwa [Nat.mod_eq_of_lt hm, Nat.mod_eq_of_lt hn] at h2
end Go.Cab

/- Field: Times, Is. -/
namespace Go.Cab
def fb31 : AC := (.seq (.reg [⟨(.some 2), .none, (.box 5 (.tmp 0)), [], .none⟩, ⟨(.some 4), .none, (.alloc 5 (.st [5] [(.arr 1 (List.replicate 5 (.lit (un 0))))])), [], .none⟩]) (.seq (.reg [⟨(.some 7), .none, (.load .true 5 (.tmp 2)), [], .none⟩, ⟨(.some 8), .none, (.call 30 [(.tmp 7)]), [], .none⟩, ⟨.none, .none, (.store 5 (.tmp 2) (.tmp 8)), [], .none⟩]) (.seq (.seq (.reg [⟨(.some 9), .none, (.mov (.tmp 1)), [], .none⟩, ⟨(.some 10), .none, (.len .false (.tmp 9)), [], .none⟩, ⟨(.some 11), .none, (.mov (.const (jn 0))), [], .none⟩]) (.block 0 (.loop (.seq (.reg [⟨(.some 12), .none, (.bin .lss (.tmp 11) (.tmp 10)), [], .none⟩]) (.seq (.cond (.tmp 12) .skip (.exit 0)) (.seq (.block 1 (.seq (.reg [⟨(.some 13), .none, (.iaddrS 5 (.tmp 9) (.tmp 11)), [], .none⟩, ⟨(.some 14), .none, (.load .true 5 (.tmp 13)), [], .none⟩, ⟨(.some 6), .none, (.alloc 5 (.st [5] [(.arr 1 (List.replicate 5 (.lit (un 0))))])), [], .none⟩, ⟨.none, .none, (.store 5 (.tmp 6) (.tmp 14)), [], .none⟩]) (.reg [⟨(.some 15), .none, (.load .true 5 (.tmp 2)), [], .none⟩, ⟨(.some 16), .none, (.load .true 5 (.tmp 6)), [], .none⟩, ⟨(.some 17), .none, (.callv 30 [(.tmp 16)]), [], .none⟩, ⟨(.some 18), .none, (.callv 31 [(.tmp 15), (.tmp 17)]), [], .none⟩, ⟨.none, .none, (.store 5 (.tmp 2) (.tmp 18)), [], .none⟩]))) (.reg [⟨(.some 19), .none, (.bin .add (.tmp 11) (.const (jn 1))), [], .none⟩, ⟨(.some 11), .none, (.mov (.tmp 19)), [], .none⟩]))))))) (.seq (.reg [⟨(.some 20), .none, (.load .true 5 (.tmp 2)), [], .none⟩, ⟨.none, .none, (.store 5 (.tmp 4) (.tmp 20)), [], .none⟩]) .ret))))
def fc31 : FC := ⟨2, 21, [(.cell 4 .true 5)], fb31⟩
theorem fc31_eq : compF Go.Proofs.Try.prog 19 = some fc31 := by kernel_rfl

theorem product_L {P : Program} (h113 : compF P 42 = some fc113) (h111 : compF P 40 = some fc111) (h80 : compF P 31 = some fc80) {l m : L5} (hl : l.ok) (hm : m.ok) : PCall P 31 [l.av, m.av] (.val (l.mul m).av) :=
  product_call h113 h111 h80 hl.1 hl.2.1 hl.2.2.1 hl.2.2.2.1 hl.2.2.2.2 hm.1 hm.2.1 hm.2.2.1 hm.2.2.2.1 hm.2.2.2.2

def L5.tim (l m : L5) : L5 := l.mul m.carry
theorem L5.tim_ok {l m : L5} (hl : l.ok) (hm : m.ok) : (l.tim m).ok := L5.mul_ok hl (L5.carry_fine hm.lim63).ok
theorem L5.tim_mod (l m : L5) : (l.tim m).val % pp = l.val * m.val % pp := by
  unfold L5.tim
  rw [L5.mul_mod, Nat.mul_mod, L5.carry_mod, ← Nat.mul_mod]
theorem tim_fold_ok {l : L5} (hl : l.ok) : ∀ {ls : List L5}, (∀ m ∈ ls, m.ok) → (ls.foldl L5.tim l).ok := by
  intro ls
  induction ls generalizing l with
  | nil => intro _; exact hl
  | cons m ls ih => intro h; exact ih (L5.tim_ok hl (h m (by simp))) (fun x hx => h x (by simp [hx]))

set_option maxHeartbeats 8000000 in
set_option maxRecDepth 20000 in
theorem times_L {P : Program} (h113 : compF P 42 = some fc113) (h111 : compF P 40 = some fc111) (h80 : compF P 31 = some fc80) (h79 : compF P 30 = some fc79) (h31 : compF P 19 = some fc31) {l : L5} (hl : l.ok) (ls : List L5) (hls : ∀ m ∈ ls, m.ok) (hn : ls.length < 9223372036854775807) :
    PCall P 19 [l.av, .sl 5 (ls.map L5.av)] (.val (ls.foldl L5.tim l.carry).av) := by
  have hc0 := carry_L h79 hl.lim63
  have hlc := (L5.carry_fine hl.lim63).ok
  refine PCall.of h31 rfl ?_; show AC.wp _ fb31 (AS.init [l.av, .sl 5 (ls.map L5.av)] 2 21) (fun x s => match x with | .exit _ => False | _ => Fin [(.cell 4 .true 5)] s _); unfold fb31 AS.init
  refine wp_sg (areg_bx rfl rfl fun l1 => areg_al fun l2 => areg_nil ?_)
  generalize l.carry = l0 at *
  simp only [L5.av, elem] at hc0
  refine wp_sg (areg_run 1 (by simp [runPre, AOp.ex, AOp.ex0, ex_mov, ex_bin, binA_lit, ex_cvt, ex_iaddrA, ex_iaddrS, ex_faddr, ex_load, ldA, ex_ext, ex_add64, add64A_un, ex_pick, ex_beq, ex_un, ex_len, lenA_sl, lenA_nil, lenA_str, lenA_own, lenRow_row, elA_own, elA_sl, elRow_row, ex_nilc, ex_build, ex_bslice, ex_fieldv, AOp.ro, AS.ev, AS.put, AS.fieldAddr, idxA_ptr, idxA_cptr, AS.peek, AS.poke, AS.blk, AS.setBlk, AV.nav, AV.upd, Blk.loc, Blk.cont, Blk.n, Blk.may, Blk.upd, AV.isAgg, AV.isTup, AV.sz, unVal, ownOk, fillAV, AV.sub, cvt_64j, cvt_64b, cvt_64w, cvt_8u, cvt_8w, bin_add64, bin_mul64, bin_sub64, bin_and51, bin_and32, bin_and1, bin_and8_1, bin_or64, bin_xor64, bin_or8, bin_shl64, bin_shl64j, bin_shr64, bin_shr64j, bin_shl8j, bin_shr8j, bin_quo64, bin_rem64, bin_quo32, bin_rem32, bin_addj, bin_subj, bin_quoj, bin_remj, bin_eqlj, bin_neqj, bin_lssj, bin_leqj, bin_gtrj, bin_geqj, bin_eql64, bin_lss64, bin_gtr64, bin_eql8, bin_rem8, L5.av, elem]; exact rfl) (areg_ca (by simp [AS.ev, AS.coe] <;> exact rfl) hc0 (areg_end (by simp [runPre, AOp.ex, AOp.ex0, ex_mov, ex_bin, binA_lit, ex_cvt, ex_iaddrA, ex_iaddrS, ex_faddr, ex_load, ldA, ex_ext, ex_add64, add64A_un, ex_pick, ex_beq, ex_un, ex_len, lenA_sl, lenA_nil, lenA_str, lenA_own, lenRow_row, elA_own, elA_sl, elRow_row, ex_nilc, ex_build, ex_bslice, ex_fieldv, AOp.ro, AS.ev, AS.put, AS.fieldAddr, idxA_ptr, idxA_cptr, AS.peek, AS.poke, AS.blk, AS.setBlk, AV.nav, AV.upd, Blk.loc, Blk.cont, Blk.n, Blk.may, Blk.upd, AV.isAgg, AV.isTup, AV.sz, unVal, ownOk, fillAV, AV.sub, cvt_64j, cvt_64b, cvt_64w, cvt_8u, cvt_8w, bin_add64, bin_mul64, bin_sub64, bin_and51, bin_and32, bin_and1, bin_and8_1, bin_or64, bin_xor64, bin_or8, bin_shl64, bin_shl64j, bin_shr64, bin_shr64j, bin_shl8j, bin_shr8j, bin_quo64, bin_rem64, bin_quo32, bin_rem32, bin_addj, bin_subj, bin_quoj, bin_remj, bin_eqlj, bin_neqj, bin_lssj, bin_leqj, bin_gtrj, bin_geqj, bin_eql64, bin_lss64, bin_gtr64, bin_eql8, bin_rem8, L5.av, elem]; exact rfl) ?_)))
  refine wp_seq' (wp_seq' (wp_r (by simp [runPre, AOp.ex, AOp.ex0, ex_mov, ex_bin, binA_lit, ex_cvt, ex_iaddrA, ex_iaddrS, ex_faddr, ex_load, ldA, ex_ext, ex_add64, add64A_un, ex_pick, ex_beq, ex_un, ex_len, lenA_sl, lenA_nil, lenA_str, lenA_own, lenRow_row, elA_own, elA_sl, elRow_row, ex_nilc, ex_build, ex_bslice, ex_fieldv, AOp.ro, AS.ev, AS.put, AS.fieldAddr, idxA_ptr, idxA_cptr, AS.peek, AS.poke, AS.blk, AS.setBlk, AV.nav, AV.upd, Blk.loc, Blk.cont, Blk.n, Blk.may, Blk.upd, AV.isAgg, AV.isTup, AV.sz, unVal, ownOk, fillAV, AV.sub, cvt_64j, cvt_64b, cvt_64w, cvt_8u, cvt_8w, bin_add64, bin_mul64, bin_sub64, bin_and51, bin_and32, bin_and1, bin_and8_1, bin_or64, bin_xor64, bin_or8, bin_shl64, bin_shl64j, bin_shr64, bin_shr64j, bin_shl8j, bin_shr8j, bin_quo64, bin_rem64, bin_quo32, bin_rem32, bin_addj, bin_subj, bin_quoj, bin_remj, bin_eqlj, bin_neqj, bin_lssj, bin_leqj, bin_gtrj, bin_geqj, bin_eql64, bin_lss64, bin_gtr64, bin_eql8, bin_rem8]; exact rfl) (wp_block' (wp_loop_to ls.length (fun i => ⟨0, [.any, .any, .ptr 2 l1 0 [], .any, .ptr 4 l2 0 [], .any, .any, .any, .any, .sl 5 (ls.map L5.av), .lit (jn ls.length), .lit (jn i)] ++ List.replicate 9 .any, [none, none, some (.box l1 5 ((ls.take i).foldl L5.tim l0).av), none, some (.box l2 5 (.st [5] [.arr 1 (List.replicate 5 (.lit (un 0)))]))] ++ List.replicate 16 none⟩) ?_ ?_ ?_))))
  · exact Le.mk rfl (by simp [leT, L5.av, elem]) (by simp [leH, L5.av, elem])
  · intro i hi
    obtain ⟨y, hy⟩ : ∃ y, ls[i]? = some y := ⟨ls[i], by simp [hi]⟩
    have hyo : y.ok := hls y (List.mem_of_getElem? hy)
    have hxo : ((ls.take i).foldl L5.tim l0).ok := tim_fold_ok hlc (fun m hm => hls m (List.mem_of_mem_take hm))
    have hst := foldl_take L5.tim l0 ls i y hy
    have q4 : i + 1 < 9223372036854775808 := by omega
    simp only [hst]
    generalize (ls.take i).foldl L5.tim l0 = x at *
    have h1 := carry_L h79 hyo.lim63
    have h2 : PCall P 31 [x.av, y.carry.av] (.val (x.tim y).av) := product_L h113 h111 h80 hxo (L5.carry_fine hyo.lim63).ok
    generalize x.tim y = z at *
    generalize y.carry = yc at *
    simp only [L5.av, elem] at h1 h2
    refine wp_sr (by simp [runPre, AOp.ex, AOp.ex0, ex_mov, ex_bin, binA_lit, ex_cvt, ex_iaddrA, ex_iaddrS, ex_faddr, ex_load, ldA, ex_ext, ex_add64, add64A_un, ex_pick, ex_beq, ex_un, ex_len, lenA_sl, lenA_nil, lenA_str, lenA_own, lenRow_row, elA_own, elA_sl, elRow_row, ex_nilc, ex_build, ex_bslice, ex_fieldv, AOp.ro, AS.ev, AS.put, AS.fieldAddr, idxA_ptr, idxA_cptr, AS.peek, AS.poke, AS.blk, AS.setBlk, AV.nav, AV.upd, Blk.loc, Blk.cont, Blk.n, Blk.may, Blk.upd, AV.isAgg, AV.isTup, AV.sz, unVal, ownOk, fillAV, AV.sub, cvt_64j, cvt_64b, cvt_64w, cvt_8u, cvt_8w, bin_add64, bin_mul64, bin_sub64, bin_and51, bin_and32, bin_and1, bin_and8_1, bin_or64, bin_xor64, bin_or8, bin_shl64, bin_shl64j, bin_shr64, bin_shr64j, bin_shl8j, bin_shr8j, bin_quo64, bin_rem64, bin_quo32, bin_rem32, bin_addj, bin_subj, bin_quoj, bin_remj, bin_eqlj, bin_neqj, bin_lssj, bin_leqj, bin_gtrj, bin_geqj, bin_eql64, bin_lss64, bin_gtr64, bin_eql8, bin_rem8, hi]; exact rfl) ?_
    refine wp_seq' (wp_cond_t (by simp [AS.ev]) (wp_skip' ?_))
    refine wp_seq' (wp_block' (wp_sg (areg_run 2 (by simp [runPre, AOp.ex, AOp.ex0, ex_mov, ex_bin, binA_lit, ex_cvt, ex_iaddrA, ex_iaddrS, ex_faddr, ex_load, ldA, ex_ext, ex_add64, add64A_un, ex_pick, ex_beq, ex_un, ex_len, lenA_sl, lenA_nil, lenA_str, lenA_own, lenRow_row, elA_own, elA_sl, elRow_row, ex_nilc, ex_build, ex_bslice, ex_fieldv, AOp.ro, AS.ev, AS.put, AS.fieldAddr, idxA_ptr, idxA_cptr, AS.peek, AS.poke, AS.blk, AS.setBlk, AV.nav, AV.upd, Blk.loc, Blk.cont, Blk.n, Blk.may, Blk.upd, AV.isAgg, AV.isTup, AV.sz, unVal, ownOk, fillAV, AV.sub, cvt_64j, cvt_64b, cvt_64w, cvt_8u, cvt_8w, bin_add64, bin_mul64, bin_sub64, bin_and51, bin_and32, bin_and1, bin_and8_1, bin_or64, bin_xor64, bin_or8, bin_shl64, bin_shl64j, bin_shr64, bin_shr64j, bin_shl8j, bin_shr8j, bin_quo64, bin_rem64, bin_quo32, bin_rem32, bin_addj, bin_subj, bin_quoj, bin_remj, bin_eqlj, bin_neqj, bin_lssj, bin_leqj, bin_gtrj, bin_geqj, bin_eql64, bin_lss64, bin_gtr64, bin_eql8, bin_rem8, hy, L5.av, elem]; exact rfl) (areg_al fun l3 => areg_end (by simp [runPre, AOp.ex, AOp.ex0, ex_mov, ex_bin, binA_lit, ex_cvt, ex_iaddrA, ex_iaddrS, ex_faddr, ex_load, ldA, ex_ext, ex_add64, add64A_un, ex_pick, ex_beq, ex_un, ex_len, lenA_sl, lenA_nil, lenA_str, lenA_own, lenRow_row, elA_own, elA_sl, elRow_row, ex_nilc, ex_build, ex_bslice, ex_fieldv, AOp.ro, AS.ev, AS.put, AS.fieldAddr, idxA_ptr, idxA_cptr, AS.peek, AS.poke, AS.blk, AS.setBlk, AV.nav, AV.upd, Blk.loc, Blk.cont, Blk.n, Blk.may, Blk.upd, AV.isAgg, AV.isTup, AV.sz, unVal, ownOk, fillAV, AV.sub, cvt_64j, cvt_64b, cvt_64w, cvt_8u, cvt_8w, bin_add64, bin_mul64, bin_sub64, bin_and51, bin_and32, bin_and1, bin_and8_1, bin_or64, bin_xor64, bin_or8, bin_shl64, bin_shl64j, bin_shr64, bin_shr64j, bin_shl8j, bin_shr8j, bin_quo64, bin_rem64, bin_quo32, bin_rem32, bin_addj, bin_subj, bin_quoj, bin_remj, bin_eqlj, bin_neqj, bin_lssj, bin_leqj, bin_gtrj, bin_geqj, bin_eql64, bin_lss64, bin_gtr64, bin_eql8, bin_rem8, L5.av, elem]; exact rfl) ?_))))
    refine wp_rg (areg_run 2 (by simp [runPre, AOp.ex, AOp.ex0, ex_mov, ex_bin, binA_lit, ex_cvt, ex_iaddrA, ex_iaddrS, ex_faddr, ex_load, ldA, ex_ext, ex_add64, add64A_un, ex_pick, ex_beq, ex_un, ex_len, lenA_sl, lenA_nil, lenA_str, lenA_own, lenRow_row, elA_own, elA_sl, elRow_row, ex_nilc, ex_build, ex_bslice, ex_fieldv, AOp.ro, AS.ev, AS.put, AS.fieldAddr, idxA_ptr, idxA_cptr, AS.peek, AS.poke, AS.blk, AS.setBlk, AV.nav, AV.upd, Blk.loc, Blk.cont, Blk.n, Blk.may, Blk.upd, AV.isAgg, AV.isTup, AV.sz, unVal, ownOk, fillAV, AV.sub, cvt_64j, cvt_64b, cvt_64w, cvt_8u, cvt_8w, bin_add64, bin_mul64, bin_sub64, bin_and51, bin_and32, bin_and1, bin_and8_1, bin_or64, bin_xor64, bin_or8, bin_shl64, bin_shl64j, bin_shr64, bin_shr64j, bin_shl8j, bin_shr8j, bin_quo64, bin_rem64, bin_quo32, bin_rem32, bin_addj, bin_subj, bin_quoj, bin_remj, bin_eqlj, bin_neqj, bin_lssj, bin_leqj, bin_gtrj, bin_geqj, bin_eql64, bin_lss64, bin_gtr64, bin_eql8, bin_rem8]; exact rfl) (areg_cv (by simp [AS.ev, AS.coe] <;> exact rfl) h1 (areg_cv (by simp [AS.ev, AS.coe, AS.put] <;> exact rfl) h2 (areg_end (by simp [runPre, AOp.ex, AOp.ex0, ex_mov, ex_bin, binA_lit, ex_cvt, ex_iaddrA, ex_iaddrS, ex_faddr, ex_load, ldA, ex_ext, ex_add64, add64A_un, ex_pick, ex_beq, ex_un, ex_len, lenA_sl, lenA_nil, lenA_str, lenA_own, lenRow_row, elA_own, elA_sl, elRow_row, ex_nilc, ex_build, ex_bslice, ex_fieldv, AOp.ro, AS.ev, AS.put, AS.fieldAddr, idxA_ptr, idxA_cptr, AS.peek, AS.poke, AS.blk, AS.setBlk, AV.nav, AV.upd, Blk.loc, Blk.cont, Blk.n, Blk.may, Blk.upd, AV.isAgg, AV.isTup, AV.sz, unVal, ownOk, fillAV, AV.sub, cvt_64j, cvt_64b, cvt_64w, cvt_8u, cvt_8w, bin_add64, bin_mul64, bin_sub64, bin_and51, bin_and32, bin_and1, bin_and8_1, bin_or64, bin_xor64, bin_or8, bin_shl64, bin_shl64j, bin_shr64, bin_shr64j, bin_shl8j, bin_shr8j, bin_quo64, bin_rem64, bin_quo32, bin_rem32, bin_addj, bin_subj, bin_quoj, bin_remj, bin_eqlj, bin_neqj, bin_lssj, bin_leqj, bin_gtrj, bin_geqj, bin_eql64, bin_lss64, bin_gtr64, bin_eql8, bin_rem8]; exact rfl) ?_))))
    refine wp_r (by simp [runPre, AOp.ex, AOp.ex0, ex_mov, ex_bin, binA_lit, ex_cvt, ex_iaddrA, ex_iaddrS, ex_faddr, ex_load, ldA, ex_ext, ex_add64, add64A_un, ex_pick, ex_beq, ex_un, ex_len, lenA_sl, lenA_nil, lenA_str, lenA_own, lenRow_row, elA_own, elA_sl, elRow_row, ex_nilc, ex_build, ex_bslice, ex_fieldv, AOp.ro, AS.ev, AS.put, AS.fieldAddr, idxA_ptr, idxA_cptr, AS.peek, AS.poke, AS.blk, AS.setBlk, AV.nav, AV.upd, Blk.loc, Blk.cont, Blk.n, Blk.may, Blk.upd, AV.isAgg, AV.isTup, AV.sz, unVal, ownOk, fillAV, AV.sub, cvt_64j, cvt_64b, cvt_64w, cvt_8u, cvt_8w, bin_add64, bin_mul64, bin_sub64, bin_and51, bin_and32, bin_and1, bin_and8_1, bin_or64, bin_xor64, bin_or8, bin_shl64, bin_shl64j, bin_shr64, bin_shr64j, bin_shl8j, bin_shr8j, bin_quo64, bin_rem64, bin_quo32, bin_rem32, bin_addj, bin_subj, bin_quoj, bin_remj, bin_eqlj, bin_neqj, bin_lssj, bin_leqj, bin_gtrj, bin_geqj, bin_eql64, bin_lss64, bin_gtr64, bin_eql8, bin_rem8, q4]; exact rfl) ?_
    exact Le.mk rfl (by simp [leT]) (by simp [leH, L5.av, elem])
  · have e : ls.take ls.length = ls := List.take_length
    simp only [e]
    refine wp_sr (by simp [runPre, AOp.ex, AOp.ex0, ex_mov, ex_bin, binA_lit, ex_cvt, ex_iaddrA, ex_iaddrS, ex_faddr, ex_load, ldA, ex_ext, ex_add64, add64A_un, ex_pick, ex_beq, ex_un, ex_len, lenA_sl, lenA_nil, lenA_str, lenA_own, lenRow_row, elA_own, elA_sl, elRow_row, ex_nilc, ex_build, ex_bslice, ex_fieldv, AOp.ro, AS.ev, AS.put, AS.fieldAddr, idxA_ptr, idxA_cptr, AS.peek, AS.poke, AS.blk, AS.setBlk, AV.nav, AV.upd, Blk.loc, Blk.cont, Blk.n, Blk.may, Blk.upd, AV.isAgg, AV.isTup, AV.sz, unVal, ownOk, fillAV, AV.sub, cvt_64j, cvt_64b, cvt_64w, cvt_8u, cvt_8w, bin_add64, bin_mul64, bin_sub64, bin_and51, bin_and32, bin_and1, bin_and8_1, bin_or64, bin_xor64, bin_or8, bin_shl64, bin_shl64j, bin_shr64, bin_shr64j, bin_shl8j, bin_shr8j, bin_quo64, bin_rem64, bin_quo32, bin_rem32, bin_addj, bin_subj, bin_quoj, bin_remj, bin_eqlj, bin_neqj, bin_lssj, bin_leqj, bin_gtrj, bin_geqj, bin_eql64, bin_lss64, bin_gtr64, bin_eql8, bin_rem8]; exact rfl) ?_
    refine wp_seq' (wp_cond_f (by simp [AS.ev]) (wp_exit' (if_hit rfl ?_)))
    repeat (first | (with_reducible apply wp_sr); focus (simp [runPre, AOp.ex, AOp.ex0, ex_mov, ex_bin, binA_lit, ex_cvt, ex_iaddrA, ex_iaddrS, ex_faddr, ex_load, ldA, ex_ext, ex_add64, add64A_un, ex_pick, ex_beq, ex_un, ex_len, lenA_sl, lenA_nil, lenA_str, lenA_own, lenRow_row, elA_own, elA_sl, elRow_row, ex_nilc, ex_build, ex_bslice, ex_fieldv, AOp.ro, AS.ev, AS.put, AS.fieldAddr, idxA_ptr, idxA_cptr, AS.peek, AS.poke, AS.blk, AS.setBlk, AV.nav, AV.upd, Blk.loc, Blk.cont, Blk.n, Blk.may, Blk.upd, AV.isAgg, AV.isTup, AV.sz, unVal, ownOk, fillAV, AV.sub, cvt_64j, cvt_64b, cvt_64w, cvt_8u, cvt_8w, bin_add64, bin_mul64, bin_sub64, bin_and51, bin_and32, bin_and1, bin_and8_1, bin_or64, bin_xor64, bin_or8, bin_shl64, bin_shl64j, bin_shr64, bin_shr64j, bin_shl8j, bin_shr8j, bin_quo64, bin_rem64, bin_quo32, bin_rem32, bin_addj, bin_subj, bin_quoj, bin_remj, bin_eqlj, bin_neqj, bin_lssj, bin_leqj, bin_gtrj, bin_geqj, bin_eql64, bin_lss64, bin_gtr64, bin_eql8, bin_rem8, L5.av, elem]; exact rfl) | (with_reducible apply wp_r); focus (simp [runPre, AOp.ex, AOp.ex0, ex_mov, ex_bin, binA_lit, ex_cvt, ex_iaddrA, ex_iaddrS, ex_faddr, ex_load, ldA, ex_ext, ex_add64, add64A_un, ex_pick, ex_beq, ex_un, ex_len, lenA_sl, lenA_nil, lenA_str, lenA_own, lenRow_row, elA_own, elA_sl, elRow_row, ex_nilc, ex_build, ex_bslice, ex_fieldv, AOp.ro, AS.ev, AS.put, AS.fieldAddr, idxA_ptr, idxA_cptr, AS.peek, AS.poke, AS.blk, AS.setBlk, AV.nav, AV.upd, Blk.loc, Blk.cont, Blk.n, Blk.may, Blk.upd, AV.isAgg, AV.isTup, AV.sz, unVal, ownOk, fillAV, AV.sub, cvt_64j, cvt_64b, cvt_64w, cvt_8u, cvt_8w, bin_add64, bin_mul64, bin_sub64, bin_and51, bin_and32, bin_and1, bin_and8_1, bin_or64, bin_xor64, bin_or8, bin_shl64, bin_shl64j, bin_shr64, bin_shr64j, bin_shl8j, bin_shr8j, bin_quo64, bin_rem64, bin_quo32, bin_rem32, bin_addj, bin_subj, bin_quoj, bin_remj, bin_eqlj, bin_neqj, bin_lssj, bin_leqj, bin_gtrj, bin_geqj, bin_eql64, bin_lss64, bin_gtr64, bin_eql8, bin_rem8, L5.av, elem]; exact rfl) | (with_reducible refine wp_seq' (wp_cond_t ?_ ?_)); focus (simp [AS.ev]; done) | (with_reducible refine wp_seq' (wp_cond_f ?_ ?_)); focus (simp [AS.ev]; done) | (with_reducible refine wp_cond_t ?_ ?_); focus (simp [AS.ev]; done) | (with_reducible refine wp_cond_f ?_ ?_); focus (simp [AS.ev]; done) | with_reducible refine wp_seq' ?_ | with_reducible refine wp_block' ?_ | with_reducible refine wp_skip' ?_ | with_reducible refine wp_exit' ?_ | with_reducible refine wp_ret' ?_ | with_reducible refine if_hit rfl ?_ | with_reducible refine loopN_succ ?_)
    refine fin_cell (by simp [RVal, AS.coe, tt, AS.ev, AS.peek, AS.blk, Blk.loc, Blk.cont, Blk.n, AV.nav, AV.isAgg, AV.isTup, L5.av, elem]) (by simp [L5.av, elem])
end Go.Cab

/- References: digits. -/
namespace Go.Cab
def fb77 : AC := (.seq (.reg [⟨(.some 1), .none, (.box 32 (.tmp 0)), [], .none⟩, ⟨(.some 2), .none, (.mov (.const (.slice .none 0 0))), [], .none⟩]) (.seq (.reg [⟨(.some 3), .none, (.mov (.const (.slice .none 0 0))), [], .none⟩]) (.seq (.seq (.reg [⟨(.some 4), .none, (.mov (.const (jn 0))), [], .none⟩]) (.block 0 (.loop (.seq (.seq (.reg [⟨(.some 5), .none, (.mov (.tmp 4)), [], .none⟩, ⟨(.some 6), .none, (.bin .lss (.tmp 5) (.const (jn 32))), [], .none⟩]) (.cond (.tmp 6) .skip (.exit 0))) (.seq (.block 1 (.reg [⟨(.some 9), .none, (.mov (.tmp 3)), [], .none⟩, ⟨(.some 10), .none, (.mov (.tmp 4)), [], .none⟩, ⟨(.some 11), .none, (.iaddrA 32 1 (.tmp 1) (.tmp 10)), [], .none⟩, ⟨(.some 12), .none, (.load .false 1 (.tmp 11)), [], .none⟩, ⟨(.some 13), .none, (.cvt .u64 (.tmp 12)), [], .none⟩, ⟨(.some 14), .none, (.bslice 1 (.lit (un 0)) 1 [(0, (.tmp 13))]), [], .none⟩, ⟨(.some 15), .none, (.append 26 1 8 (.tmp 9) (.tmp 14)), [], .none⟩, ⟨(.some 3), .none, (.mov (.tmp 15)), [], .none⟩])) (.reg [⟨(.some 7), .none, (.mov (.tmp 4)), [], .none⟩, ⟨(.some 8), .none, (.bin .add (.tmp 7) (.const (jn 1))), [], .none⟩, ⟨(.some 4), .none, (.mov (.tmp 8)), [], .none⟩])))))) (.seq (.reg [⟨(.some 16), .none, (.mov (.tmp 3)), [], .none⟩, ⟨(.some 17), .none, (.mov (.tmp 3)), [], .none⟩, ⟨(.some 18), .none, (.iaddrS 1 (.tmp 17) (.const (jn 31))), [], .none⟩, ⟨(.some 19), .none, (.load .false 1 (.tmp 18)), [], .none⟩, ⟨(.some 20), .none, (.bin .rem (.tmp 19) (.const (un 128))), [], .none⟩, ⟨(.some 21), .none, (.iaddrS 1 (.tmp 16) (.const (jn 31))), [], .none⟩, ⟨.none, .none, (.store 1 (.tmp 21) (.tmp 20)), [], .none⟩]) (.seq (.reg [⟨(.some 22), .none, (.mov (.tmp 3)), [], .none⟩, ⟨(.some 2), .none, (.mov (.tmp 22)), [], .none⟩]) .ret)))))
def fc77 : FC := ⟨1, 23, [(.tmp 2)], fb77⟩
theorem fc77_eq : compF Go.Proofs.Try.prog 23 = some fc77 := by kernel_rfl

def byteOf (n j : Nat) : Nat := n / 2 ^ (8 * j) % 256
/-- A number's 32 digits, without the highest bit. -/
def digitsOf (n : Nat) : List Nat := ((List.range 32).map (byteOf n)).set 31 (byteOf n 31 % 128)

theorem range_dl (f : Nat → Nat) (i : Nat) : dl ((List.range i).map f) ++ [AV.lit (un (f i))] = dl ((List.range (i + 1)).map f) := by
  rw [List.range_succ, List.map_append, dl_one, dl_app]; rfl

set_option maxHeartbeats 4000000 in
set_option maxRecDepth 20000 in
theorem digits_call {P : Program} (h77 : compF P 23 = some fc77) (n : Nat) : PCall P 23 [.arr 1 (lst 32 fun j => .lit (bn (n / 2 ^ (8 * j) % 256)))] (.row 26 1 (dl (digitsOf n))) := by
  refine PCall.of h77 rfl ?_; show AC.wp _ fb77 (AS.init [.arr 1 (lst 32 fun j => .lit (bn (n / 2 ^ (8 * j) % 256)))] 1 23) (fun x s => match x with | .exit _ => False | _ => Fin [(.tmp 2)] s _); unfold fb77 AS.init
  refine wp_sg (areg_bx rfl (by simp [AS.ev, AV.sz, lst_len]) fun l1 => areg_end (by simp [runPre, AOp.ex, AOp.ex0, ex_mov, ex_bin, binA_lit, ex_cvt, ex_iaddrA, ex_iaddrS, ex_faddr, ex_load, ldA, ex_ext, ex_add64, add64A_un, ex_pick, ex_beq, ex_un, ex_len, lenA_sl, lenA_nil, lenA_str, lenA_own, lenRow_row, elA_own, elA_sl, elRow_row, ex_nilc, ex_build, ex_bslice, ex_fieldv, AOp.ro, AS.ev, AS.put, AS.fieldAddr, idxA_ptr, idxA_cptr, AS.peek, AS.poke, AS.blk, AS.setBlk, AV.nav, AV.upd, Blk.loc, Blk.cont, Blk.n, Blk.may, Blk.upd, AV.isAgg, AV.isTup, AV.sz, unVal, ownOk, fillAV, AV.sub, cvt_64j, cvt_64b, cvt_64w, cvt_8u, cvt_8w, bin_add64, bin_mul64, bin_sub64, bin_and51, bin_and32, bin_and1, bin_and8_1, bin_or64, bin_xor64, bin_or8, bin_shl64, bin_shl64j, bin_shr64, bin_shr64j, bin_shl8j, bin_shr8j, bin_quo64, bin_rem64, bin_quo32, bin_rem32, bin_addj, bin_subj, bin_quoj, bin_remj, bin_eqlj, bin_neqj, bin_lssj, bin_leqj, bin_gtrj, bin_geqj, bin_eql64, bin_lss64, bin_gtr64, bin_eql8, bin_rem8]; exact rfl) ?_)
  refine wp_sr (by simp [runPre, AOp.ex, AOp.ex0, ex_mov, ex_bin, binA_lit, ex_cvt, ex_iaddrA, ex_iaddrS, ex_faddr, ex_load, ldA, ex_ext, ex_add64, add64A_un, ex_pick, ex_beq, ex_un, ex_len, lenA_sl, lenA_nil, lenA_str, lenA_own, lenRow_row, elA_own, elA_sl, elRow_row, ex_nilc, ex_build, ex_bslice, ex_fieldv, AOp.ro, AS.ev, AS.put, AS.fieldAddr, idxA_ptr, idxA_cptr, AS.peek, AS.poke, AS.blk, AS.setBlk, AV.nav, AV.upd, Blk.loc, Blk.cont, Blk.n, Blk.may, Blk.upd, AV.isAgg, AV.isTup, AV.sz, unVal, ownOk, fillAV, AV.sub, cvt_64j, cvt_64b, cvt_64w, cvt_8u, cvt_8w, bin_add64, bin_mul64, bin_sub64, bin_and51, bin_and32, bin_and1, bin_and8_1, bin_or64, bin_xor64, bin_or8, bin_shl64, bin_shl64j, bin_shr64, bin_shr64j, bin_shl8j, bin_shr8j, bin_quo64, bin_rem64, bin_quo32, bin_rem32, bin_addj, bin_subj, bin_quoj, bin_remj, bin_eqlj, bin_neqj, bin_lssj, bin_leqj, bin_gtrj, bin_geqj, bin_eql64, bin_lss64, bin_gtr64, bin_eql8, bin_rem8]; exact rfl) ?_
  refine wp_seq' (wp_seq' (wp_r (by simp [runPre, AOp.ex, AOp.ex0, ex_mov, ex_bin, binA_lit, ex_cvt, ex_iaddrA, ex_iaddrS, ex_faddr, ex_load, ldA, ex_ext, ex_add64, add64A_un, ex_pick, ex_beq, ex_un, ex_len, lenA_sl, lenA_nil, lenA_str, lenA_own, lenRow_row, elA_own, elA_sl, elRow_row, ex_nilc, ex_build, ex_bslice, ex_fieldv, AOp.ro, AS.ev, AS.put, AS.fieldAddr, idxA_ptr, idxA_cptr, AS.peek, AS.poke, AS.blk, AS.setBlk, AV.nav, AV.upd, Blk.loc, Blk.cont, Blk.n, Blk.may, Blk.upd, AV.isAgg, AV.isTup, AV.sz, unVal, ownOk, fillAV, AV.sub, cvt_64j, cvt_64b, cvt_64w, cvt_8u, cvt_8w, bin_add64, bin_mul64, bin_sub64, bin_and51, bin_and32, bin_and1, bin_and8_1, bin_or64, bin_xor64, bin_or8, bin_shl64, bin_shl64j, bin_shr64, bin_shr64j, bin_shl8j, bin_shr8j, bin_quo64, bin_rem64, bin_quo32, bin_rem32, bin_addj, bin_subj, bin_quoj, bin_remj, bin_eqlj, bin_neqj, bin_lssj, bin_leqj, bin_gtrj, bin_geqj, bin_eql64, bin_lss64, bin_gtr64, bin_eql8, bin_rem8]; exact rfl) (wp_block' (wp_loop_v 32 (fun i V => ⟨0, [.any, .ptr 1 l1 0 [], .lit (.slice none 0 0), .own 15 V, .lit (jn i)] ++ List.replicate 18 .any, [none, some (.box l1 32 (.arr 1 (lst 32 fun j => .lit (bn (n / 2 ^ (8 * j) % 256)))))] ++ List.replicate 13 none ++ [some (.row 26 V 1 (dl ((List.range i).map (byteOf n))) 0)] ++ List.replicate 7 none⟩) ?_ ?_ ?_))))
  · exact ⟨.slice none 0 0, Le.trans (Le.nilRow (t := 3) (b := 15) rfl rfl 26 1) (Le.mk rfl (by simp [leT]) (by simp [leH, dl]))⟩
  · intro i V hi
    have q3 : i < 9223372036854775808 := by omega
    have q4 : i + 1 < 9223372036854775808 := by omega
    have c : n / 2 ^ (8 * i) % 256 % 18446744073709551616 = byteOf n i := by unfold byteOf; omega
    refine wp_seq' (wp_sr (by simp [runPre, AOp.ex, AOp.ex0, ex_mov, ex_bin, binA_lit, ex_cvt, ex_iaddrA, ex_iaddrS, ex_faddr, ex_load, ldA, ex_ext, ex_add64, add64A_un, ex_pick, ex_beq, ex_un, ex_len, lenA_sl, lenA_nil, lenA_str, lenA_own, lenRow_row, elA_own, elA_sl, elRow_row, ex_nilc, ex_build, ex_bslice, ex_fieldv, AOp.ro, AS.ev, AS.put, AS.fieldAddr, idxA_ptr, idxA_cptr, AS.peek, AS.poke, AS.blk, AS.setBlk, AV.nav, AV.upd, Blk.loc, Blk.cont, Blk.n, Blk.may, Blk.upd, AV.isAgg, AV.isTup, AV.sz, unVal, ownOk, fillAV, AV.sub, cvt_64j, cvt_64b, cvt_64w, cvt_8u, cvt_8w, bin_add64, bin_mul64, bin_sub64, bin_and51, bin_and32, bin_and1, bin_and8_1, bin_or64, bin_xor64, bin_or8, bin_shl64, bin_shl64j, bin_shr64, bin_shr64j, bin_shl8j, bin_shr8j, bin_quo64, bin_rem64, bin_quo32, bin_rem32, bin_addj, bin_subj, bin_quoj, bin_remj, bin_eqlj, bin_neqj, bin_lssj, bin_leqj, bin_gtrj, bin_geqj, bin_eql64, bin_lss64, bin_gtr64, bin_eql8, bin_rem8, hi]; exact rfl) (wp_cond_t (by simp [AS.ev]) (wp_skip' ?_)))
    refine wp_seq' (wp_block' (wp_rg (areg_run 6 (by simp [runPre, AOp.ex, AOp.ex0, ex_mov, ex_bin, binA_lit, ex_cvt, ex_iaddrA, ex_iaddrS, ex_faddr, ex_load, ldA, ex_ext, ex_add64, add64A_un, ex_pick, ex_beq, ex_un, ex_len, lenA_sl, lenA_nil, lenA_str, lenA_own, lenRow_row, elA_own, elA_sl, elRow_row, ex_nilc, ex_build, ex_bslice, ex_fieldv, AOp.ro, AS.ev, AS.put, AS.fieldAddr, idxA_ptr, idxA_cptr, AS.peek, AS.poke, AS.blk, AS.setBlk, AV.nav, AV.upd, Blk.loc, Blk.cont, Blk.n, Blk.may, Blk.upd, AV.isAgg, AV.isTup, AV.sz, unVal, ownOk, fillAV, AV.sub, cvt_64j, cvt_64b, cvt_64w, cvt_8u, cvt_8w, bin_add64, bin_mul64, bin_sub64, bin_and51, bin_and32, bin_and1, bin_and8_1, bin_or64, bin_xor64, bin_or8, bin_shl64, bin_shl64j, bin_shr64, bin_shr64j, bin_shl8j, bin_shr8j, bin_quo64, bin_rem64, bin_quo32, bin_rem32, bin_addj, bin_subj, bin_quoj, bin_remj, bin_eqlj, bin_neqj, bin_lssj, bin_leqj, bin_gtrj, bin_geqj, bin_eql64, bin_lss64, bin_gtr64, bin_eql8, bin_rem8, hi, lst_get, lst_getD, c]; exact rfl) (areg_ap rfl rfl (by simp [AS.ev, AS.coe]; exact rfl) ?_ ?_ fun V' => areg_end (by simp [runPre, AOp.ex, AOp.ex0, ex_mov, ex_bin, binA_lit, ex_cvt, ex_iaddrA, ex_iaddrS, ex_faddr, ex_load, ldA, ex_ext, ex_add64, add64A_un, ex_pick, ex_beq, ex_un, ex_len, lenA_sl, lenA_nil, lenA_str, lenA_own, lenRow_row, elA_own, elA_sl, elRow_row, ex_nilc, ex_build, ex_bslice, ex_fieldv, AOp.ro, AS.ev, AS.put, AS.fieldAddr, idxA_ptr, idxA_cptr, AS.peek, AS.poke, AS.blk, AS.setBlk, AV.nav, AV.upd, Blk.loc, Blk.cont, Blk.n, Blk.may, Blk.upd, AV.isAgg, AV.isTup, AV.sz, unVal, ownOk, fillAV, AV.sub, cvt_64j, cvt_64b, cvt_64w, cvt_8u, cvt_8w, bin_add64, bin_mul64, bin_sub64, bin_and51, bin_and32, bin_and1, bin_and8_1, bin_or64, bin_xor64, bin_or8, bin_shl64, bin_shl64j, bin_shr64, bin_shr64j, bin_shl8j, bin_shr8j, bin_quo64, bin_rem64, bin_quo32, bin_rem32, bin_addj, bin_subj, bin_quoj, bin_remj, bin_eqlj, bin_neqj, bin_lssj, bin_leqj, bin_gtrj, bin_geqj, bin_eql64, bin_lss64, bin_gtr64, bin_eql8, bin_rem8]; exact rfl) ?_))))
    · simp [dl_len, maxLen]; omega
    · simp [dl_len]; omega
    · refine wp_r (by simp [runPre, AOp.ex, AOp.ex0, ex_mov, ex_bin, binA_lit, ex_cvt, ex_iaddrA, ex_iaddrS, ex_faddr, ex_load, ldA, ex_ext, ex_add64, add64A_un, ex_pick, ex_beq, ex_un, ex_len, lenA_sl, lenA_nil, lenA_str, lenA_own, lenRow_row, elA_own, elA_sl, elRow_row, ex_nilc, ex_build, ex_bslice, ex_fieldv, AOp.ro, AS.ev, AS.put, AS.fieldAddr, idxA_ptr, idxA_cptr, AS.peek, AS.poke, AS.blk, AS.setBlk, AV.nav, AV.upd, Blk.loc, Blk.cont, Blk.n, Blk.may, Blk.upd, AV.isAgg, AV.isTup, AV.sz, unVal, ownOk, fillAV, AV.sub, cvt_64j, cvt_64b, cvt_64w, cvt_8u, cvt_8w, bin_add64, bin_mul64, bin_sub64, bin_and51, bin_and32, bin_and1, bin_and8_1, bin_or64, bin_xor64, bin_or8, bin_shl64, bin_shl64j, bin_shr64, bin_shr64j, bin_shl8j, bin_shr8j, bin_quo64, bin_rem64, bin_quo32, bin_rem32, bin_addj, bin_subj, bin_quoj, bin_remj, bin_eqlj, bin_neqj, bin_lssj, bin_leqj, bin_gtrj, bin_geqj, bin_eql64, bin_lss64, bin_gtr64, bin_eql8, bin_rem8, q4]; exact rfl) ?_
      refine Exists.intro V' ?_
      exact Le.mk rfl (by simp [leT]) (by simp [leH, range_dl])
  · intro V
    have hd : digitsOf n = ((List.range 32).map (byteOf n)).set 31 (byteOf n 31 % 128) := rfl
    have hx1 : ((List.range 32).map (byteOf n))[31]? = some (byteOf n 31) := by simp
    have hx2 : ((List.range 32).map (byteOf n)).length = 32 := by simp
    rw [hd]
    generalize (List.range 32).map (byteOf n) = L at *
    refine wp_seq' (wp_sr (by simp [runPre, AOp.ex, AOp.ex0, ex_mov, ex_bin, binA_lit, ex_cvt, ex_iaddrA, ex_iaddrS, ex_faddr, ex_load, ldA, ex_ext, ex_add64, add64A_un, ex_pick, ex_beq, ex_un, ex_len, lenA_sl, lenA_nil, lenA_str, lenA_own, lenRow_row, elA_own, elA_sl, elRow_row, ex_nilc, ex_build, ex_bslice, ex_fieldv, AOp.ro, AS.ev, AS.put, AS.fieldAddr, idxA_ptr, idxA_cptr, AS.peek, AS.poke, AS.blk, AS.setBlk, AV.nav, AV.upd, Blk.loc, Blk.cont, Blk.n, Blk.may, Blk.upd, AV.isAgg, AV.isTup, AV.sz, unVal, ownOk, fillAV, AV.sub, cvt_64j, cvt_64b, cvt_64w, cvt_8u, cvt_8w, bin_add64, bin_mul64, bin_sub64, bin_and51, bin_and32, bin_and1, bin_and8_1, bin_or64, bin_xor64, bin_or8, bin_shl64, bin_shl64j, bin_shr64, bin_shr64j, bin_shl8j, bin_shr8j, bin_quo64, bin_rem64, bin_quo32, bin_rem32, bin_addj, bin_subj, bin_quoj, bin_remj, bin_eqlj, bin_neqj, bin_lssj, bin_leqj, bin_gtrj, bin_geqj, bin_eql64, bin_lss64, bin_gtr64, bin_eql8, bin_rem8]; exact rfl) (wp_cond_f (by simp [AS.ev]) (wp_exit' (if_hit rfl ?_))))
    have g1 : (dl L)[31]? = some (.lit (un (byteOf n 31))) := by rw [dl_get, hx1]; rfl
    have g2 : (dl L).length = 32 := by rw [dl_len, hx2]
    have g3 : ∀ x, (dl L).set 31 (.lit (un x)) = dl (L.set 31 x) := fun x => dl_set _ _ _
    have g4 : ∀ h, (dl L)[31]'h = .lit (un (byteOf n 31)) := fun h => by rw [List.getElem?_eq_getElem h] at g1; exact Option.some.inj g1
    repeat (first | (with_reducible apply wp_sr); focus (simp [runPre, AOp.ex, AOp.ex0, ex_mov, ex_bin, binA_lit, ex_cvt, ex_iaddrA, ex_iaddrS, ex_faddr, ex_load, ldA, ex_ext, ex_add64, add64A_un, ex_pick, ex_beq, ex_un, ex_len, lenA_sl, lenA_nil, lenA_str, lenA_own, lenRow_row, elA_own, elA_sl, elRow_row, ex_nilc, ex_build, ex_bslice, ex_fieldv, AOp.ro, AS.ev, AS.put, AS.fieldAddr, idxA_ptr, idxA_cptr, AS.peek, AS.poke, AS.blk, AS.setBlk, AV.nav, AV.upd, Blk.loc, Blk.cont, Blk.n, Blk.may, Blk.upd, AV.isAgg, AV.isTup, AV.sz, unVal, ownOk, fillAV, AV.sub, cvt_64j, cvt_64b, cvt_64w, cvt_8u, cvt_8w, bin_add64, bin_mul64, bin_sub64, bin_and51, bin_and32, bin_and1, bin_and8_1, bin_or64, bin_xor64, bin_or8, bin_shl64, bin_shl64j, bin_shr64, bin_shr64j, bin_shl8j, bin_shr8j, bin_quo64, bin_rem64, bin_quo32, bin_rem32, bin_addj, bin_subj, bin_quoj, bin_remj, bin_eqlj, bin_neqj, bin_lssj, bin_leqj, bin_gtrj, bin_geqj, bin_eql64, bin_lss64, bin_gtr64, bin_eql8, bin_rem8, g1, g2, g3, g4, lst_len]; exact rfl) | (with_reducible apply wp_r); focus (simp [runPre, AOp.ex, AOp.ex0, ex_mov, ex_bin, binA_lit, ex_cvt, ex_iaddrA, ex_iaddrS, ex_faddr, ex_load, ldA, ex_ext, ex_add64, add64A_un, ex_pick, ex_beq, ex_un, ex_len, lenA_sl, lenA_nil, lenA_str, lenA_own, lenRow_row, elA_own, elA_sl, elRow_row, ex_nilc, ex_build, ex_bslice, ex_fieldv, AOp.ro, AS.ev, AS.put, AS.fieldAddr, idxA_ptr, idxA_cptr, AS.peek, AS.poke, AS.blk, AS.setBlk, AV.nav, AV.upd, Blk.loc, Blk.cont, Blk.n, Blk.may, Blk.upd, AV.isAgg, AV.isTup, AV.sz, unVal, ownOk, fillAV, AV.sub, cvt_64j, cvt_64b, cvt_64w, cvt_8u, cvt_8w, bin_add64, bin_mul64, bin_sub64, bin_and51, bin_and32, bin_and1, bin_and8_1, bin_or64, bin_xor64, bin_or8, bin_shl64, bin_shl64j, bin_shr64, bin_shr64j, bin_shl8j, bin_shr8j, bin_quo64, bin_rem64, bin_quo32, bin_rem32, bin_addj, bin_subj, bin_quoj, bin_remj, bin_eqlj, bin_neqj, bin_lssj, bin_leqj, bin_gtrj, bin_geqj, bin_eql64, bin_lss64, bin_gtr64, bin_eql8, bin_rem8, g1, g2, g3, g4, lst_len]; exact rfl) | (with_reducible refine wp_seq' (wp_cond_t ?_ ?_)); focus (simp [AS.ev]; done) | (with_reducible refine wp_seq' (wp_cond_f ?_ ?_)); focus (simp [AS.ev]; done) | (with_reducible refine wp_cond_t ?_ ?_); focus (simp [AS.ev]; done) | (with_reducible refine wp_cond_f ?_ ?_); focus (simp [AS.ev]; done) | with_reducible refine wp_seq' ?_ | with_reducible refine wp_block' ?_ | with_reducible refine wp_skip' ?_ | with_reducible refine wp_exit' ?_ | with_reducible refine wp_ret' ?_ | with_reducible refine if_hit rfl ?_ | with_reducible refine loopN_succ ?_)
    refine fin_row (b := 15) (V := V) ?_ ?_
    · simp [AS.ev]
    · simp [AS.blk]
end Go.Cab

/- References: keys of digits; is anything high. -/
namespace Go.Cab
def fb75 : AC := (.seq (.reg [⟨(.some 2), .none, (.alloc 32 (.arr 1 (List.replicate 32 (.lit (bn 0))))), [], .none⟩]) (.seq (.reg [⟨(.some 3), .none, (.alloc 32 (.arr 1 (List.replicate 32 (.lit (bn 0))))), [], .none⟩]) (.seq (.seq (.reg [⟨(.some 4), .none, (.mov (.const (jn 0))), [], .none⟩]) (.block 0 (.loop (.seq (.seq (.reg [⟨(.some 5), .none, (.mov (.tmp 4)), [], .none⟩, ⟨(.some 6), .none, (.bin .lss (.tmp 5) (.const (jn 32))), [], .none⟩, ⟨(.some 7), .none, (.mov (.tmp 6)), [], .none⟩, ⟨(.some 8), (.some (7, .true)), (.mov (.tmp 4)), [], .none⟩, ⟨(.some 9), (.some (7, .true)), (.mov (.tmp 0)), [], .none⟩, ⟨(.some 10), (.some (7, .true)), (.len .false (.tmp 9)), [], .none⟩, ⟨(.some 11), (.some (7, .true)), (.bin .lss (.tmp 8) (.tmp 10)), [], .none⟩, ⟨(.some 12), .none, (.pick (.tmp 7) (.tmp 11) (.const (.bool .false))), [], .none⟩]) (.cond (.tmp 12) .skip (.exit 0))) (.seq (.block 1 (.reg [⟨(.some 15), .none, (.mov (.tmp 4)), [], .none⟩, ⟨(.some 16), .none, (.mov (.tmp 0)), [], .none⟩, ⟨(.some 17), .none, (.mov (.tmp 4)), [], .none⟩, ⟨(.some 18), .none, (.iaddrS 1 (.tmp 16) (.tmp 17)), [], .none⟩, ⟨(.some 19), .none, (.load .false 1 (.tmp 18)), [], .none⟩, ⟨(.some 20), .none, (.cvt .u8 (.tmp 19)), [], .none⟩, ⟨(.some 21), .none, (.iaddrA 32 1 (.tmp 3) (.tmp 15)), [], .none⟩, ⟨.none, .none, (.store 1 (.tmp 21) (.tmp 20)), [], .none⟩])) (.reg [⟨(.some 13), .none, (.mov (.tmp 4)), [], .none⟩, ⟨(.some 14), .none, (.bin .add (.tmp 13) (.const (jn 1))), [], .none⟩, ⟨(.some 4), .none, (.mov (.tmp 14)), [], .none⟩])))))) (.seq (.reg [⟨(.some 22), .none, (.load .true 32 (.tmp 3)), [], .none⟩, ⟨.none, .none, (.store 32 (.tmp 2) (.tmp 22)), [], .none⟩]) .ret))))
def fc75 : FC := ⟨1, 23, [(.cell 2 .true 32)], fb75⟩
theorem fc75_eq : compF Go.Proofs.Try.prog 21 = some fc75 := by kernel_rfl
def fb110 : AC := (.seq (.reg [⟨(.some 2), .none, (.mov (.const (.bool .false))), [], .none⟩]) (.seq (.seq (.reg [⟨(.some 3), .none, (.mov (.const (jn 31))), [], .none⟩]) (.block 0 (.loop (.seq (.seq (.reg [⟨(.some 4), .none, (.mov (.tmp 3)), [], .none⟩, ⟨(.some 5), .none, (.mov (.tmp 0)), [], .none⟩, ⟨(.some 6), .none, (.len .false (.tmp 5)), [], .none⟩, ⟨(.some 7), .none, (.bin .lss (.tmp 4) (.tmp 6)), [], .none⟩]) (.cond (.tmp 7) .skip (.exit 0))) (.seq (.block 1 (.seq (.reg [⟨(.some 10), .none, (.mov (.tmp 3)), [], .none⟩, ⟨(.some 11), .none, (.bin .eql (.tmp 10) (.const (jn 31))), [], .none⟩, ⟨(.some 12), .none, (.mov (.tmp 11)), [], .none⟩, ⟨(.some 13), (.some (12, .true)), (.mov (.tmp 0)), [], .none⟩, ⟨(.some 14), (.some (12, .true)), (.mov (.tmp 3)), [], .none⟩, ⟨(.some 15), (.some (12, .true)), (.iaddrS 1 (.tmp 13) (.tmp 14)), [], .none⟩, ⟨(.some 16), (.some (12, .true)), (.load .false 1 (.tmp 15)), [], .none⟩, ⟨(.some 17), (.some (12, .true)), (.bin .gtr (.tmp 16) (.const (un 127))), [], .none⟩, ⟨(.some 18), .none, (.pick (.tmp 12) (.tmp 17) (.const (.bool .false))), [], .none⟩, ⟨(.some 19), .none, (.mov (.tmp 18)), [], .none⟩, ⟨(.some 20), (.some (19, .false)), (.mov (.tmp 3)), [], .none⟩, ⟨(.some 21), (.some (19, .false)), (.bin .gtr (.tmp 20) (.const (jn 31))), [], .none⟩, ⟨(.some 22), (.some (19, .false)), (.mov (.tmp 21)), [], .none⟩, ⟨(.some 23), (.some (22, .true)), (.mov (.tmp 0)), [], .none⟩, ⟨(.some 24), (.some (22, .true)), (.mov (.tmp 3)), [], .none⟩, ⟨(.some 25), (.some (22, .true)), (.iaddrS 1 (.tmp 23) (.tmp 24)), [], .none⟩, ⟨(.some 26), (.some (22, .true)), (.load .false 1 (.tmp 25)), [], .none⟩, ⟨(.some 27), (.some (22, .true)), (.bin .gtr (.tmp 26) (.const (un 0))), [], .none⟩, ⟨(.some 28), (.some (19, .false)), (.pick (.tmp 22) (.tmp 27) (.const (.bool .false))), [], .none⟩, ⟨(.some 29), .none, (.pick (.tmp 19) (.const (.bool .true)) (.tmp 28)), [], .none⟩]) (.cond (.tmp 29) (.seq (.reg [⟨(.some 2), .none, (.mov (.const (.bool .true))), [], .none⟩]) .ret) .skip))) (.reg [⟨(.some 8), .none, (.mov (.tmp 3)), [], .none⟩, ⟨(.some 9), .none, (.bin .add (.tmp 8) (.const (jn 1))), [], .none⟩, ⟨(.some 3), .none, (.mov (.tmp 9)), [], .none⟩])))))) (.seq (.reg [⟨(.some 2), .none, (.mov (.const (.bool .false))), [], .none⟩]) .ret)))
def fc110 : FC := ⟨1, 30, [(.tmp 2)], fb110⟩
theorem fc110_eq : compF Go.Proofs.Try.prog 32 = some fc110 := by kernel_rfl

def nth (L : List Nat) (j : Nat) : Nat := L.getD j 0

/-- What digits of 8 bits come to. -/
def valL : List Nat → Nat
  | [] => 0
  | d :: l => d + 256 * valL l

theorem digit_val : ∀ (l : List Nat) (j : Nat), (∀ d ∈ l, d < 256) → valL l / 2 ^ (8 * j) % 256 = l.getD j 0
  | [], j, _ => by simp [valL]
  | d :: l, 0, h => by
    have := h d (by simp)
    simp [valL]; omega
  | d :: l, j + 1, h => by
    have hd := h d (by simp)
    have e : 2 ^ (8 * (j + 1)) = 256 * 2 ^ (8 * j) := by rw [Nat.mul_add, Nat.pow_add, Nat.mul_comm]
    have e2 : (d + 256 * valL l) / 256 = valL l := by omega
    rw [valL, e, ← Nat.div_div_eq_div_mul, e2, digit_val l j (fun x hx => h x (by simp [hx]))]
    simp

set_option maxHeartbeats 4000000 in
set_option maxRecDepth 20000 in
theorem key_call {P : Program} (h75 : compF P 21 = some fc75) (L : List Nat) (hL : ∀ d ∈ L, d < 256) (hn : L.length < 9223372036854775807) : PCall P 21 [.sl 1 (dl L)] (.val (keyAV (valL L))) := by
  have hk : keyAV (valL L) = .arr 1 (lst 32 fun j => .lit (bn (if j < min 32 L.length then nth L j else 0))) := by
    unfold keyAV
    congr 1
    unfold lst
    refine List.map_congr_left fun j hj => ?_
    have hj' : j < 32 := by simpa using hj
    rw [digit_val L j hL]; show AV.lit (bn (nth L j)) = _
    by_cases h : j < L.length
    · rw [if_pos (by omega)]
    · rw [if_neg (by omega)]; simp [nth, h]
  rw [hk]
  refine PCall.of h75 rfl ?_; show AC.wp _ fb75 (AS.init [.sl 1 (dl L)] 1 23) (fun x s => match x with | .exit _ => False | _ => Fin [(.cell 2 .true 32)] s _); unfold fb75 AS.init
  refine wp_sg (areg_al fun l1 => areg_nil ?_)
  refine wp_sg (areg_al' (z' := .arr 1 (lst 32 fun j => .lit (bn (if j < 0 then nth L j else 0)))) (by simp [lst]; rfl) fun l3 => areg_nil ?_)
  refine wp_seq' (wp_seq' (wp_r (by simp [runPre, AOp.ex, AOp.ex0, ex_mov, ex_bin, binA_lit, ex_cvt, ex_iaddrA, ex_iaddrS, ex_faddr, ex_load, ldA, ex_ext, ex_add64, add64A_un, ex_pick, ex_beq, ex_un, ex_len, lenA_sl, lenA_nil, lenA_str, lenA_own, lenRow_row, elA_own, elA_sl, elRow_row, ex_nilc, ex_build, ex_bslice, ex_fieldv, AOp.ro, AS.ev, AS.put, AS.fieldAddr, idxA_ptr, idxA_cptr, AS.peek, AS.poke, AS.blk, AS.setBlk, AV.nav, AV.upd, Blk.loc, Blk.cont, Blk.n, Blk.may, Blk.upd, AV.isAgg, AV.isTup, AV.sz, unVal, ownOk, fillAV, AV.sub, cvt_64j, cvt_64b, cvt_64w, cvt_8u, cvt_8w, bin_add64, bin_mul64, bin_sub64, bin_and51, bin_and32, bin_and1, bin_and8_1, bin_or64, bin_xor64, bin_or8, bin_shl64, bin_shl64j, bin_shr64, bin_shr64j, bin_shl8j, bin_shr8j, bin_quo64, bin_rem64, bin_quo32, bin_rem32, bin_addj, bin_subj, bin_quoj, bin_remj, bin_eqlj, bin_neqj, bin_lssj, bin_leqj, bin_gtrj, bin_geqj, bin_eql64, bin_lss64, bin_gtr64, bin_eql8, bin_rem8, -Nat.not_lt_zero]; exact rfl) (wp_block' (wp_loop_to (min 32 L.length) (fun i => ⟨0, [.sl 1 (dl L), .any, .ptr 2 l1 0 [], .ptr 3 l3 0 [], .lit (jn i)] ++ List.replicate 18 .any, [none, none, some (.box l1 32 (.arr 1 (List.replicate 32 (.lit (bn 0))))), some (.box l3 32 (.arr 1 (lst 32 fun j => .lit (bn (if j < i then nth L j else 0)))))] ++ List.replicate 19 none⟩) ?_ ?_ ?_))))
  · exact Le.mk rfl (by simp [leT]) (by simp [leH])
  · intro i hi
    have q1 : i < 32 := by omega
    have q2 : i < L.length := by omega
    have q4 : i + 1 < 9223372036854775808 := by omega
    have hnth : nth L i = L[i] := by simp [nth, q2]
    have g1 : (dl L)[i]? = some (.lit (un (nth L i))) := by rw [dl_get, hnth]; simp [q2]
    have g4 : ∀ h, (dl L)[i]'h = .lit (un (nth L i)) := fun h => by rw [List.getElem?_eq_getElem h] at g1; exact Option.some.inj g1
    have hlt : nth L i < 256 := by rw [hnth]; exact hL _ (List.getElem_mem q2)
    have c : nth L i % 256 = nth L i := Nat.mod_eq_of_lt hlt
    have gs : (lst 32 fun j => AV.lit (bn (if j < i then nth L j else 0))).set i (.lit (bn (nth L i))) = lst 32 fun j => AV.lit (bn (if j < i + 1 then nth L j else 0)) := by
      refine lst_set (by simp) fun k hk hne => ?_
      by_cases h : k < i
      · rw [if_pos h, if_pos (by omega)]
      · rw [if_neg h, if_neg (by omega)]
    have gd : (dl L).length = L.length := dl_len L
    refine wp_seq' (wp_sr (by simp [runPre, AOp.ex, AOp.ex0, ex_mov, ex_bin, binA_lit, ex_cvt, ex_iaddrA, ex_iaddrS, ex_faddr, ex_load, ldA, ex_ext, ex_add64, add64A_un, ex_pick, ex_beq, ex_un, ex_len, lenA_sl, lenA_nil, lenA_str, lenA_own, lenRow_row, elA_own, elA_sl, elRow_row, ex_nilc, ex_build, ex_bslice, ex_fieldv, AOp.ro, AS.ev, AS.put, AS.fieldAddr, idxA_ptr, idxA_cptr, AS.peek, AS.poke, AS.blk, AS.setBlk, AV.nav, AV.upd, Blk.loc, Blk.cont, Blk.n, Blk.may, Blk.upd, AV.isAgg, AV.isTup, AV.sz, unVal, ownOk, fillAV, AV.sub, cvt_64j, cvt_64b, cvt_64w, cvt_8u, cvt_8w, bin_add64, bin_mul64, bin_sub64, bin_and51, bin_and32, bin_and1, bin_and8_1, bin_or64, bin_xor64, bin_or8, bin_shl64, bin_shl64j, bin_shr64, bin_shr64j, bin_shl8j, bin_shr8j, bin_quo64, bin_rem64, bin_quo32, bin_rem32, bin_addj, bin_subj, bin_quoj, bin_remj, bin_eqlj, bin_neqj, bin_lssj, bin_leqj, bin_gtrj, bin_geqj, bin_eql64, bin_lss64, bin_gtr64, bin_eql8, bin_rem8, q1, q2, gd]; exact rfl) (wp_cond_t (by simp [AS.ev]) (wp_skip' ?_)))
    refine wp_seq' (wp_block' (wp_r (by simp [runPre, AOp.ex, AOp.ex0, ex_mov, ex_bin, binA_lit, ex_cvt, ex_iaddrA, ex_iaddrS, ex_faddr, ex_load, ldA, ex_ext, ex_add64, add64A_un, ex_pick, ex_beq, ex_un, ex_len, lenA_sl, lenA_nil, lenA_str, lenA_own, lenRow_row, elA_own, elA_sl, elRow_row, ex_nilc, ex_build, ex_bslice, ex_fieldv, AOp.ro, AS.ev, AS.put, AS.fieldAddr, idxA_ptr, idxA_cptr, AS.peek, AS.poke, AS.blk, AS.setBlk, AV.nav, AV.upd, Blk.loc, Blk.cont, Blk.n, Blk.may, Blk.upd, AV.isAgg, AV.isTup, AV.sz, unVal, ownOk, fillAV, AV.sub, cvt_64j, cvt_64b, cvt_64w, cvt_8u, cvt_8w, bin_add64, bin_mul64, bin_sub64, bin_and51, bin_and32, bin_and1, bin_and8_1, bin_or64, bin_xor64, bin_or8, bin_shl64, bin_shl64j, bin_shr64, bin_shr64j, bin_shl8j, bin_shr8j, bin_quo64, bin_rem64, bin_quo32, bin_rem32, bin_addj, bin_subj, bin_quoj, bin_remj, bin_eqlj, bin_neqj, bin_lssj, bin_leqj, bin_gtrj, bin_geqj, bin_eql64, bin_lss64, bin_gtr64, bin_eql8, bin_rem8, q1, g1, g4, c, gs, lst_get, lst_getD, gd, q2]; exact rfl) ?_))
    refine wp_r (by simp [runPre, AOp.ex, AOp.ex0, ex_mov, ex_bin, binA_lit, ex_cvt, ex_iaddrA, ex_iaddrS, ex_faddr, ex_load, ldA, ex_ext, ex_add64, add64A_un, ex_pick, ex_beq, ex_un, ex_len, lenA_sl, lenA_nil, lenA_str, lenA_own, lenRow_row, elA_own, elA_sl, elRow_row, ex_nilc, ex_build, ex_bslice, ex_fieldv, AOp.ro, AS.ev, AS.put, AS.fieldAddr, idxA_ptr, idxA_cptr, AS.peek, AS.poke, AS.blk, AS.setBlk, AV.nav, AV.upd, Blk.loc, Blk.cont, Blk.n, Blk.may, Blk.upd, AV.isAgg, AV.isTup, AV.sz, unVal, ownOk, fillAV, AV.sub, cvt_64j, cvt_64b, cvt_64w, cvt_8u, cvt_8w, bin_add64, bin_mul64, bin_sub64, bin_and51, bin_and32, bin_and1, bin_and8_1, bin_or64, bin_xor64, bin_or8, bin_shl64, bin_shl64j, bin_shr64, bin_shr64j, bin_shl8j, bin_shr8j, bin_quo64, bin_rem64, bin_quo32, bin_rem32, bin_addj, bin_subj, bin_quoj, bin_remj, bin_eqlj, bin_neqj, bin_lssj, bin_leqj, bin_gtrj, bin_geqj, bin_eql64, bin_lss64, bin_gtr64, bin_eql8, bin_rem8, q4]; exact rfl) ?_
    exact Le.mk rfl (by simp [leT]) (by simp [leH, gs])
  · have gd : (dl L).length = L.length := dl_len L
    refine wp_seq' ?_
    by_cases h : L.length < 32
    · have q : min 32 L.length = L.length := by omega
      rw [q]
      refine wp_sr (by simp [runPre, AOp.ex, AOp.ex0, ex_mov, ex_bin, binA_lit, ex_cvt, ex_iaddrA, ex_iaddrS, ex_faddr, ex_load, ldA, ex_ext, ex_add64, add64A_un, ex_pick, ex_beq, ex_un, ex_len, lenA_sl, lenA_nil, lenA_str, lenA_own, lenRow_row, elA_own, elA_sl, elRow_row, ex_nilc, ex_build, ex_bslice, ex_fieldv, AOp.ro, AS.ev, AS.put, AS.fieldAddr, idxA_ptr, idxA_cptr, AS.peek, AS.poke, AS.blk, AS.setBlk, AV.nav, AV.upd, Blk.loc, Blk.cont, Blk.n, Blk.may, Blk.upd, AV.isAgg, AV.isTup, AV.sz, unVal, ownOk, fillAV, AV.sub, cvt_64j, cvt_64b, cvt_64w, cvt_8u, cvt_8w, bin_add64, bin_mul64, bin_sub64, bin_and51, bin_and32, bin_and1, bin_and8_1, bin_or64, bin_xor64, bin_or8, bin_shl64, bin_shl64j, bin_shr64, bin_shr64j, bin_shl8j, bin_shr8j, bin_quo64, bin_rem64, bin_quo32, bin_rem32, bin_addj, bin_subj, bin_quoj, bin_remj, bin_eqlj, bin_neqj, bin_lssj, bin_leqj, bin_gtrj, bin_geqj, bin_eql64, bin_lss64, bin_gtr64, bin_eql8, bin_rem8, h, gd]; exact rfl) (wp_cond_f (by simp [AS.ev]) (wp_exit' (if_hit rfl ?_)))
      repeat (first | (with_reducible apply wp_sr); focus (simp [runPre, AOp.ex, AOp.ex0, ex_mov, ex_bin, binA_lit, ex_cvt, ex_iaddrA, ex_iaddrS, ex_faddr, ex_load, ldA, ex_ext, ex_add64, add64A_un, ex_pick, ex_beq, ex_un, ex_len, lenA_sl, lenA_nil, lenA_str, lenA_own, lenRow_row, elA_own, elA_sl, elRow_row, ex_nilc, ex_build, ex_bslice, ex_fieldv, AOp.ro, AS.ev, AS.put, AS.fieldAddr, idxA_ptr, idxA_cptr, AS.peek, AS.poke, AS.blk, AS.setBlk, AV.nav, AV.upd, Blk.loc, Blk.cont, Blk.n, Blk.may, Blk.upd, AV.isAgg, AV.isTup, AV.sz, unVal, ownOk, fillAV, AV.sub, cvt_64j, cvt_64b, cvt_64w, cvt_8u, cvt_8w, bin_add64, bin_mul64, bin_sub64, bin_and51, bin_and32, bin_and1, bin_and8_1, bin_or64, bin_xor64, bin_or8, bin_shl64, bin_shl64j, bin_shr64, bin_shr64j, bin_shl8j, bin_shr8j, bin_quo64, bin_rem64, bin_quo32, bin_rem32, bin_addj, bin_subj, bin_quoj, bin_remj, bin_eqlj, bin_neqj, bin_lssj, bin_leqj, bin_gtrj, bin_geqj, bin_eql64, bin_lss64, bin_gtr64, bin_eql8, bin_rem8, lst_len]; exact rfl) | (with_reducible apply wp_r); focus (simp [runPre, AOp.ex, AOp.ex0, ex_mov, ex_bin, binA_lit, ex_cvt, ex_iaddrA, ex_iaddrS, ex_faddr, ex_load, ldA, ex_ext, ex_add64, add64A_un, ex_pick, ex_beq, ex_un, ex_len, lenA_sl, lenA_nil, lenA_str, lenA_own, lenRow_row, elA_own, elA_sl, elRow_row, ex_nilc, ex_build, ex_bslice, ex_fieldv, AOp.ro, AS.ev, AS.put, AS.fieldAddr, idxA_ptr, idxA_cptr, AS.peek, AS.poke, AS.blk, AS.setBlk, AV.nav, AV.upd, Blk.loc, Blk.cont, Blk.n, Blk.may, Blk.upd, AV.isAgg, AV.isTup, AV.sz, unVal, ownOk, fillAV, AV.sub, cvt_64j, cvt_64b, cvt_64w, cvt_8u, cvt_8w, bin_add64, bin_mul64, bin_sub64, bin_and51, bin_and32, bin_and1, bin_and8_1, bin_or64, bin_xor64, bin_or8, bin_shl64, bin_shl64j, bin_shr64, bin_shr64j, bin_shl8j, bin_shr8j, bin_quo64, bin_rem64, bin_quo32, bin_rem32, bin_addj, bin_subj, bin_quoj, bin_remj, bin_eqlj, bin_neqj, bin_lssj, bin_leqj, bin_gtrj, bin_geqj, bin_eql64, bin_lss64, bin_gtr64, bin_eql8, bin_rem8, lst_len]; exact rfl) | (with_reducible refine wp_seq' (wp_cond_t ?_ ?_)); focus (simp [AS.ev]; done) | (with_reducible refine wp_seq' (wp_cond_f ?_ ?_)); focus (simp [AS.ev]; done) | (with_reducible refine wp_cond_t ?_ ?_); focus (simp [AS.ev]; done) | (with_reducible refine wp_cond_f ?_ ?_); focus (simp [AS.ev]; done) | with_reducible refine wp_seq' ?_ | with_reducible refine wp_block' ?_ | with_reducible refine wp_skip' ?_ | with_reducible refine wp_exit' ?_ | with_reducible refine wp_ret' ?_ | with_reducible refine if_hit rfl ?_ | with_reducible refine loopN_succ ?_)
      refine fin_cell (by simp [RVal, AS.coe, tt, AS.ev, AS.peek, AS.blk, Blk.loc, Blk.cont, Blk.n, AV.nav, AV.isAgg, AV.isTup]) (by simp)
    · have q : min 32 L.length = 32 := by omega
      rw [q]
      refine wp_sr (by simp [runPre, AOp.ex, AOp.ex0, ex_mov, ex_bin, binA_lit, ex_cvt, ex_iaddrA, ex_iaddrS, ex_faddr, ex_load, ldA, ex_ext, ex_add64, add64A_un, ex_pick, ex_beq, ex_un, ex_len, lenA_sl, lenA_nil, lenA_str, lenA_own, lenRow_row, elA_own, elA_sl, elRow_row, ex_nilc, ex_build, ex_bslice, ex_fieldv, AOp.ro, AS.ev, AS.put, AS.fieldAddr, idxA_ptr, idxA_cptr, AS.peek, AS.poke, AS.blk, AS.setBlk, AV.nav, AV.upd, Blk.loc, Blk.cont, Blk.n, Blk.may, Blk.upd, AV.isAgg, AV.isTup, AV.sz, unVal, ownOk, fillAV, AV.sub, cvt_64j, cvt_64b, cvt_64w, cvt_8u, cvt_8w, bin_add64, bin_mul64, bin_sub64, bin_and51, bin_and32, bin_and1, bin_and8_1, bin_or64, bin_xor64, bin_or8, bin_shl64, bin_shl64j, bin_shr64, bin_shr64j, bin_shl8j, bin_shr8j, bin_quo64, bin_rem64, bin_quo32, bin_rem32, bin_addj, bin_subj, bin_quoj, bin_remj, bin_eqlj, bin_neqj, bin_lssj, bin_leqj, bin_gtrj, bin_geqj, bin_eql64, bin_lss64, bin_gtr64, bin_eql8, bin_rem8, h, gd]; exact rfl) (wp_cond_f (by simp [AS.ev]) (wp_exit' (if_hit rfl ?_)))
      repeat (first | (with_reducible apply wp_sr); focus (simp [runPre, AOp.ex, AOp.ex0, ex_mov, ex_bin, binA_lit, ex_cvt, ex_iaddrA, ex_iaddrS, ex_faddr, ex_load, ldA, ex_ext, ex_add64, add64A_un, ex_pick, ex_beq, ex_un, ex_len, lenA_sl, lenA_nil, lenA_str, lenA_own, lenRow_row, elA_own, elA_sl, elRow_row, ex_nilc, ex_build, ex_bslice, ex_fieldv, AOp.ro, AS.ev, AS.put, AS.fieldAddr, idxA_ptr, idxA_cptr, AS.peek, AS.poke, AS.blk, AS.setBlk, AV.nav, AV.upd, Blk.loc, Blk.cont, Blk.n, Blk.may, Blk.upd, AV.isAgg, AV.isTup, AV.sz, unVal, ownOk, fillAV, AV.sub, cvt_64j, cvt_64b, cvt_64w, cvt_8u, cvt_8w, bin_add64, bin_mul64, bin_sub64, bin_and51, bin_and32, bin_and1, bin_and8_1, bin_or64, bin_xor64, bin_or8, bin_shl64, bin_shl64j, bin_shr64, bin_shr64j, bin_shl8j, bin_shr8j, bin_quo64, bin_rem64, bin_quo32, bin_rem32, bin_addj, bin_subj, bin_quoj, bin_remj, bin_eqlj, bin_neqj, bin_lssj, bin_leqj, bin_gtrj, bin_geqj, bin_eql64, bin_lss64, bin_gtr64, bin_eql8, bin_rem8, lst_len]; exact rfl) | (with_reducible apply wp_r); focus (simp [runPre, AOp.ex, AOp.ex0, ex_mov, ex_bin, binA_lit, ex_cvt, ex_iaddrA, ex_iaddrS, ex_faddr, ex_load, ldA, ex_ext, ex_add64, add64A_un, ex_pick, ex_beq, ex_un, ex_len, lenA_sl, lenA_nil, lenA_str, lenA_own, lenRow_row, elA_own, elA_sl, elRow_row, ex_nilc, ex_build, ex_bslice, ex_fieldv, AOp.ro, AS.ev, AS.put, AS.fieldAddr, idxA_ptr, idxA_cptr, AS.peek, AS.poke, AS.blk, AS.setBlk, AV.nav, AV.upd, Blk.loc, Blk.cont, Blk.n, Blk.may, Blk.upd, AV.isAgg, AV.isTup, AV.sz, unVal, ownOk, fillAV, AV.sub, cvt_64j, cvt_64b, cvt_64w, cvt_8u, cvt_8w, bin_add64, bin_mul64, bin_sub64, bin_and51, bin_and32, bin_and1, bin_and8_1, bin_or64, bin_xor64, bin_or8, bin_shl64, bin_shl64j, bin_shr64, bin_shr64j, bin_shl8j, bin_shr8j, bin_quo64, bin_rem64, bin_quo32, bin_rem32, bin_addj, bin_subj, bin_quoj, bin_remj, bin_eqlj, bin_neqj, bin_lssj, bin_leqj, bin_gtrj, bin_geqj, bin_eql64, bin_lss64, bin_gtr64, bin_eql8, bin_rem8, lst_len]; exact rfl) | (with_reducible refine wp_seq' (wp_cond_t ?_ ?_)); focus (simp [AS.ev]; done) | (with_reducible refine wp_seq' (wp_cond_f ?_ ?_)); focus (simp [AS.ev]; done) | (with_reducible refine wp_cond_t ?_ ?_); focus (simp [AS.ev]; done) | (with_reducible refine wp_cond_f ?_ ?_); focus (simp [AS.ev]; done) | with_reducible refine wp_seq' ?_ | with_reducible refine wp_block' ?_ | with_reducible refine wp_skip' ?_ | with_reducible refine wp_exit' ?_ | with_reducible refine wp_ret' ?_ | with_reducible refine if_hit rfl ?_ | with_reducible refine loopN_succ ?_)
      refine fin_cell (by simp [RVal, AS.coe, tt, AS.ev, AS.peek, AS.blk, Blk.loc, Blk.cont, Blk.n, AV.nav, AV.isAgg, AV.isTup]) (by simp)
end Go.Cab

/- References: is anything high. -/
namespace Go.Cab

def hit (L : List Nat) (i : Nat) : Prop := (i = 31 ∧ 127 < nth L i) ∨ (31 < i ∧ 0 < nth L i)

theorem valL_pos : ∀ (l : List Nat), (0 < valL l ↔ ∃ i, i < l.length ∧ 0 < nth l i)
  | [] => by simp [valL]
  | d :: l => by
    have ih := valL_pos l
    simp only [valL]
    constructor
    · intro h
      by_cases hd : 0 < d
      · exact ⟨0, by simp, by simpa [nth] using hd⟩
      · obtain ⟨i, hi, hp⟩ := ih.1 (by omega)
        exact ⟨i + 1, by simpa using hi, by simpa [nth] using hp⟩
    · rintro ⟨i, hi, hp⟩
      cases i with
      | zero => have : 0 < d := by simpa [nth] using hp
                omega
      | succ i => have := ih.2 ⟨i, by simpa using hi, by simpa [nth] using hp⟩
                  omega

theorem valL_split : ∀ (k : Nat) (l : List Nat), valL l = valL (l.take k) + 256 ^ k * valL (l.drop k)
  | 0, l => by simp [valL]
  | k + 1, [] => by simp [valL]
  | k + 1, d :: l => by
    have ih := valL_split k l
    simp only [List.take_succ_cons, List.drop_succ_cons, valL]
    rw [ih, Nat.pow_succ, Nat.mul_add, Nat.mul_comm (256 ^ k) 256, Nat.mul_assoc, Nat.add_assoc]

theorem valL_lt : ∀ (l : List Nat), (∀ d ∈ l, d < 256) → valL l < 256 ^ l.length
  | [], _ => by simp [valL]
  | d :: l, h => by
    have ih := valL_lt l (fun x hx => h x (by simp [hx]))
    have hd := h d (by simp)
    simp only [valL, List.length_cons, Nat.pow_succ]
    omega

theorem high_val {L : List Nat} (hL : ∀ d ∈ L, d < 256) : 2 ^ 255 ≤ valL L ↔ ∃ i, 31 ≤ i ∧ i < L.length ∧ hit L i := by
  have hs := valL_split 31 L
  have h1 : valL (L.take 31) < 256 ^ 31 := Nat.lt_of_lt_of_le (valL_lt _ (fun d hd => hL d (List.mem_of_mem_take hd))) (Nat.pow_le_pow_right (by decide) (by simp; omega))
  have e1 : (2 : Nat) ^ 255 = 256 ^ 31 * 128 := by decide
  have key : 2 ^ 255 ≤ valL L ↔ 128 ≤ valL (L.drop 31) := by
    rw [hs, e1]
    constructor
    · intro h
      apply Nat.le_of_lt_succ
      have h3 : 256 ^ 31 * 128 < 256 ^ 31 * (valL (L.drop 31) + 1) := by rw [Nat.mul_add]; omega
      exact Nat.lt_of_mul_lt_mul_left h3
    · intro h
      exact Nat.le_trans (Nat.mul_le_mul_left _ h) (Nat.le_add_left _ _)
  rw [key]
  have hn : ∀ i, nth (L.drop 31) i = nth L (31 + i) := fun i => by simp [nth]
  cases hd : L.drop 31 with
  | nil =>
    have hl : L.length ≤ 31 := by have := congrArg List.length hd; simp at this; omega
    simp only [valL]
    constructor
    · intro h; omega
    · rintro ⟨i, h1, h2, _⟩; omega
  | cons d l =>
    have hlen : L.length = 31 + (l.length + 1) := by have := congrArg List.length hd; simp at this; omega
    have h31 : nth L 31 = d := by have := hn 0; rw [hd] at this; simpa [nth] using this.symm
    have hk : ∀ i, nth L (32 + i) = nth l i := fun i => by
      have := hn (i + 1)
      rw [hd] at this
      rw [show 32 + i = 31 + (i + 1) by omega, ← this]
      simp [nth]
    simp only [valL]
    have hp := valL_pos l
    constructor
    · intro h
      by_cases hd1 : 127 < d
      · exact ⟨31, by omega, by omega, .inl ⟨rfl, by omega⟩⟩
      · obtain ⟨i, hi, hv⟩ := hp.1 (by omega)
        exact ⟨32 + i, by omega, by omega, .inr ⟨by omega, by rw [hk]; exact hv⟩⟩
    · rintro ⟨i, h1, h2, h3⟩
      rcases h3 with ⟨rfl, h3⟩ | ⟨h3, h4⟩
      · omega
      · have : 0 < valL l := hp.2 ⟨i - 32, by omega, by rw [← hk, show 32 + (i - 32) = i by omega]; exact h4⟩
        omega

set_option maxHeartbeats 4000000 in
set_option maxRecDepth 20000 in
theorem high_call {P : Program} (h110 : compF P 32 = some fc110) (L : List Nat) (hL : ∀ d ∈ L, d < 256) (hn : L.length < 9223372036854775807) : PCall P 32 [.sl 1 (dl L)] (.val (.lit (.bool (decide (2 ^ 255 ≤ valL L))))) := by
  have hv := high_val hL
  have gd : (dl L).length = L.length := dl_len L
  refine PCall.of h110 rfl ?_; show AC.wp _ fb110 (AS.init [.sl 1 (dl L)] 1 30) (fun x s => match x with | .exit _ => False | _ => Fin [(.tmp 2)] s _); unfold fb110 AS.init
  refine wp_sr (by simp [runPre, AOp.ex, AOp.ex0, ex_mov, ex_bin, binA_lit, ex_cvt, ex_iaddrA, ex_iaddrS, ex_faddr, ex_load, ldA, ex_ext, ex_add64, add64A_un, ex_pick, ex_beq, ex_un, ex_len, lenA_sl, lenA_nil, lenA_str, lenA_own, lenRow_row, elA_own, elA_sl, elRow_row, ex_nilc, ex_build, ex_bslice, ex_fieldv, AOp.ro, AS.ev, AS.put, AS.fieldAddr, idxA_ptr, idxA_cptr, AS.peek, AS.poke, AS.blk, AS.setBlk, AV.nav, AV.upd, Blk.loc, Blk.cont, Blk.n, Blk.may, Blk.upd, AV.isAgg, AV.isTup, AV.sz, unVal, ownOk, fillAV, AV.sub, cvt_64j, cvt_64b, cvt_64w, cvt_8u, cvt_8w, bin_add64, bin_mul64, bin_sub64, bin_and51, bin_and32, bin_and1, bin_and8_1, bin_or64, bin_xor64, bin_or8, bin_shl64, bin_shl64j, bin_shr64, bin_shr64j, bin_shl8j, bin_shr8j, bin_quo64, bin_rem64, bin_quo32, bin_rem32, bin_addj, bin_subj, bin_quoj, bin_remj, bin_eqlj, bin_neqj, bin_lssj, bin_leqj, bin_gtrj, bin_geqj, bin_eql64, bin_lss64, bin_gtr64, bin_eql8, bin_rem8]; exact rfl) ?_
  refine wp_seq' (wp_seq' (wp_r (by simp [runPre, AOp.ex, AOp.ex0, ex_mov, ex_bin, binA_lit, ex_cvt, ex_iaddrA, ex_iaddrS, ex_faddr, ex_load, ldA, ex_ext, ex_add64, add64A_un, ex_pick, ex_beq, ex_un, ex_len, lenA_sl, lenA_nil, lenA_str, lenA_own, lenRow_row, elA_own, elA_sl, elRow_row, ex_nilc, ex_build, ex_bslice, ex_fieldv, AOp.ro, AS.ev, AS.put, AS.fieldAddr, idxA_ptr, idxA_cptr, AS.peek, AS.poke, AS.blk, AS.setBlk, AV.nav, AV.upd, Blk.loc, Blk.cont, Blk.n, Blk.may, Blk.upd, AV.isAgg, AV.isTup, AV.sz, unVal, ownOk, fillAV, AV.sub, cvt_64j, cvt_64b, cvt_64w, cvt_8u, cvt_8w, bin_add64, bin_mul64, bin_sub64, bin_and51, bin_and32, bin_and1, bin_and8_1, bin_or64, bin_xor64, bin_or8, bin_shl64, bin_shl64j, bin_shr64, bin_shr64j, bin_shl8j, bin_shr8j, bin_quo64, bin_rem64, bin_quo32, bin_rem32, bin_addj, bin_subj, bin_quoj, bin_remj, bin_eqlj, bin_neqj, bin_lssj, bin_leqj, bin_gtrj, bin_geqj, bin_eql64, bin_lss64, bin_gtr64, bin_eql8, bin_rem8]; exact rfl) (wp_block' (wp_loop_ret (L.length - 31) (fun j => ⟨0, [.sl 1 (dl L), .any, .lit (.bool false), .lit (jn (31 + j))] ++ List.replicate 26 .any, List.replicate 30 none⟩) (fun j => ∀ k, 31 ≤ k → k < 31 + j → ¬ hit L k) ?_ ?_ ?_))))
  · exact Le.mk rfl (by simp [leT]) (by simp [leH])
  · intro k h1 h2; omega
  · intro j hj hinv
    by_cases hlen : 31 + j < L.length
    · have g1 : (dl L)[31 + j]? = some (.lit (un (nth L (31 + j)))) := by rw [dl_get]; simp [nth, hlen]
      have g4 : ∀ h, (dl L)[31 + j]'h = .lit (un (nth L (31 + j))) := fun h => by rw [List.getElem?_eq_getElem h] at g1; exact Option.some.inj g1
      have q4 : 31 + j + 1 < 9223372036854775808 := by omega
      refine wp_seq' (wp_seq' (wp_r (by simp [runPre, AOp.ex, AOp.ex0, ex_mov, ex_bin, binA_lit, ex_cvt, ex_iaddrA, ex_iaddrS, ex_faddr, ex_load, ldA, ex_ext, ex_add64, add64A_un, ex_pick, ex_beq, ex_un, ex_len, lenA_sl, lenA_nil, lenA_str, lenA_own, lenRow_row, elA_own, elA_sl, elRow_row, ex_nilc, ex_build, ex_bslice, ex_fieldv, AOp.ro, AS.ev, AS.put, AS.fieldAddr, idxA_ptr, idxA_cptr, AS.peek, AS.poke, AS.blk, AS.setBlk, AV.nav, AV.upd, Blk.loc, Blk.cont, Blk.n, Blk.may, Blk.upd, AV.isAgg, AV.isTup, AV.sz, unVal, ownOk, fillAV, AV.sub, cvt_64j, cvt_64b, cvt_64w, cvt_8u, cvt_8w, bin_add64, bin_mul64, bin_sub64, bin_and51, bin_and32, bin_and1, bin_and8_1, bin_or64, bin_xor64, bin_or8, bin_shl64, bin_shl64j, bin_shr64, bin_shr64j, bin_shl8j, bin_shr8j, bin_quo64, bin_rem64, bin_quo32, bin_rem32, bin_addj, bin_subj, bin_quoj, bin_remj, bin_eqlj, bin_neqj, bin_lssj, bin_leqj, bin_gtrj, bin_geqj, bin_eql64, bin_lss64, bin_gtr64, bin_eql8, bin_rem8, gd, hlen]; exact rfl) (wp_cond_t (by simp [AS.ev]) (wp_skip' ?_))))
      refine wp_seq' (wp_block' ?_)
      by_cases hh : hit L (31 + j)
      · have hr : decide (2 ^ 255 ≤ valL L) = true := decide_eq_true (hv.2 ⟨31 + j, by omega, hlen, hh⟩)
        rw [hr]
        rcases hh with ⟨he, hp⟩ | ⟨he, hp⟩
        · have hj0 : j = 0 := by omega
          subst hj0
          simp only [Nat.add_zero] at g1 g4 hp hlen
          refine wp_sr (by simp [runPre, AOp.ex, AOp.ex0, ex_mov, ex_bin, binA_lit, ex_cvt, ex_iaddrA, ex_iaddrS, ex_faddr, ex_load, ldA, ex_ext, ex_add64, add64A_un, ex_pick, ex_beq, ex_un, ex_len, lenA_sl, lenA_nil, lenA_str, lenA_own, lenRow_row, elA_own, elA_sl, elRow_row, ex_nilc, ex_build, ex_bslice, ex_fieldv, AOp.ro, AS.ev, AS.put, AS.fieldAddr, idxA_ptr, idxA_cptr, AS.peek, AS.poke, AS.blk, AS.setBlk, AV.nav, AV.upd, Blk.loc, Blk.cont, Blk.n, Blk.may, Blk.upd, AV.isAgg, AV.isTup, AV.sz, unVal, ownOk, fillAV, AV.sub, cvt_64j, cvt_64b, cvt_64w, cvt_8u, cvt_8w, bin_add64, bin_mul64, bin_sub64, bin_and51, bin_and32, bin_and1, bin_and8_1, bin_or64, bin_xor64, bin_or8, bin_shl64, bin_shl64j, bin_shr64, bin_shr64j, bin_shl8j, bin_shr8j, bin_quo64, bin_rem64, bin_quo32, bin_rem32, bin_addj, bin_subj, bin_quoj, bin_remj, bin_eqlj, bin_neqj, bin_lssj, bin_leqj, bin_gtrj, bin_geqj, bin_eql64, bin_lss64, bin_gtr64, bin_eql8, bin_rem8, gd, hlen, g1, g4, hp]; exact rfl) (wp_cond_t (by simp [AS.ev]) ?_)
          repeat (first | (with_reducible apply wp_sr); focus (simp [runPre, AOp.ex, AOp.ex0, ex_mov, ex_bin, binA_lit, ex_cvt, ex_iaddrA, ex_iaddrS, ex_faddr, ex_load, ldA, ex_ext, ex_add64, add64A_un, ex_pick, ex_beq, ex_un, ex_len, lenA_sl, lenA_nil, lenA_str, lenA_own, lenRow_row, elA_own, elA_sl, elRow_row, ex_nilc, ex_build, ex_bslice, ex_fieldv, AOp.ro, AS.ev, AS.put, AS.fieldAddr, idxA_ptr, idxA_cptr, AS.peek, AS.poke, AS.blk, AS.setBlk, AV.nav, AV.upd, Blk.loc, Blk.cont, Blk.n, Blk.may, Blk.upd, AV.isAgg, AV.isTup, AV.sz, unVal, ownOk, fillAV, AV.sub, cvt_64j, cvt_64b, cvt_64w, cvt_8u, cvt_8w, bin_add64, bin_mul64, bin_sub64, bin_and51, bin_and32, bin_and1, bin_and8_1, bin_or64, bin_xor64, bin_or8, bin_shl64, bin_shl64j, bin_shr64, bin_shr64j, bin_shl8j, bin_shr8j, bin_quo64, bin_rem64, bin_quo32, bin_rem32, bin_addj, bin_subj, bin_quoj, bin_remj, bin_eqlj, bin_neqj, bin_lssj, bin_leqj, bin_gtrj, bin_geqj, bin_eql64, bin_lss64, bin_gtr64, bin_eql8, bin_rem8]; exact rfl) | (with_reducible apply wp_r); focus (simp [runPre, AOp.ex, AOp.ex0, ex_mov, ex_bin, binA_lit, ex_cvt, ex_iaddrA, ex_iaddrS, ex_faddr, ex_load, ldA, ex_ext, ex_add64, add64A_un, ex_pick, ex_beq, ex_un, ex_len, lenA_sl, lenA_nil, lenA_str, lenA_own, lenRow_row, elA_own, elA_sl, elRow_row, ex_nilc, ex_build, ex_bslice, ex_fieldv, AOp.ro, AS.ev, AS.put, AS.fieldAddr, idxA_ptr, idxA_cptr, AS.peek, AS.poke, AS.blk, AS.setBlk, AV.nav, AV.upd, Blk.loc, Blk.cont, Blk.n, Blk.may, Blk.upd, AV.isAgg, AV.isTup, AV.sz, unVal, ownOk, fillAV, AV.sub, cvt_64j, cvt_64b, cvt_64w, cvt_8u, cvt_8w, bin_add64, bin_mul64, bin_sub64, bin_and51, bin_and32, bin_and1, bin_and8_1, bin_or64, bin_xor64, bin_or8, bin_shl64, bin_shl64j, bin_shr64, bin_shr64j, bin_shl8j, bin_shr8j, bin_quo64, bin_rem64, bin_quo32, bin_rem32, bin_addj, bin_subj, bin_quoj, bin_remj, bin_eqlj, bin_neqj, bin_lssj, bin_leqj, bin_gtrj, bin_geqj, bin_eql64, bin_lss64, bin_gtr64, bin_eql8, bin_rem8]; exact rfl) | (with_reducible refine wp_seq' (wp_cond_t ?_ ?_)); focus (simp [AS.ev]; done) | (with_reducible refine wp_seq' (wp_cond_f ?_ ?_)); focus (simp [AS.ev]; done) | (with_reducible refine wp_cond_t ?_ ?_); focus (simp [AS.ev]; done) | (with_reducible refine wp_cond_f ?_ ?_); focus (simp [AS.ev]; done) | with_reducible refine wp_seq' ?_ | with_reducible refine wp_block' ?_ | with_reducible refine wp_skip' ?_ | with_reducible refine wp_exit' ?_ | with_reducible refine wp_ret' ?_ | with_reducible refine if_hit rfl ?_ | with_reducible refine loopN_succ ?_)
          refine fin_tmp (by simp [RVal, AS.coe, tt, AS.ev]) (by simp)
        · have hj0 : ¬ j = 0 := by omega
          have hj1 : 0 < j := by omega
          refine wp_sr (by simp [runPre, AOp.ex, AOp.ex0, ex_mov, ex_bin, binA_lit, ex_cvt, ex_iaddrA, ex_iaddrS, ex_faddr, ex_load, ldA, ex_ext, ex_add64, add64A_un, ex_pick, ex_beq, ex_un, ex_len, lenA_sl, lenA_nil, lenA_str, lenA_own, lenRow_row, elA_own, elA_sl, elRow_row, ex_nilc, ex_build, ex_bslice, ex_fieldv, AOp.ro, AS.ev, AS.put, AS.fieldAddr, idxA_ptr, idxA_cptr, AS.peek, AS.poke, AS.blk, AS.setBlk, AV.nav, AV.upd, Blk.loc, Blk.cont, Blk.n, Blk.may, Blk.upd, AV.isAgg, AV.isTup, AV.sz, unVal, ownOk, fillAV, AV.sub, cvt_64j, cvt_64b, cvt_64w, cvt_8u, cvt_8w, bin_add64, bin_mul64, bin_sub64, bin_and51, bin_and32, bin_and1, bin_and8_1, bin_or64, bin_xor64, bin_or8, bin_shl64, bin_shl64j, bin_shr64, bin_shr64j, bin_shl8j, bin_shr8j, bin_quo64, bin_rem64, bin_quo32, bin_rem32, bin_addj, bin_subj, bin_quoj, bin_remj, bin_eqlj, bin_neqj, bin_lssj, bin_leqj, bin_gtrj, bin_geqj, bin_eql64, bin_lss64, bin_gtr64, bin_eql8, bin_rem8, gd, hlen, g1, g4, hp, hj0, hj1]; exact rfl) (wp_cond_t (by simp [AS.ev]) ?_)
          repeat (first | (with_reducible apply wp_sr); focus (simp [runPre, AOp.ex, AOp.ex0, ex_mov, ex_bin, binA_lit, ex_cvt, ex_iaddrA, ex_iaddrS, ex_faddr, ex_load, ldA, ex_ext, ex_add64, add64A_un, ex_pick, ex_beq, ex_un, ex_len, lenA_sl, lenA_nil, lenA_str, lenA_own, lenRow_row, elA_own, elA_sl, elRow_row, ex_nilc, ex_build, ex_bslice, ex_fieldv, AOp.ro, AS.ev, AS.put, AS.fieldAddr, idxA_ptr, idxA_cptr, AS.peek, AS.poke, AS.blk, AS.setBlk, AV.nav, AV.upd, Blk.loc, Blk.cont, Blk.n, Blk.may, Blk.upd, AV.isAgg, AV.isTup, AV.sz, unVal, ownOk, fillAV, AV.sub, cvt_64j, cvt_64b, cvt_64w, cvt_8u, cvt_8w, bin_add64, bin_mul64, bin_sub64, bin_and51, bin_and32, bin_and1, bin_and8_1, bin_or64, bin_xor64, bin_or8, bin_shl64, bin_shl64j, bin_shr64, bin_shr64j, bin_shl8j, bin_shr8j, bin_quo64, bin_rem64, bin_quo32, bin_rem32, bin_addj, bin_subj, bin_quoj, bin_remj, bin_eqlj, bin_neqj, bin_lssj, bin_leqj, bin_gtrj, bin_geqj, bin_eql64, bin_lss64, bin_gtr64, bin_eql8, bin_rem8]; exact rfl) | (with_reducible apply wp_r); focus (simp [runPre, AOp.ex, AOp.ex0, ex_mov, ex_bin, binA_lit, ex_cvt, ex_iaddrA, ex_iaddrS, ex_faddr, ex_load, ldA, ex_ext, ex_add64, add64A_un, ex_pick, ex_beq, ex_un, ex_len, lenA_sl, lenA_nil, lenA_str, lenA_own, lenRow_row, elA_own, elA_sl, elRow_row, ex_nilc, ex_build, ex_bslice, ex_fieldv, AOp.ro, AS.ev, AS.put, AS.fieldAddr, idxA_ptr, idxA_cptr, AS.peek, AS.poke, AS.blk, AS.setBlk, AV.nav, AV.upd, Blk.loc, Blk.cont, Blk.n, Blk.may, Blk.upd, AV.isAgg, AV.isTup, AV.sz, unVal, ownOk, fillAV, AV.sub, cvt_64j, cvt_64b, cvt_64w, cvt_8u, cvt_8w, bin_add64, bin_mul64, bin_sub64, bin_and51, bin_and32, bin_and1, bin_and8_1, bin_or64, bin_xor64, bin_or8, bin_shl64, bin_shl64j, bin_shr64, bin_shr64j, bin_shl8j, bin_shr8j, bin_quo64, bin_rem64, bin_quo32, bin_rem32, bin_addj, bin_subj, bin_quoj, bin_remj, bin_eqlj, bin_neqj, bin_lssj, bin_leqj, bin_gtrj, bin_geqj, bin_eql64, bin_lss64, bin_gtr64, bin_eql8, bin_rem8]; exact rfl) | (with_reducible refine wp_seq' (wp_cond_t ?_ ?_)); focus (simp [AS.ev]; done) | (with_reducible refine wp_seq' (wp_cond_f ?_ ?_)); focus (simp [AS.ev]; done) | (with_reducible refine wp_cond_t ?_ ?_); focus (simp [AS.ev]; done) | (with_reducible refine wp_cond_f ?_ ?_); focus (simp [AS.ev]; done) | with_reducible refine wp_seq' ?_ | with_reducible refine wp_block' ?_ | with_reducible refine wp_skip' ?_ | with_reducible refine wp_exit' ?_ | with_reducible refine wp_ret' ?_ | with_reducible refine if_hit rfl ?_ | with_reducible refine loopN_succ ?_)
          refine fin_tmp (by simp [RVal, AS.coe, tt, AS.ev]) (by simp)
      · by_cases hj0 : j = 0
        · subst hj0
          have hp : ¬ 127 < nth L (31 + 0) := fun h => hh (.inl ⟨rfl, h⟩)
          simp only [Nat.add_zero] at g1 g4 hp hlen
          refine wp_sr (by simp [runPre, AOp.ex, AOp.ex0, ex_mov, ex_bin, binA_lit, ex_cvt, ex_iaddrA, ex_iaddrS, ex_faddr, ex_load, ldA, ex_ext, ex_add64, add64A_un, ex_pick, ex_beq, ex_un, ex_len, lenA_sl, lenA_nil, lenA_str, lenA_own, lenRow_row, elA_own, elA_sl, elRow_row, ex_nilc, ex_build, ex_bslice, ex_fieldv, AOp.ro, AS.ev, AS.put, AS.fieldAddr, idxA_ptr, idxA_cptr, AS.peek, AS.poke, AS.blk, AS.setBlk, AV.nav, AV.upd, Blk.loc, Blk.cont, Blk.n, Blk.may, Blk.upd, AV.isAgg, AV.isTup, AV.sz, unVal, ownOk, fillAV, AV.sub, cvt_64j, cvt_64b, cvt_64w, cvt_8u, cvt_8w, bin_add64, bin_mul64, bin_sub64, bin_and51, bin_and32, bin_and1, bin_and8_1, bin_or64, bin_xor64, bin_or8, bin_shl64, bin_shl64j, bin_shr64, bin_shr64j, bin_shl8j, bin_shr8j, bin_quo64, bin_rem64, bin_quo32, bin_rem32, bin_addj, bin_subj, bin_quoj, bin_remj, bin_eqlj, bin_neqj, bin_lssj, bin_leqj, bin_gtrj, bin_geqj, bin_eql64, bin_lss64, bin_gtr64, bin_eql8, bin_rem8, gd, hlen, g1, g4, hp]; exact rfl) (wp_cond_f (by simp [AS.ev]) (wp_skip' ?_))
          refine wp_r (by simp [runPre, AOp.ex, AOp.ex0, ex_mov, ex_bin, binA_lit, ex_cvt, ex_iaddrA, ex_iaddrS, ex_faddr, ex_load, ldA, ex_ext, ex_add64, add64A_un, ex_pick, ex_beq, ex_un, ex_len, lenA_sl, lenA_nil, lenA_str, lenA_own, lenRow_row, elA_own, elA_sl, elRow_row, ex_nilc, ex_build, ex_bslice, ex_fieldv, AOp.ro, AS.ev, AS.put, AS.fieldAddr, idxA_ptr, idxA_cptr, AS.peek, AS.poke, AS.blk, AS.setBlk, AV.nav, AV.upd, Blk.loc, Blk.cont, Blk.n, Blk.may, Blk.upd, AV.isAgg, AV.isTup, AV.sz, unVal, ownOk, fillAV, AV.sub, cvt_64j, cvt_64b, cvt_64w, cvt_8u, cvt_8w, bin_add64, bin_mul64, bin_sub64, bin_and51, bin_and32, bin_and1, bin_and8_1, bin_or64, bin_xor64, bin_or8, bin_shl64, bin_shl64j, bin_shr64, bin_shr64j, bin_shl8j, bin_shr8j, bin_quo64, bin_rem64, bin_quo32, bin_rem32, bin_addj, bin_subj, bin_quoj, bin_remj, bin_eqlj, bin_neqj, bin_lssj, bin_leqj, bin_gtrj, bin_geqj, bin_eql64, bin_lss64, bin_gtr64, bin_eql8, bin_rem8, q4]; exact rfl) ?_
          refine ⟨by omega, fun k h1 h2 => ?_, Le.mk rfl (by simp [leT]) (by simp [leH])⟩
          have : k = 31 := by omega
          subst this; exact hh
        · have hj1 : 0 < j := by omega
          have hp : nth L (31 + j) = 0 := Nat.eq_zero_of_not_pos fun h => hh (.inr ⟨by omega, h⟩)
          refine wp_sr (by simp [runPre, AOp.ex, AOp.ex0, ex_mov, ex_bin, binA_lit, ex_cvt, ex_iaddrA, ex_iaddrS, ex_faddr, ex_load, ldA, ex_ext, ex_add64, add64A_un, ex_pick, ex_beq, ex_un, ex_len, lenA_sl, lenA_nil, lenA_str, lenA_own, lenRow_row, elA_own, elA_sl, elRow_row, ex_nilc, ex_build, ex_bslice, ex_fieldv, AOp.ro, AS.ev, AS.put, AS.fieldAddr, idxA_ptr, idxA_cptr, AS.peek, AS.poke, AS.blk, AS.setBlk, AV.nav, AV.upd, Blk.loc, Blk.cont, Blk.n, Blk.may, Blk.upd, AV.isAgg, AV.isTup, AV.sz, unVal, ownOk, fillAV, AV.sub, cvt_64j, cvt_64b, cvt_64w, cvt_8u, cvt_8w, bin_add64, bin_mul64, bin_sub64, bin_and51, bin_and32, bin_and1, bin_and8_1, bin_or64, bin_xor64, bin_or8, bin_shl64, bin_shl64j, bin_shr64, bin_shr64j, bin_shl8j, bin_shr8j, bin_quo64, bin_rem64, bin_quo32, bin_rem32, bin_addj, bin_subj, bin_quoj, bin_remj, bin_eqlj, bin_neqj, bin_lssj, bin_leqj, bin_gtrj, bin_geqj, bin_eql64, bin_lss64, bin_gtr64, bin_eql8, bin_rem8, gd, hlen, g1, g4, hp, hj0, hj1]; exact rfl) (wp_cond_f (by simp [AS.ev]) (wp_skip' ?_))
          refine wp_r (by simp [runPre, AOp.ex, AOp.ex0, ex_mov, ex_bin, binA_lit, ex_cvt, ex_iaddrA, ex_iaddrS, ex_faddr, ex_load, ldA, ex_ext, ex_add64, add64A_un, ex_pick, ex_beq, ex_un, ex_len, lenA_sl, lenA_nil, lenA_str, lenA_own, lenRow_row, elA_own, elA_sl, elRow_row, ex_nilc, ex_build, ex_bslice, ex_fieldv, AOp.ro, AS.ev, AS.put, AS.fieldAddr, idxA_ptr, idxA_cptr, AS.peek, AS.poke, AS.blk, AS.setBlk, AV.nav, AV.upd, Blk.loc, Blk.cont, Blk.n, Blk.may, Blk.upd, AV.isAgg, AV.isTup, AV.sz, unVal, ownOk, fillAV, AV.sub, cvt_64j, cvt_64b, cvt_64w, cvt_8u, cvt_8w, bin_add64, bin_mul64, bin_sub64, bin_and51, bin_and32, bin_and1, bin_and8_1, bin_or64, bin_xor64, bin_or8, bin_shl64, bin_shl64j, bin_shr64, bin_shr64j, bin_shl8j, bin_shr8j, bin_quo64, bin_rem64, bin_quo32, bin_rem32, bin_addj, bin_subj, bin_quoj, bin_remj, bin_eqlj, bin_neqj, bin_lssj, bin_leqj, bin_gtrj, bin_geqj, bin_eql64, bin_lss64, bin_gtr64, bin_eql8, bin_rem8, q4]; exact rfl) ?_
          refine ⟨by omega, fun k h1 h2 => ?_, Le.mk rfl (by simp [leT, Nat.add_assoc]) (by simp [leH])⟩
          by_cases hk : k = 31 + j
          · subst hk; exact hh
          · exact hinv k h1 (by omega)
    · have hr : decide (2 ^ 255 ≤ valL L) = false := decide_eq_false fun h => by
        obtain ⟨i, h1, h2, h3⟩ := hv.1 h
        exact hinv i h1 (by omega) h3
      rw [hr]
      refine wp_seq' (wp_seq' (wp_r (by simp [runPre, AOp.ex, AOp.ex0, ex_mov, ex_bin, binA_lit, ex_cvt, ex_iaddrA, ex_iaddrS, ex_faddr, ex_load, ldA, ex_ext, ex_add64, add64A_un, ex_pick, ex_beq, ex_un, ex_len, lenA_sl, lenA_nil, lenA_str, lenA_own, lenRow_row, elA_own, elA_sl, elRow_row, ex_nilc, ex_build, ex_bslice, ex_fieldv, AOp.ro, AS.ev, AS.put, AS.fieldAddr, idxA_ptr, idxA_cptr, AS.peek, AS.poke, AS.blk, AS.setBlk, AV.nav, AV.upd, Blk.loc, Blk.cont, Blk.n, Blk.may, Blk.upd, AV.isAgg, AV.isTup, AV.sz, unVal, ownOk, fillAV, AV.sub, cvt_64j, cvt_64b, cvt_64w, cvt_8u, cvt_8w, bin_add64, bin_mul64, bin_sub64, bin_and51, bin_and32, bin_and1, bin_and8_1, bin_or64, bin_xor64, bin_or8, bin_shl64, bin_shl64j, bin_shr64, bin_shr64j, bin_shl8j, bin_shr8j, bin_quo64, bin_rem64, bin_quo32, bin_rem32, bin_addj, bin_subj, bin_quoj, bin_remj, bin_eqlj, bin_neqj, bin_lssj, bin_leqj, bin_gtrj, bin_geqj, bin_eql64, bin_lss64, bin_gtr64, bin_eql8, bin_rem8, gd, hlen]; exact rfl) (wp_cond_f (by simp [AS.ev]) (wp_exit' (if_hit rfl ?_)))))
      repeat (first | (with_reducible apply wp_sr); focus (simp [runPre, AOp.ex, AOp.ex0, ex_mov, ex_bin, binA_lit, ex_cvt, ex_iaddrA, ex_iaddrS, ex_faddr, ex_load, ldA, ex_ext, ex_add64, add64A_un, ex_pick, ex_beq, ex_un, ex_len, lenA_sl, lenA_nil, lenA_str, lenA_own, lenRow_row, elA_own, elA_sl, elRow_row, ex_nilc, ex_build, ex_bslice, ex_fieldv, AOp.ro, AS.ev, AS.put, AS.fieldAddr, idxA_ptr, idxA_cptr, AS.peek, AS.poke, AS.blk, AS.setBlk, AV.nav, AV.upd, Blk.loc, Blk.cont, Blk.n, Blk.may, Blk.upd, AV.isAgg, AV.isTup, AV.sz, unVal, ownOk, fillAV, AV.sub, cvt_64j, cvt_64b, cvt_64w, cvt_8u, cvt_8w, bin_add64, bin_mul64, bin_sub64, bin_and51, bin_and32, bin_and1, bin_and8_1, bin_or64, bin_xor64, bin_or8, bin_shl64, bin_shl64j, bin_shr64, bin_shr64j, bin_shl8j, bin_shr8j, bin_quo64, bin_rem64, bin_quo32, bin_rem32, bin_addj, bin_subj, bin_quoj, bin_remj, bin_eqlj, bin_neqj, bin_lssj, bin_leqj, bin_gtrj, bin_geqj, bin_eql64, bin_lss64, bin_gtr64, bin_eql8, bin_rem8]; exact rfl) | (with_reducible apply wp_r); focus (simp [runPre, AOp.ex, AOp.ex0, ex_mov, ex_bin, binA_lit, ex_cvt, ex_iaddrA, ex_iaddrS, ex_faddr, ex_load, ldA, ex_ext, ex_add64, add64A_un, ex_pick, ex_beq, ex_un, ex_len, lenA_sl, lenA_nil, lenA_str, lenA_own, lenRow_row, elA_own, elA_sl, elRow_row, ex_nilc, ex_build, ex_bslice, ex_fieldv, AOp.ro, AS.ev, AS.put, AS.fieldAddr, idxA_ptr, idxA_cptr, AS.peek, AS.poke, AS.blk, AS.setBlk, AV.nav, AV.upd, Blk.loc, Blk.cont, Blk.n, Blk.may, Blk.upd, AV.isAgg, AV.isTup, AV.sz, unVal, ownOk, fillAV, AV.sub, cvt_64j, cvt_64b, cvt_64w, cvt_8u, cvt_8w, bin_add64, bin_mul64, bin_sub64, bin_and51, bin_and32, bin_and1, bin_and8_1, bin_or64, bin_xor64, bin_or8, bin_shl64, bin_shl64j, bin_shr64, bin_shr64j, bin_shl8j, bin_shr8j, bin_quo64, bin_rem64, bin_quo32, bin_rem32, bin_addj, bin_subj, bin_quoj, bin_remj, bin_eqlj, bin_neqj, bin_lssj, bin_leqj, bin_gtrj, bin_geqj, bin_eql64, bin_lss64, bin_gtr64, bin_eql8, bin_rem8]; exact rfl) | (with_reducible refine wp_seq' (wp_cond_t ?_ ?_)); focus (simp [AS.ev]; done) | (with_reducible refine wp_seq' (wp_cond_f ?_ ?_)); focus (simp [AS.ev]; done) | (with_reducible refine wp_cond_t ?_ ?_); focus (simp [AS.ev]; done) | (with_reducible refine wp_cond_f ?_ ?_); focus (simp [AS.ev]; done) | with_reducible refine wp_seq' ?_ | with_reducible refine wp_block' ?_ | with_reducible refine wp_skip' ?_ | with_reducible refine wp_exit' ?_ | with_reducible refine wp_ret' ?_ | with_reducible refine if_hit rfl ?_ | with_reducible refine loopN_succ ?_)
      refine fin_tmp (by simp [RVal, AS.coe, tt, AS.ev]) (by simp)
end Go.Cab

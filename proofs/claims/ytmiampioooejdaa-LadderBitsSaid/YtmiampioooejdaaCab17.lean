/- Part 17 of what the proof stands on: W6. -/
import Derived.Test.YtmiampioooejdaaCab16
set_option linter.unusedSimpArgs false
set_option linter.unusedVariables false
set_option linter.unusedSectionVars false
/- Ladder: LadderBits. -/
namespace Go.Cab
def fb202 : AC := (.seq (.reg [⟨(.some 4), .none, (.box 32 (.tmp 0)), [], .none⟩, ⟨(.some 5), .none, (.box 32 (.tmp 1)), [], .none⟩, ⟨(.some 8), .none, (.mov (.const (.bool .false))), [], .none⟩]) (.seq (.seq (.reg [⟨(.some 15), .none, (.call 15 []), [], .none⟩, ⟨(.some 16), .none, (.un .not (.tmp 15)), [], .none⟩]) (.cond (.tmp 16) (.seq (.reg [⟨(.some 8), .none, (.mov (.const (.bool .false))), [], .none⟩]) .ret) .skip)) (.seq (.reg [⟨(.some 17), .none, (.load .true 32 (.tmp 4)), [9, 10], .none⟩, ⟨(.some 18), .none, (.load .true 32 (.tmp 5)), [9, 10, 9], .none⟩, ⟨(.some 9), .none, (.alloc 32 (.arr 1 (List.replicate 32 (.lit (bn 0))))), [], .none⟩, ⟨(.some 10), .none, (.alloc 32 (.arr 1 (List.replicate 32 (.lit (bn 0))))), [], .none⟩, ⟨.none, .none, (.store 32 (.tmp 9) (.tmp 17)), [], (.some 9)⟩, ⟨.none, .none, (.store 32 (.tmp 10) (.tmp 18)), [], .none⟩]) (.seq (.reg [⟨(.some 19), .none, (.iaddrA 32 1 (.tmp 9) (.const (jn 0))), [], .none⟩, ⟨(.some 20), .none, (.load .false 1 (.tmp 19)), [], .none⟩, ⟨(.some 21), .none, (.bin .and (.tmp 20) (.const (bn 248))), [], .none⟩, ⟨(.some 22), .none, (.mov (.tmp 2)), [], .none⟩, ⟨(.some 23), .none, (.bin .rem (.tmp 22) (.const (bn 8))), [], .none⟩, ⟨(.some 24), .none, (.bin .or (.tmp 21) (.tmp 23)), [], .none⟩, ⟨(.some 25), .none, (.iaddrA 32 1 (.tmp 9) (.const (jn 0))), [], .none⟩, ⟨.none, .none, (.store 1 (.tmp 25) (.tmp 24)), [], .none⟩]) (.seq (.reg [⟨(.some 26), .none, (.iaddrA 32 1 (.tmp 9) (.const (jn 31))), [], .none⟩, ⟨(.some 27), .none, (.load .false 1 (.tmp 26)), [], .none⟩, ⟨(.some 28), .none, (.bin .and (.tmp 27) (.const (bn 63))), [], .none⟩, ⟨(.some 29), .none, (.mov (.tmp 3)), [], .none⟩, ⟨(.some 30), .none, (.bin .and (.tmp 29) (.const (bn 192))), [], .none⟩, ⟨(.some 31), .none, (.bin .or (.tmp 28) (.tmp 30)), [], .none⟩, ⟨(.some 32), .none, (.iaddrA 32 1 (.tmp 9) (.const (jn 31))), [], .none⟩, ⟨.none, .none, (.store 1 (.tmp 32) (.tmp 31)), [], .none⟩]) (.seq (.reg [⟨(.some 33), .none, (.iaddrA 32 1 (.tmp 10) (.const (jn 31))), [], .none⟩, ⟨(.some 34), .none, (.load .false 1 (.tmp 33)), [], .none⟩, ⟨(.some 35), .none, (.mov (.tmp 3)), [], .none⟩, ⟨(.some 36), .none, (.bin .and (.tmp 35) (.const (bn 128))), [], .none⟩, ⟨(.some 37), .none, (.bin .xor (.tmp 34) (.tmp 36)), [], .none⟩, ⟨(.some 38), .none, (.iaddrA 32 1 (.tmp 10) (.const (jn 31))), [], .none⟩, ⟨.none, .none, (.store 1 (.tmp 38) (.tmp 37)), [], .none⟩]) (.seq (.reg [⟨(.some 40), .none, (.load .true 32 (.tmp 4)), [], .none⟩, ⟨(.some 41), .none, (.load .true 32 (.tmp 5)), [], .none⟩, ⟨(.some 42), .none, (.call 18 [(.tmp 40), (.tmp 41)]), [], .none⟩, ⟨(.some 39), .none, (.mov (.tmp 42)), [], .none⟩, ⟨(.some 43), .none, (.ext (.tmp 39) 0), [], .none⟩, ⟨(.some 44), .none, (.ext (.tmp 39) 1), [], .none⟩, ⟨(.some 11), .none, (.alloc 32 (.arr 1 (List.replicate 32 (.lit (bn 0))))), [], .none⟩, ⟨.none, .none, (.store 32 (.tmp 11) (.tmp 43)), [], .none⟩, ⟨(.some 12), .none, (.mov (.tmp 44)), [], .none⟩]) (.seq (.reg [⟨(.some 46), .none, (.load .true 32 (.tmp 9)), [], .none⟩, ⟨(.some 47), .none, (.load .true 32 (.tmp 10)), [], .none⟩, ⟨(.some 48), .none, (.call 18 [(.tmp 46), (.tmp 47)]), [], .none⟩, ⟨(.some 45), .none, (.mov (.tmp 48)), [], .none⟩, ⟨(.some 49), .none, (.ext (.tmp 45) 0), [], .none⟩, ⟨(.some 50), .none, (.ext (.tmp 45) 1), [], .none⟩, ⟨(.some 13), .none, (.alloc 32 (.arr 1 (List.replicate 32 (.lit (bn 0))))), [], .none⟩, ⟨.none, .none, (.store 32 (.tmp 13) (.tmp 49)), [], .none⟩, ⟨(.some 14), .none, (.mov (.tmp 50)), [], .none⟩]) (.seq (.reg [⟨(.some 51), .none, (.callv 15 []), [], .none⟩, ⟨(.some 52), .none, (.mov (.tmp 51)), [], .none⟩, ⟨(.some 53), (.some (52, .true)), (.load .true 32 (.tmp 11)), [], .none⟩, ⟨(.some 54), (.some (52, .true)), (.load .true 32 (.tmp 13)), [], .none⟩, ⟨(.some 55), (.some (52, .true)), (.eqv 23 .false (.tmp 53) (.tmp 54)), [], .none⟩, ⟨(.some 56), .none, (.pick (.tmp 52) (.tmp 55) (.const (.bool .false))), [], .none⟩, ⟨(.some 57), .none, (.mov (.tmp 56)), [], .none⟩, ⟨(.some 58), (.some (57, .true)), (.mov (.tmp 12)), [], .none⟩, ⟨(.some 59), (.some (57, .true)), (.mov (.tmp 14)), [], .none⟩, ⟨(.some 60), (.some (57, .true)), (.beq .false (.tmp 58) (.tmp 59)), [], .none⟩, ⟨(.some 61), .none, (.pick (.tmp 57) (.tmp 60) (.const (.bool .false))), [], .none⟩, ⟨(.some 62), .none, (.mov (.tmp 61)), [], .none⟩, ⟨(.some 63), (.some (62, .true)), (.load .true 32 (.tmp 9)), [], .none⟩, ⟨(.some 64), (.some (62, .true)), (.callv 16 [(.tmp 63)]), [], .none⟩, ⟨(.some 65), (.some (62, .true)), (.load .true 32 (.tmp 4)), [], .none⟩, ⟨(.some 66), (.some (62, .true)), (.callv 16 [(.tmp 65)]), [], .none⟩, ⟨(.some 67), (.some (62, .true)), (.eqv 23 .false (.tmp 64) (.tmp 66)), [], .none⟩, ⟨(.some 68), .none, (.pick (.tmp 62) (.tmp 67) (.const (.bool .false))), [], .none⟩, ⟨(.some 8), .none, (.mov (.tmp 68)), [], .none⟩]) .ret)))))))))
def fc202 : FC := ⟨4, 69, [(.tmp 8)], fb202⟩
theorem fc202_eq : compF Go.Proofs.Try.prog 6 = some fc202 := by kernel_rfl

theorem bin_xor8 (a b : Nat) : binVal .xor (bn a) (bn b) = some (bn ((a ^^^ b) % 256)) := by
  simp only [binVal, bn, ne_eq, not_true_eq_false, if_false]
  rw [show IntKind.u8.bits = 8 from rfl, BitVec.toNat_xor, bv8, bv8, wrap_u8]
  congr 3
  rw [show (256 : Nat) = 2 ^ 8 from rfl, ← Nat.xor_mod_two_pow, Nat.mod_mod]

theorem kb_lt (n j : Nat) : kb n j < 256 := Nat.mod_lt _ (by decide)
theorem key_of (f : Nat → Nat) (hf : ∀ j, f j < 256) : (∀ j, j < 32 → kb (valL ((List.range 32).map f)) j = f j) ∧ keyAV (valL ((List.range 32).map f)) = .arr 1 (lst 32 fun j => .lit (bn (f j))) := by
  have h : ∀ j, j < 32 → kb (valL ((List.range 32).map f)) j = f j := fun j hj => by
    unfold kb
    rw [digit_val _ j (by intro d hd; obtain ⟨i, _, rfl⟩ := List.mem_map.1 hd; exact hf i)]
    simp [hj]
  refine ⟨h, ?_⟩
  rw [kf]
  congr 1
  unfold lst
  refine List.map_congr_left fun j hj => ?_
  rw [h j (by simpa using hj)]

theorem bit_kb (n t : Nat) : n.testBit t = (kb n (t / 8)).testBit (t % 8) := by
  unfold kb
  rw [show (256 : Nat) = 2 ^ 8 from rfl, Nat.testBit_mod_two_pow, Nat.testBit_div_two_pow]
  have e2 : t % 8 + 8 * (t / 8) = t := by omega
  have e3 : t % 8 < 8 := by omega
  rw [e2]; simp [e3]
theorem sbit_tb (n t : Nat) : sbit n t = if t < 3 then false else if t = 254 then true else (kb n (t / 8)).testBit (t % 8) := by
  unfold sbit
  split
  · rfl
  · split
    · rfl
    · rw [Nat.testBit_eq_decide_div_mod_eq]
      show (kb n (t / 8) / 2 ^ (t % 8) % 2 == 1) = _
      rfl
theorem refS_congr {a b : Nat} (h : ∀ t, t ≤ 254 → sbit a t = sbit b t) (u : Nat) : ∀ k, refS a u k = refS b u k
  | 0 => rfl
  | k + 1 => by
    show (lstep u ((refS a u k).sw (sbit a (254 - k)))).sw (sbit a (254 - k)) = _
    rw [refS_congr h u k, h (254 - k) (by omega)]; rfl
theorem ladN_congr {a b : Nat} (h : ∀ t, t ≤ 254 → sbit a t = sbit b t) (u : Nat) : ladN a u = ladN b u := by
  unfold ladN; rw [refS_congr h u 255]

/-- The scalar's bytes, other bits in those that don't count. -/
def sby (n lo hi j : Nat) : Nat := if j = 0 then ((kb n 0 &&& 248) % 256 ||| lo % 8) % 256 else if j = 31 then ((kb n 31 &&& 63) % 256 ||| (hi &&& 192) % 256) % 256 else kb n j
def pby (m hi j : Nat) : Nat := if j = 31 then (kb m 31 ^^^ (hi &&& 128) % 256) % 256 else kb m j
theorem sby_lt (n lo hi j : Nat) : sby n lo hi j < 256 := by unfold sby; split <;> (try split) <;> first | exact Nat.mod_lt _ (by decide) | exact kb_lt _ _
theorem pby_lt (m hi j : Nat) : pby m hi j < 256 := by unfold pby; split <;> first | exact Nat.mod_lt _ (by decide) | exact kb_lt _ _
def sN (n lo hi : Nat) : Nat := valL ((List.range 32).map (sby n lo hi))
def pN (m hi : Nat) : Nat := valL ((List.range 32).map (pby m hi))

theorem mod8 (x s : Nat) (h : s < 8) : (x % 256).testBit s = x.testBit s := by
  rw [show (256 : Nat) = 2 ^ 8 from rfl, Nat.testBit_mod_two_pow]; simp [h]
theorem t248 : Nat.testBit 248 3 = true ∧ Nat.testBit 248 4 = true ∧ Nat.testBit 248 5 = true ∧ Nat.testBit 248 6 = true ∧ Nat.testBit 248 7 = true := by decide
theorem t63 : Nat.testBit 63 0 = true ∧ Nat.testBit 63 1 = true ∧ Nat.testBit 63 2 = true ∧ Nat.testBit 63 3 = true ∧ Nat.testBit 63 4 = true ∧ Nat.testBit 63 5 = true := by decide
theorem t192 : Nat.testBit 192 0 = false ∧ Nat.testBit 192 1 = false ∧ Nat.testBit 192 2 = false ∧ Nat.testBit 192 3 = false ∧ Nat.testBit 192 4 = false ∧ Nat.testBit 192 5 = false := by decide
theorem t128 : Nat.testBit 128 0 = false ∧ Nat.testBit 128 1 = false ∧ Nat.testBit 128 2 = false ∧ Nat.testBit 128 3 = false ∧ Nat.testBit 128 4 = false ∧ Nat.testBit 128 5 = false ∧ Nat.testBit 128 6 = false := by decide
theorem sN_bits (n lo hi : Nat) : ∀ t, t ≤ 254 → sbit (sN n lo hi) t = sbit n t := by
  intro t ht
  rw [sbit_tb, sbit_tb]
  by_cases h3 : t < 3
  · rw [if_pos h3, if_pos h3]
  · by_cases h254 : t = 254
    · rw [if_neg h3, if_neg h3, if_pos h254, if_pos h254]
    · rw [if_neg h3, if_neg h3, if_neg h254, if_neg h254]
      have hk : kb (sN n lo hi) (t / 8) = sby n lo hi (t / 8) := (key_of _ (sby_lt n lo hi)).1 (t / 8) (by omega)
      rw [hk]
      unfold sby
      by_cases h0 : t / 8 = 0
      · rw [if_pos h0, h0, mod8 _ _ (by omega), Nat.testBit_or, mod8 _ _ (by omega), Nat.testBit_and, show (8 : Nat) = 2 ^ 3 from rfl]
        have hs : t % 2 ^ 3 = 3 ∨ t % 2 ^ 3 = 4 ∨ t % 2 ^ 3 = 5 ∨ t % 2 ^ 3 = 6 ∨ t % 2 ^ 3 = 7 := by omega
        rw [Nat.testBit_mod_two_pow]
        obtain ⟨b3, b4, b5, b6, b7⟩ := t248
        have e8 : t % 8 = t % 2 ^ 3 := rfl
        rw [e8]
        rcases hs with hs | hs | hs | hs | hs <;> rw [hs] <;> simp only [b3, b4, b5, b6, b7, Bool.and_true, Nat.lt_irrefl, decide_false, Bool.false_and, Bool.or_false, show ¬ (4 < 3) by decide, show ¬ (5 < 3) by decide, show ¬ (6 < 3) by decide, show ¬ (7 < 3) by decide]
      · by_cases h31 : t / 8 = 31
        · rw [if_neg h0, if_pos h31, h31, mod8 _ _ (by omega), Nat.testBit_or, mod8 _ _ (by omega), mod8 _ _ (by omega), Nat.testBit_and, Nat.testBit_and]
          have hs : t % 8 = 0 ∨ t % 8 = 1 ∨ t % 8 = 2 ∨ t % 8 = 3 ∨ t % 8 = 4 ∨ t % 8 = 5 := by omega
          obtain ⟨b0, b1, b2, b3, b4, b5⟩ := t63
          obtain ⟨c0, c1, c2, c3, c4, c5⟩ := t192
          rcases hs with hs | hs | hs | hs | hs | hs <;> rw [hs] <;> simp only [b0, b1, b2, b3, b4, b5, c0, c1, c2, c3, c4, c5, Bool.and_true, Bool.and_false, Bool.or_false]
        · rw [if_neg h0, if_neg h31]
theorem pN_bits (m hi : Nat) {t : Nat} (ht : t < 255) : (pN m hi).testBit t = m.testBit t := by
  rw [bit_kb (pN m hi), bit_kb m]
  have hk : kb (pN m hi) (t / 8) = pby m hi (t / 8) := (key_of _ (pby_lt m hi)).1 (t / 8) (by omega)
  rw [hk]
  unfold pby
  by_cases h31 : t / 8 = 31
  · rw [if_pos h31, h31, mod8 _ _ (by omega), Nat.testBit_xor, mod8 _ _ (by omega), Nat.testBit_and]
    have hs : t % 8 = 0 ∨ t % 8 = 1 ∨ t % 8 = 2 ∨ t % 8 = 3 ∨ t % 8 = 4 ∨ t % 8 = 5 ∨ t % 8 = 6 := by omega
    obtain ⟨c0, c1, c2, c3, c4, c5, c6⟩ := t128
    rcases hs with hs | hs | hs | hs | hs | hs | hs <;> rw [hs] <;> simp only [c0, c1, c2, c3, c4, c5, c6, Bool.and_false, Bool.xor_false]
  · rw [if_neg h31]
theorem pN_mod (m hi : Nat) : pN m hi % 2 ^ 255 = m % 2 ^ 255 := by
  apply Nat.eq_of_testBit_eq
  intro t
  rw [Nat.testBit_mod_two_pow, Nat.testBit_mod_two_pow]
  by_cases ht : t < 255
  · rw [pN_bits m hi ht]
  · rw [decide_eq_false ht, Bool.false_and, Bool.false_and]

set_option maxHeartbeats 8000000 in
set_option maxRecDepth 20000 in
theorem ladderBits_call (n m lo hi : Nat) : PCall Go.Proofs.Try.prog 6 [keyAV n, keyAV m, .lit (bn lo), .lit (bn hi)] (.val (.lit (.bool true))) := by
  have h202 := fc202_eq
  have hal := alive7_call
  have c1 := agree_P n m
  have c2 := agree_P (sN n lo hi) (pN m hi)
  have c3 := public_P (sN n lo hi)
  have c4 := public_P n
  rw [pN_mod] at c2
  rw [ladN_congr (sN_bits n lo hi)] at c2 c3
  have e := eqkk (ladN_lt n (m % 2 ^ 255 % pp))
  have e2 := eqkk (ladN_lt n 9)
  have k1 : keyAV (sN n lo hi) = _ := (key_of _ (sby_lt n lo hi)).2
  have k2 : keyAV (pN m hi) = _ := (key_of _ (pby_lt m hi)).2
  rw [k1, k2] at c2
  rw [k1] at c3
  generalize ladN n (m % 2 ^ 255 % pp) = x at *
  generalize ladN n 9 = y at *
  generalize (!decide (x = 0)) = z at *
  rw [kf n, kf m, kf x] at c1
  rw [kf x] at c2 e
  rw [kf y] at c3 e2
  rw [kf n, kf y] at c4
  rw [kf n, kf m]
  have g0 : (lst 32 fun j => AV.lit (bn (kb n j))).set 0 (.lit (bn (((kb n 0 &&& 248) % 256 ||| lo % 8) % 256))) = lst 32 fun j => AV.lit (bn (if j = 0 then ((kb n 0 &&& 248) % 256 ||| lo % 8) % 256 else kb n j)) := by
    refine lst_set (by simp) fun k hk hne => ?_
    rw [if_neg hne]
  have g1 : (lst 32 fun j => AV.lit (bn (if j = 0 then ((kb n 0 &&& 248) % 256 ||| lo % 8) % 256 else kb n j))).set 31 (.lit (bn (((kb n 31 &&& 63) % 256 ||| (hi &&& 192) % 256) % 256))) = lst 32 fun j => AV.lit (bn (sby n lo hi j)) := by
    refine lst_set (by simp [sby]) fun k hk hne => ?_
    unfold sby
    by_cases h0 : k = 0
    · rw [if_pos h0, if_pos h0]
    · rw [if_neg h0, if_neg h0, if_neg hne]
  have g2 : (lst 32 fun j => AV.lit (bn (kb m j))).set 31 (.lit (bn ((kb m 31 ^^^ (hi &&& 128) % 256) % 256))) = lst 32 fun j => AV.lit (bn (pby m hi j)) := by
    refine lst_set (by simp [pby]) fun k hk hne => ?_
    unfold pby
    rw [if_neg hne]
  refine PCall.of h202 rfl ?_; show AC.wp _ fb202 (AS.init [.arr 1 (lst 32 fun j => .lit (bn (kb n j))), .arr 1 (lst 32 fun j => .lit (bn (kb m j))), .lit (bn lo), .lit (bn hi)] 4 69) (fun x s => match x with | .exit _ => False | _ => Fin [(.tmp 8)] s _); unfold fb202 AS.init
  refine wp_sg (areg_bx rfl (by simp [AS.ev, AV.sz, lst_len]) fun l4 => areg_bx rfl (by simp [AS.ev, AV.sz, lst_len]) fun l5 => areg_end (by simp [runPre, AOp.ex, AOp.ex0, ex_mov, ex_bin, binA_lit, ex_cvt, ex_iaddrA, ex_iaddrS, ex_faddr, ex_load, ldA, ex_ext, ex_add64, add64A_un, ex_pick, ex_beq, ex_un, ex_len, lenA_sl, lenA_nil, lenA_str, lenA_own, lenRow_row, elA_own, elA_sl, elRow_row, ex_nilc, ex_build, ex_bslice, ex_fieldv, AOp.ro, AS.ev, AS.put, AS.fieldAddr, idxA_ptr, idxA_cptr, AS.peek, AS.poke, AS.blk, AS.setBlk, AV.nav, AV.upd, Blk.loc, Blk.cont, Blk.n, Blk.may, Blk.upd, AV.isAgg, AV.isTup, AV.sz, unVal, ownOk, fillAV, AV.sub, cvt_64j, cvt_64b, cvt_64w, cvt_8u, cvt_8w, bin_add64, bin_mul64, bin_sub64, bin_and51, bin_and32, bin_and1, bin_and8_1, bin_or64, bin_xor64, bin_or8, bin_shl64, bin_shl64j, bin_shr64, bin_shr64j, bin_shl8j, bin_shr8j, bin_quo64, bin_rem64, bin_quo32, bin_rem32, bin_addj, bin_subj, bin_quoj, bin_remj, bin_eqlj, bin_neqj, bin_lssj, bin_leqj, bin_gtrj, bin_geqj, bin_eql64, bin_lss64, bin_gtr64, bin_eql8, bin_rem8]; exact rfl) ?_)
  refine wp_seq' (wp_seq' (wp_rg (areg_ca (by simp) hal (areg_end (by simp [runPre, AOp.ex, AOp.ex0, ex_mov, ex_bin, binA_lit, ex_cvt, ex_iaddrA, ex_iaddrS, ex_faddr, ex_load, ldA, ex_ext, ex_add64, add64A_un, ex_pick, ex_beq, ex_un, ex_len, lenA_sl, lenA_nil, lenA_str, lenA_own, lenRow_row, elA_own, elA_sl, elRow_row, ex_nilc, ex_build, ex_bslice, ex_fieldv, AOp.ro, AS.ev, AS.put, AS.fieldAddr, idxA_ptr, idxA_cptr, AS.peek, AS.poke, AS.blk, AS.setBlk, AV.nav, AV.upd, Blk.loc, Blk.cont, Blk.n, Blk.may, Blk.upd, AV.isAgg, AV.isTup, AV.sz, unVal, ownOk, fillAV, AV.sub, cvt_64j, cvt_64b, cvt_64w, cvt_8u, cvt_8w, bin_add64, bin_mul64, bin_sub64, bin_and51, bin_and32, bin_and1, bin_and8_1, bin_or64, bin_xor64, bin_or8, bin_shl64, bin_shl64j, bin_shr64, bin_shr64j, bin_shl8j, bin_shr8j, bin_quo64, bin_rem64, bin_quo32, bin_rem32, bin_addj, bin_subj, bin_quoj, bin_remj, bin_eqlj, bin_neqj, bin_lssj, bin_leqj, bin_gtrj, bin_geqj, bin_eql64, bin_lss64, bin_gtr64, bin_eql8, bin_rem8]; exact rfl) ?_))))
  refine wp_cond_f (by simp [AS.ev]) (wp_skip' ?_)
  refine wp_sg (areg_run 2 (by simp [runPre, AOp.ex, AOp.ex0, ex_mov, ex_bin, binA_lit, ex_cvt, ex_iaddrA, ex_iaddrS, ex_faddr, ex_load, ldA, ex_ext, ex_add64, add64A_un, ex_pick, ex_beq, ex_un, ex_len, lenA_sl, lenA_nil, lenA_str, lenA_own, lenRow_row, elA_own, elA_sl, elRow_row, ex_nilc, ex_build, ex_bslice, ex_fieldv, AOp.ro, AS.ev, AS.put, AS.fieldAddr, idxA_ptr, idxA_cptr, AS.peek, AS.poke, AS.blk, AS.setBlk, AV.nav, AV.upd, Blk.loc, Blk.cont, Blk.n, Blk.may, Blk.upd, AV.isAgg, AV.isTup, AV.sz, unVal, ownOk, fillAV, AV.sub, cvt_64j, cvt_64b, cvt_64w, cvt_8u, cvt_8w, bin_add64, bin_mul64, bin_sub64, bin_and51, bin_and32, bin_and1, bin_and8_1, bin_or64, bin_xor64, bin_or8, bin_shl64, bin_shl64j, bin_shr64, bin_shr64j, bin_shl8j, bin_shr8j, bin_quo64, bin_rem64, bin_quo32, bin_rem32, bin_addj, bin_subj, bin_quoj, bin_remj, bin_eqlj, bin_neqj, bin_lssj, bin_leqj, bin_gtrj, bin_geqj, bin_eql64, bin_lss64, bin_gtr64, bin_eql8, bin_rem8, lst_len]; exact rfl) (areg_al fun l9 => areg_al fun l10 => areg_end (by simp [runPre, AOp.ex, AOp.ex0, ex_mov, ex_bin, binA_lit, ex_cvt, ex_iaddrA, ex_iaddrS, ex_faddr, ex_load, ldA, ex_ext, ex_add64, add64A_un, ex_pick, ex_beq, ex_un, ex_len, lenA_sl, lenA_nil, lenA_str, lenA_own, lenRow_row, elA_own, elA_sl, elRow_row, ex_nilc, ex_build, ex_bslice, ex_fieldv, AOp.ro, AS.ev, AS.put, AS.fieldAddr, idxA_ptr, idxA_cptr, AS.peek, AS.poke, AS.blk, AS.setBlk, AV.nav, AV.upd, Blk.loc, Blk.cont, Blk.n, Blk.may, Blk.upd, AV.isAgg, AV.isTup, AV.sz, unVal, ownOk, fillAV, AV.sub, cvt_64j, cvt_64b, cvt_64w, cvt_8u, cvt_8w, bin_add64, bin_mul64, bin_sub64, bin_and51, bin_and32, bin_and1, bin_and8_1, bin_or64, bin_xor64, bin_or8, bin_shl64, bin_shl64j, bin_shr64, bin_shr64j, bin_shl8j, bin_shr8j, bin_quo64, bin_rem64, bin_quo32, bin_rem32, bin_addj, bin_subj, bin_quoj, bin_remj, bin_eqlj, bin_neqj, bin_lssj, bin_leqj, bin_gtrj, bin_geqj, bin_eql64, bin_lss64, bin_gtr64, bin_eql8, bin_rem8, lst_len]; exact rfl) ?_))
  refine wp_sr (by simp [runPre, AOp.ex, AOp.ex0, ex_mov, ex_bin, binA_lit, ex_cvt, ex_iaddrA, ex_iaddrS, ex_faddr, ex_load, ldA, ex_ext, ex_add64, add64A_un, ex_pick, ex_beq, ex_un, ex_len, lenA_sl, lenA_nil, lenA_str, lenA_own, lenRow_row, elA_own, elA_sl, elRow_row, ex_nilc, ex_build, ex_bslice, ex_fieldv, AOp.ro, AS.ev, AS.put, AS.fieldAddr, idxA_ptr, idxA_cptr, AS.peek, AS.poke, AS.blk, AS.setBlk, AV.nav, AV.upd, Blk.loc, Blk.cont, Blk.n, Blk.may, Blk.upd, AV.isAgg, AV.isTup, AV.sz, unVal, ownOk, fillAV, AV.sub, cvt_64j, cvt_64b, cvt_64w, cvt_8u, cvt_8w, bin_add64, bin_mul64, bin_sub64, bin_and51, bin_and32, bin_and1, bin_and8_1, bin_or64, bin_xor64, bin_or8, bin_shl64, bin_shl64j, bin_shr64, bin_shr64j, bin_shl8j, bin_shr8j, bin_quo64, bin_rem64, bin_quo32, bin_rem32, bin_addj, bin_subj, bin_quoj, bin_remj, bin_eqlj, bin_neqj, bin_lssj, bin_leqj, bin_gtrj, bin_geqj, bin_eql64, bin_lss64, bin_gtr64, bin_eql8, bin_rem8, lst_len, lst_at, lst_get, lst_getD, bin_and8, g0]; exact rfl) ?_
  refine wp_sr (by simp [runPre, AOp.ex, AOp.ex0, ex_mov, ex_bin, binA_lit, ex_cvt, ex_iaddrA, ex_iaddrS, ex_faddr, ex_load, ldA, ex_ext, ex_add64, add64A_un, ex_pick, ex_beq, ex_un, ex_len, lenA_sl, lenA_nil, lenA_str, lenA_own, lenRow_row, elA_own, elA_sl, elRow_row, ex_nilc, ex_build, ex_bslice, ex_fieldv, AOp.ro, AS.ev, AS.put, AS.fieldAddr, idxA_ptr, idxA_cptr, AS.peek, AS.poke, AS.blk, AS.setBlk, AV.nav, AV.upd, Blk.loc, Blk.cont, Blk.n, Blk.may, Blk.upd, AV.isAgg, AV.isTup, AV.sz, unVal, ownOk, fillAV, AV.sub, cvt_64j, cvt_64b, cvt_64w, cvt_8u, cvt_8w, bin_add64, bin_mul64, bin_sub64, bin_and51, bin_and32, bin_and1, bin_and8_1, bin_or64, bin_xor64, bin_or8, bin_shl64, bin_shl64j, bin_shr64, bin_shr64j, bin_shl8j, bin_shr8j, bin_quo64, bin_rem64, bin_quo32, bin_rem32, bin_addj, bin_subj, bin_quoj, bin_remj, bin_eqlj, bin_neqj, bin_lssj, bin_leqj, bin_gtrj, bin_geqj, bin_eql64, bin_lss64, bin_gtr64, bin_eql8, bin_rem8, lst_len, lst_at, lst_get, lst_getD, bin_and8, g1]; exact rfl) ?_
  refine wp_sr (by simp [runPre, AOp.ex, AOp.ex0, ex_mov, ex_bin, binA_lit, ex_cvt, ex_iaddrA, ex_iaddrS, ex_faddr, ex_load, ldA, ex_ext, ex_add64, add64A_un, ex_pick, ex_beq, ex_un, ex_len, lenA_sl, lenA_nil, lenA_str, lenA_own, lenRow_row, elA_own, elA_sl, elRow_row, ex_nilc, ex_build, ex_bslice, ex_fieldv, AOp.ro, AS.ev, AS.put, AS.fieldAddr, idxA_ptr, idxA_cptr, AS.peek, AS.poke, AS.blk, AS.setBlk, AV.nav, AV.upd, Blk.loc, Blk.cont, Blk.n, Blk.may, Blk.upd, AV.isAgg, AV.isTup, AV.sz, unVal, ownOk, fillAV, AV.sub, cvt_64j, cvt_64b, cvt_64w, cvt_8u, cvt_8w, bin_add64, bin_mul64, bin_sub64, bin_and51, bin_and32, bin_and1, bin_and8_1, bin_or64, bin_xor64, bin_or8, bin_shl64, bin_shl64j, bin_shr64, bin_shr64j, bin_shl8j, bin_shr8j, bin_quo64, bin_rem64, bin_quo32, bin_rem32, bin_addj, bin_subj, bin_quoj, bin_remj, bin_eqlj, bin_neqj, bin_lssj, bin_leqj, bin_gtrj, bin_geqj, bin_eql64, bin_lss64, bin_gtr64, bin_eql8, bin_rem8, lst_len, lst_at, lst_get, lst_getD, bin_and8, bin_xor8, g2]; exact rfl) ?_
  refine wp_sg (areg_run 2 (by simp [runPre, AOp.ex, AOp.ex0, ex_mov, ex_bin, binA_lit, ex_cvt, ex_iaddrA, ex_iaddrS, ex_faddr, ex_load, ldA, ex_ext, ex_add64, add64A_un, ex_pick, ex_beq, ex_un, ex_len, lenA_sl, lenA_nil, lenA_str, lenA_own, lenRow_row, elA_own, elA_sl, elRow_row, ex_nilc, ex_build, ex_bslice, ex_fieldv, AOp.ro, AS.ev, AS.put, AS.fieldAddr, idxA_ptr, idxA_cptr, AS.peek, AS.poke, AS.blk, AS.setBlk, AV.nav, AV.upd, Blk.loc, Blk.cont, Blk.n, Blk.may, Blk.upd, AV.isAgg, AV.isTup, AV.sz, unVal, ownOk, fillAV, AV.sub, cvt_64j, cvt_64b, cvt_64w, cvt_8u, cvt_8w, bin_add64, bin_mul64, bin_sub64, bin_and51, bin_and32, bin_and1, bin_and8_1, bin_or64, bin_xor64, bin_or8, bin_shl64, bin_shl64j, bin_shr64, bin_shr64j, bin_shl8j, bin_shr8j, bin_quo64, bin_rem64, bin_quo32, bin_rem32, bin_addj, bin_subj, bin_quoj, bin_remj, bin_eqlj, bin_neqj, bin_lssj, bin_leqj, bin_gtrj, bin_geqj, bin_eql64, bin_lss64, bin_gtr64, bin_eql8, bin_rem8, lst_len]; exact rfl) ?_)
  refine areg_ca (by simp [AS.ev, AS.coe, AS.put] <;> exact rfl) c1 ?_
  refine areg_run 3 (by simp [runPre, AOp.ex, AOp.ex0, ex_mov, ex_bin, binA_lit, ex_cvt, ex_iaddrA, ex_iaddrS, ex_faddr, ex_load, ldA, ex_ext, ex_add64, add64A_un, ex_pick, ex_beq, ex_un, ex_len, lenA_sl, lenA_nil, lenA_str, lenA_own, lenRow_row, elA_own, elA_sl, elRow_row, ex_nilc, ex_build, ex_bslice, ex_fieldv, AOp.ro, AS.ev, AS.put, AS.fieldAddr, idxA_ptr, idxA_cptr, AS.peek, AS.poke, AS.blk, AS.setBlk, AV.nav, AV.upd, Blk.loc, Blk.cont, Blk.n, Blk.may, Blk.upd, AV.isAgg, AV.isTup, AV.sz, unVal, ownOk, fillAV, AV.sub, cvt_64j, cvt_64b, cvt_64w, cvt_8u, cvt_8w, bin_add64, bin_mul64, bin_sub64, bin_and51, bin_and32, bin_and1, bin_and8_1, bin_or64, bin_xor64, bin_or8, bin_shl64, bin_shl64j, bin_shr64, bin_shr64j, bin_shl8j, bin_shr8j, bin_quo64, bin_rem64, bin_quo32, bin_rem32, bin_addj, bin_subj, bin_quoj, bin_remj, bin_eqlj, bin_neqj, bin_lssj, bin_leqj, bin_gtrj, bin_geqj, bin_eql64, bin_lss64, bin_gtr64, bin_eql8, bin_rem8, lst_len]; exact rfl) ?_
  refine areg_al fun l11 => areg_end (by simp [runPre, AOp.ex, AOp.ex0, ex_mov, ex_bin, binA_lit, ex_cvt, ex_iaddrA, ex_iaddrS, ex_faddr, ex_load, ldA, ex_ext, ex_add64, add64A_un, ex_pick, ex_beq, ex_un, ex_len, lenA_sl, lenA_nil, lenA_str, lenA_own, lenRow_row, elA_own, elA_sl, elRow_row, ex_nilc, ex_build, ex_bslice, ex_fieldv, AOp.ro, AS.ev, AS.put, AS.fieldAddr, idxA_ptr, idxA_cptr, AS.peek, AS.poke, AS.blk, AS.setBlk, AV.nav, AV.upd, Blk.loc, Blk.cont, Blk.n, Blk.may, Blk.upd, AV.isAgg, AV.isTup, AV.sz, unVal, ownOk, fillAV, AV.sub, cvt_64j, cvt_64b, cvt_64w, cvt_8u, cvt_8w, bin_add64, bin_mul64, bin_sub64, bin_and51, bin_and32, bin_and1, bin_and8_1, bin_or64, bin_xor64, bin_or8, bin_shl64, bin_shl64j, bin_shr64, bin_shr64j, bin_shl8j, bin_shr8j, bin_quo64, bin_rem64, bin_quo32, bin_rem32, bin_addj, bin_subj, bin_quoj, bin_remj, bin_eqlj, bin_neqj, bin_lssj, bin_leqj, bin_gtrj, bin_geqj, bin_eql64, bin_lss64, bin_gtr64, bin_eql8, bin_rem8, lst_len]; exact rfl) ?_
  refine wp_sg (areg_run 2 (by simp [runPre, AOp.ex, AOp.ex0, ex_mov, ex_bin, binA_lit, ex_cvt, ex_iaddrA, ex_iaddrS, ex_faddr, ex_load, ldA, ex_ext, ex_add64, add64A_un, ex_pick, ex_beq, ex_un, ex_len, lenA_sl, lenA_nil, lenA_str, lenA_own, lenRow_row, elA_own, elA_sl, elRow_row, ex_nilc, ex_build, ex_bslice, ex_fieldv, AOp.ro, AS.ev, AS.put, AS.fieldAddr, idxA_ptr, idxA_cptr, AS.peek, AS.poke, AS.blk, AS.setBlk, AV.nav, AV.upd, Blk.loc, Blk.cont, Blk.n, Blk.may, Blk.upd, AV.isAgg, AV.isTup, AV.sz, unVal, ownOk, fillAV, AV.sub, cvt_64j, cvt_64b, cvt_64w, cvt_8u, cvt_8w, bin_add64, bin_mul64, bin_sub64, bin_and51, bin_and32, bin_and1, bin_and8_1, bin_or64, bin_xor64, bin_or8, bin_shl64, bin_shl64j, bin_shr64, bin_shr64j, bin_shl8j, bin_shr8j, bin_quo64, bin_rem64, bin_quo32, bin_rem32, bin_addj, bin_subj, bin_quoj, bin_remj, bin_eqlj, bin_neqj, bin_lssj, bin_leqj, bin_gtrj, bin_geqj, bin_eql64, bin_lss64, bin_gtr64, bin_eql8, bin_rem8, lst_len]; exact rfl) ?_)
  refine areg_ca (by simp [AS.ev, AS.coe, AS.put] <;> exact rfl) c2 ?_
  refine areg_run 3 (by simp [runPre, AOp.ex, AOp.ex0, ex_mov, ex_bin, binA_lit, ex_cvt, ex_iaddrA, ex_iaddrS, ex_faddr, ex_load, ldA, ex_ext, ex_add64, add64A_un, ex_pick, ex_beq, ex_un, ex_len, lenA_sl, lenA_nil, lenA_str, lenA_own, lenRow_row, elA_own, elA_sl, elRow_row, ex_nilc, ex_build, ex_bslice, ex_fieldv, AOp.ro, AS.ev, AS.put, AS.fieldAddr, idxA_ptr, idxA_cptr, AS.peek, AS.poke, AS.blk, AS.setBlk, AV.nav, AV.upd, Blk.loc, Blk.cont, Blk.n, Blk.may, Blk.upd, AV.isAgg, AV.isTup, AV.sz, unVal, ownOk, fillAV, AV.sub, cvt_64j, cvt_64b, cvt_64w, cvt_8u, cvt_8w, bin_add64, bin_mul64, bin_sub64, bin_and51, bin_and32, bin_and1, bin_and8_1, bin_or64, bin_xor64, bin_or8, bin_shl64, bin_shl64j, bin_shr64, bin_shr64j, bin_shl8j, bin_shr8j, bin_quo64, bin_rem64, bin_quo32, bin_rem32, bin_addj, bin_subj, bin_quoj, bin_remj, bin_eqlj, bin_neqj, bin_lssj, bin_leqj, bin_gtrj, bin_geqj, bin_eql64, bin_lss64, bin_gtr64, bin_eql8, bin_rem8, lst_len]; exact rfl) ?_
  refine areg_al fun l13 => areg_end (by simp [runPre, AOp.ex, AOp.ex0, ex_mov, ex_bin, binA_lit, ex_cvt, ex_iaddrA, ex_iaddrS, ex_faddr, ex_load, ldA, ex_ext, ex_add64, add64A_un, ex_pick, ex_beq, ex_un, ex_len, lenA_sl, lenA_nil, lenA_str, lenA_own, lenRow_row, elA_own, elA_sl, elRow_row, ex_nilc, ex_build, ex_bslice, ex_fieldv, AOp.ro, AS.ev, AS.put, AS.fieldAddr, idxA_ptr, idxA_cptr, AS.peek, AS.poke, AS.blk, AS.setBlk, AV.nav, AV.upd, Blk.loc, Blk.cont, Blk.n, Blk.may, Blk.upd, AV.isAgg, AV.isTup, AV.sz, unVal, ownOk, fillAV, AV.sub, cvt_64j, cvt_64b, cvt_64w, cvt_8u, cvt_8w, bin_add64, bin_mul64, bin_sub64, bin_and51, bin_and32, bin_and1, bin_and8_1, bin_or64, bin_xor64, bin_or8, bin_shl64, bin_shl64j, bin_shr64, bin_shr64j, bin_shl8j, bin_shr8j, bin_quo64, bin_rem64, bin_quo32, bin_rem32, bin_addj, bin_subj, bin_quoj, bin_remj, bin_eqlj, bin_neqj, bin_lssj, bin_leqj, bin_gtrj, bin_geqj, bin_eql64, bin_lss64, bin_gtr64, bin_eql8, bin_rem8, lst_len]; exact rfl) ?_
  refine wp_sg (areg_cv (by simp) hal ?_)
  refine areg_run 3 (by simp [runPre, AOp.ex, AOp.ex0, ex_mov, ex_bin, binA_lit, ex_cvt, ex_iaddrA, ex_iaddrS, ex_faddr, ex_load, ldA, ex_ext, ex_add64, add64A_un, ex_pick, ex_beq, ex_un, ex_len, lenA_sl, lenA_nil, lenA_str, lenA_own, lenRow_row, elA_own, elA_sl, elRow_row, ex_nilc, ex_build, ex_bslice, ex_fieldv, AOp.ro, AS.ev, AS.put, AS.fieldAddr, idxA_ptr, idxA_cptr, AS.peek, AS.poke, AS.blk, AS.setBlk, AV.nav, AV.upd, Blk.loc, Blk.cont, Blk.n, Blk.may, Blk.upd, AV.isAgg, AV.isTup, AV.sz, unVal, ownOk, fillAV, AV.sub, cvt_64j, cvt_64b, cvt_64w, cvt_8u, cvt_8w, bin_add64, bin_mul64, bin_sub64, bin_and51, bin_and32, bin_and1, bin_and8_1, bin_or64, bin_xor64, bin_or8, bin_shl64, bin_shl64j, bin_shr64, bin_shr64j, bin_shl8j, bin_shr8j, bin_quo64, bin_rem64, bin_quo32, bin_rem32, bin_addj, bin_subj, bin_quoj, bin_remj, bin_eqlj, bin_neqj, bin_lssj, bin_leqj, bin_gtrj, bin_geqj, bin_eql64, bin_lss64, bin_gtr64, bin_eql8, bin_rem8, lst_len]; exact rfl) ?_
  refine areg_g (by simp [AS.ev]) (areg_eq (by simp [AS.ev] <;> exact rfl) (by simp [AS.ev] <;> exact rfl) e rfl rfl ?_)
  refine areg_run 8 (by simp [runPre, AOp.ex, AOp.ex0, ex_mov, ex_bin, binA_lit, ex_cvt, ex_iaddrA, ex_iaddrS, ex_faddr, ex_load, ldA, ex_ext, ex_add64, add64A_un, ex_pick, ex_beq, ex_un, ex_len, lenA_sl, lenA_nil, lenA_str, lenA_own, lenRow_row, elA_own, elA_sl, elRow_row, ex_nilc, ex_build, ex_bslice, ex_fieldv, AOp.ro, AS.ev, AS.put, AS.fieldAddr, idxA_ptr, idxA_cptr, AS.peek, AS.poke, AS.blk, AS.setBlk, AV.nav, AV.upd, Blk.loc, Blk.cont, Blk.n, Blk.may, Blk.upd, AV.isAgg, AV.isTup, AV.sz, unVal, ownOk, fillAV, AV.sub, cvt_64j, cvt_64b, cvt_64w, cvt_8u, cvt_8w, bin_add64, bin_mul64, bin_sub64, bin_and51, bin_and32, bin_and1, bin_and8_1, bin_or64, bin_xor64, bin_or8, bin_shl64, bin_shl64j, bin_shr64, bin_shr64j, bin_shl8j, bin_shr8j, bin_quo64, bin_rem64, bin_quo32, bin_rem32, bin_addj, bin_subj, bin_quoj, bin_remj, bin_eqlj, bin_neqj, bin_lssj, bin_leqj, bin_gtrj, bin_geqj, bin_eql64, bin_lss64, bin_gtr64, bin_eql8, bin_rem8, lst_len]; exact rfl) ?_
  refine areg_g (by simp [AS.ev, AS.put]) (areg_cv (by simp [AS.ev, AS.coe, AS.put] <;> exact rfl) c3 ?_)
  refine areg_run 1 (by simp [runPre, AOp.ex, AOp.ex0, ex_mov, ex_bin, binA_lit, ex_cvt, ex_iaddrA, ex_iaddrS, ex_faddr, ex_load, ldA, ex_ext, ex_add64, add64A_un, ex_pick, ex_beq, ex_un, ex_len, lenA_sl, lenA_nil, lenA_str, lenA_own, lenRow_row, elA_own, elA_sl, elRow_row, ex_nilc, ex_build, ex_bslice, ex_fieldv, AOp.ro, AS.ev, AS.put, AS.fieldAddr, idxA_ptr, idxA_cptr, AS.peek, AS.poke, AS.blk, AS.setBlk, AV.nav, AV.upd, Blk.loc, Blk.cont, Blk.n, Blk.may, Blk.upd, AV.isAgg, AV.isTup, AV.sz, unVal, ownOk, fillAV, AV.sub, cvt_64j, cvt_64b, cvt_64w, cvt_8u, cvt_8w, bin_add64, bin_mul64, bin_sub64, bin_and51, bin_and32, bin_and1, bin_and8_1, bin_or64, bin_xor64, bin_or8, bin_shl64, bin_shl64j, bin_shr64, bin_shr64j, bin_shl8j, bin_shr8j, bin_quo64, bin_rem64, bin_quo32, bin_rem32, bin_addj, bin_subj, bin_quoj, bin_remj, bin_eqlj, bin_neqj, bin_lssj, bin_leqj, bin_gtrj, bin_geqj, bin_eql64, bin_lss64, bin_gtr64, bin_eql8, bin_rem8, lst_len]; exact rfl) ?_
  refine areg_g (by simp [AS.ev, AS.put]) (areg_cv (by simp [AS.ev, AS.coe, AS.put] <;> exact rfl) c4 ?_)
  refine areg_g (by simp [AS.ev, AS.put]) (areg_eq (by simp [AS.ev, AS.put] <;> exact rfl) (by simp [AS.ev, AS.put] <;> exact rfl) e2 rfl rfl ?_)
  refine areg_end (by simp [runPre, AOp.ex, AOp.ex0, ex_mov, ex_bin, binA_lit, ex_cvt, ex_iaddrA, ex_iaddrS, ex_faddr, ex_load, ldA, ex_ext, ex_add64, add64A_un, ex_pick, ex_beq, ex_un, ex_len, lenA_sl, lenA_nil, lenA_str, lenA_own, lenRow_row, elA_own, elA_sl, elRow_row, ex_nilc, ex_build, ex_bslice, ex_fieldv, AOp.ro, AS.ev, AS.put, AS.fieldAddr, idxA_ptr, idxA_cptr, AS.peek, AS.poke, AS.blk, AS.setBlk, AV.nav, AV.upd, Blk.loc, Blk.cont, Blk.n, Blk.may, Blk.upd, AV.isAgg, AV.isTup, AV.sz, unVal, ownOk, fillAV, AV.sub, cvt_64j, cvt_64b, cvt_64w, cvt_8u, cvt_8w, bin_add64, bin_mul64, bin_sub64, bin_and51, bin_and32, bin_and1, bin_and8_1, bin_or64, bin_xor64, bin_or8, bin_shl64, bin_shl64j, bin_shr64, bin_shr64j, bin_shl8j, bin_shr8j, bin_quo64, bin_rem64, bin_quo32, bin_rem32, bin_addj, bin_subj, bin_quoj, bin_remj, bin_eqlj, bin_neqj, bin_lssj, bin_leqj, bin_gtrj, bin_geqj, bin_eql64, bin_lss64, bin_gtr64, bin_eql8, bin_rem8]; exact rfl) ?_
  repeat (first | (with_reducible apply wp_sr); focus (simp [runPre, AOp.ex, AOp.ex0, ex_mov, ex_bin, binA_lit, ex_cvt, ex_iaddrA, ex_iaddrS, ex_faddr, ex_load, ldA, ex_ext, ex_add64, add64A_un, ex_pick, ex_beq, ex_un, ex_len, lenA_sl, lenA_nil, lenA_str, lenA_own, lenRow_row, elA_own, elA_sl, elRow_row, ex_nilc, ex_build, ex_bslice, ex_fieldv, AOp.ro, AS.ev, AS.put, AS.fieldAddr, idxA_ptr, idxA_cptr, AS.peek, AS.poke, AS.blk, AS.setBlk, AV.nav, AV.upd, Blk.loc, Blk.cont, Blk.n, Blk.may, Blk.upd, AV.isAgg, AV.isTup, AV.sz, unVal, ownOk, fillAV, AV.sub, cvt_64j, cvt_64b, cvt_64w, cvt_8u, cvt_8w, bin_add64, bin_mul64, bin_sub64, bin_and51, bin_and32, bin_and1, bin_and8_1, bin_or64, bin_xor64, bin_or8, bin_shl64, bin_shl64j, bin_shr64, bin_shr64j, bin_shl8j, bin_shr8j, bin_quo64, bin_rem64, bin_quo32, bin_rem32, bin_addj, bin_subj, bin_quoj, bin_remj, bin_eqlj, bin_neqj, bin_lssj, bin_leqj, bin_gtrj, bin_geqj, bin_eql64, bin_lss64, bin_gtr64, bin_eql8, bin_rem8]; exact rfl) | (with_reducible apply wp_r); focus (simp [runPre, AOp.ex, AOp.ex0, ex_mov, ex_bin, binA_lit, ex_cvt, ex_iaddrA, ex_iaddrS, ex_faddr, ex_load, ldA, ex_ext, ex_add64, add64A_un, ex_pick, ex_beq, ex_un, ex_len, lenA_sl, lenA_nil, lenA_str, lenA_own, lenRow_row, elA_own, elA_sl, elRow_row, ex_nilc, ex_build, ex_bslice, ex_fieldv, AOp.ro, AS.ev, AS.put, AS.fieldAddr, idxA_ptr, idxA_cptr, AS.peek, AS.poke, AS.blk, AS.setBlk, AV.nav, AV.upd, Blk.loc, Blk.cont, Blk.n, Blk.may, Blk.upd, AV.isAgg, AV.isTup, AV.sz, unVal, ownOk, fillAV, AV.sub, cvt_64j, cvt_64b, cvt_64w, cvt_8u, cvt_8w, bin_add64, bin_mul64, bin_sub64, bin_and51, bin_and32, bin_and1, bin_and8_1, bin_or64, bin_xor64, bin_or8, bin_shl64, bin_shl64j, bin_shr64, bin_shr64j, bin_shl8j, bin_shr8j, bin_quo64, bin_rem64, bin_quo32, bin_rem32, bin_addj, bin_subj, bin_quoj, bin_remj, bin_eqlj, bin_neqj, bin_lssj, bin_leqj, bin_gtrj, bin_geqj, bin_eql64, bin_lss64, bin_gtr64, bin_eql8, bin_rem8]; exact rfl) | (with_reducible refine wp_seq' (wp_cond_t ?_ ?_)); focus (simp [AS.ev]; done) | (with_reducible refine wp_seq' (wp_cond_f ?_ ?_)); focus (simp [AS.ev]; done) | (with_reducible refine wp_cond_t ?_ ?_); focus (simp [AS.ev]; done) | (with_reducible refine wp_cond_f ?_ ?_); focus (simp [AS.ev]; done) | with_reducible refine wp_seq' ?_ | with_reducible refine wp_block' ?_ | with_reducible refine wp_skip' ?_ | with_reducible refine wp_exit' ?_ | with_reducible refine wp_ret' ?_ | with_reducible refine if_hit rfl ?_ | with_reducible refine loopN_succ ?_)
  refine fin_tmp (by simp [RVal, AS.coe, tt, AS.ev]) (by simp)
end Go.Cab

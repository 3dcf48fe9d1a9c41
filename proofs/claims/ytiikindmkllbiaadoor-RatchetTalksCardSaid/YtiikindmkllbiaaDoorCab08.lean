/- Part 8 of what the proof stands on: G21, G22, G23, G24. -/
import Derived.Test.YtiikindmkllbiaaDoorCab07
set_option linter.unusedSimpArgs false
set_option linter.unnecessarySimpa false
set_option linter.unusedVariables false
set_option linter.unusedSectionVars false
namespace Go.Cab
open Classical
def fb428 : AC := (.seq (.reg [⟨some 3, none, .box 32 (.tmp 1), [], none⟩, ⟨some 4, none, .mov (.const (.bool false)), [], none⟩]) (.seq (.reg [⟨some 6, none, .mov (.tmp 0), [], none⟩, ⟨some 7, none, .nilc (.tmp 6), [], none⟩, ⟨some 8, none, .faddr 0 0 (.tmp 7), [], none⟩, ⟨some 9, none, .load false 1 (.tmp 8), [], none⟩, ⟨some 10, none, .load true 32 (.tmp 3), [], none⟩, ⟨some 11, none, .xc (.dir 36) [.tmp 9, .tmp 10] [] [], [], none⟩, ⟨some 5, none, .mov (.tmp 11), [], none⟩]) (.seq (.reg [⟨some 12, none, .mov (.tmp 5), [], none⟩, ⟨some 13, none, .bin .geq (.tmp 12) (.const (jn 0)), [], none⟩, ⟨some 14, none, .mov (.tmp 13), [], none⟩, ⟨some 15, some (14, true), .mov (.tmp 0), [], none⟩, ⟨some 16, some (14, true), .nilc (.tmp 15), [], none⟩, ⟨some 17, some (14, true), .faddr 1 1 (.tmp 16), [], none⟩, ⟨some 18, some (14, true), .load false 1 (.tmp 17), [], none⟩, ⟨some 19, some (14, true), .mov (.tmp 5), [], none⟩, ⟨some 20, some (14, true), .iaddrS 1 (.tmp 18) (.tmp 19), [], none⟩, ⟨some 21, some (14, true), .load false 1 (.tmp 20), [], none⟩, ⟨some 22, none, .pick (.tmp 14) (.tmp 21) (.const (.bool false)), [], none⟩, ⟨some 23, none, .mov (.tmp 22), [], none⟩, ⟨some 24, some (23, false), .mov (.tmp 5), [], none⟩, ⟨some 25, some (23, false), .bin .lss (.tmp 24) (.const (jn 0)), [], none⟩, ⟨some 26, some (23, false), .mov (.tmp 25), [], none⟩, ⟨some 27, some (26, true), .load true 32 (.tmp 3), [], none⟩, ⟨some 28, some (26, true), .call 38 [.tmp 27], [], none⟩, ⟨some 29, some (26, true), .un .not (.tmp 28), [], none⟩, ⟨some 30, some (23, false), .pick (.tmp 26) (.tmp 29) (.const (.bool false)), [], none⟩, ⟨some 31, none, .pick (.tmp 23) (.const (.bool true)) (.tmp 30), [], none⟩, ⟨some 4, none, .mov (.tmp 31), [], none⟩]) .ret)))
def fc428 : FC := ⟨2, 32, [(.tmp 4)], fb428⟩
theorem fc428_eq : compF Go.Proofs.Tryd.prog 30 = some fc428 := by kernel_rfl
def fb433 : AC := (.seq (.reg [⟨some 1, none, .box 32 (.tmp 0), [], none⟩, ⟨some 2, none, .mov (.const (.bool false)), [], none⟩]) (.seq (.reg [⟨some 3, none, .iaddrA 32 1 (.tmp 1) (.const (jn 4)), [], none⟩, ⟨some 4, none, .load false 1 (.tmp 3), [], none⟩, ⟨some 5, none, .cvt .i64 (.tmp 4), [], none⟩, ⟨some 6, none, .bin .shl (.tmp 5) (.const (un 24)), [], none⟩, ⟨some 7, none, .iaddrA 32 1 (.tmp 1) (.const (jn 5)), [], none⟩, ⟨some 8, none, .load false 1 (.tmp 7), [], none⟩, ⟨some 9, none, .cvt .i64 (.tmp 8), [], none⟩, ⟨some 10, none, .bin .shl (.tmp 9) (.const (un 16)), [], none⟩, ⟨some 11, none, .bin .or (.tmp 6) (.tmp 10), [], none⟩, ⟨some 12, none, .iaddrA 32 1 (.tmp 1) (.const (jn 6)), [], none⟩, ⟨some 13, none, .load false 1 (.tmp 12), [], none⟩, ⟨some 14, none, .cvt .i64 (.tmp 13), [], none⟩, ⟨some 15, none, .bin .shl (.tmp 14) (.const (un 8)), [], none⟩, ⟨some 16, none, .bin .or (.tmp 11) (.tmp 15), [], none⟩, ⟨some 17, none, .iaddrA 32 1 (.tmp 1) (.const (jn 7)), [], none⟩, ⟨some 18, none, .load false 1 (.tmp 17), [], none⟩, ⟨some 19, none, .cvt .i64 (.tmp 18), [], none⟩, ⟨some 20, none, .bin .or (.tmp 16) (.tmp 19), [], none⟩, ⟨some 21, none, .callv 33 [.tmp 20], [], none⟩, ⟨some 22, none, .load true 32 (.tmp 1), [], none⟩, ⟨some 23, none, .eqv 29 false (.tmp 21) (.tmp 22), [], none⟩, ⟨some 2, none, .mov (.tmp 23), [], none⟩]) .ret))
def fc433 : FC := ⟨1, 24, [(.tmp 2)], fb433⟩
theorem fc433_eq : compF Go.Proofs.Tryd.prog 38 = some fc433 := by kernel_rfl
def LenX (H : List (Option Blk)) (x : AV) (n : Nat) : Prop :=
  (∃ j V els sl, x = .own j V ∧ H[j]? = some (some (.row 100 V 3 els sl)) ∧ els.length = n) ∨ (∃ b l off p lo cap, x = .view b l off p 3 lo n cap) ∨ (x = .lit (.slice none 0 0) ∧ n = 0)
def TabX (H : List (Option Blk)) (b : Nat) (l : Nat × Nat) (n : Nat) : Prop := ∃ x y, H[b]? = some (some (.box l 2 (.st [1, 1] [x, y]))) ∧ LenX H x n
theorem LenX.app {H L : List (Option Blk)} {x : AV} {n : Nat} (h : LenX H x n) : LenX (H ++ L) x n := by
  rcases h with ⟨j, V, els, sl, h1, h2, h3⟩ | h | h
  · exact .inl ⟨j, V, els, sl, h1, by rw [List.getElem?_append_left (List.getElem?_eq_some_iff.1 h2).1]; exact h2, h3⟩
  · exact .inr (.inl h)
  · exact .inr (.inr h)
theorem TabX.app {H L : List (Option Blk)} {b : Nat} {l : Nat × Nat} {n : Nat} (h : TabX H b l n) : TabX (H ++ L) b l n := by
  obtain ⟨x, y, h1, h2⟩ := h
  exact ⟨x, y, by rw [List.getElem?_append_left (List.getElem?_eq_some_iff.1 h1).1]; exact h1, h2.app⟩
theorem TbOk.tabX {H : List (Option Blk)} {t : Tb} {V : Value} {ts : List Term} (h : TbOk H t V ts) : TabX H t.b t.l ts.length := ⟨_, _, h.hb, .inl ⟨_, _, _, _, rfl, h.hj, by simp⟩⟩
theorem lenA_view (s : AS) (ro : Nat → Bool) (b : Nat) (l : Nat × Nat) (off : Nat) (p : List Nat) (esz lo len cap : Nat) : lenA s ro false (.view b l off p esz lo len cap) = some (.lit (jn len)) := rfl
theorem LenX.len {H : List (Option Blk)} {x : AV} {n : Nat} (h : LenX H x n) (s : AS) (ro : Nat → Bool) (hr : ∀ j V, x = .own j V → ro j = true) (hs : ∀ j y, H[j]? = some (some y) → s.blk j = some y) : lenA s ro false x = some (.lit (jn n)) := by
  rcases h with ⟨j, V, els, sl, rfl, h2, rfl⟩ | ⟨b, l, off, p, lo, cap, rfl⟩ | ⟨rfl, rfl⟩
  · rw [lenA_own, hr j V rfl, if_pos rfl, hs j _ h2]
    simp [lenRow]
  · rfl
  · rfl
theorem LenX.one {H : List (Option Blk)} {x : AV} {n : Nat} (h : LenX H x n) : x.isTup = false ∧ x.sz = 1 ∧ x.isAgg = false := by
  rcases h with ⟨j, V, els, sl, rfl, h2, rfl⟩ | ⟨b, l, off, p, lo, cap, rfl⟩ | ⟨rfl, rfl⟩ <;> exact ⟨rfl, rfl, rfl⟩
theorem areg_len {P : Program} {s : AS} {K : AS → Prop} {xs : List AOp} {d : Option Tmp} {x : Operand} {fo : List Tmp} {v r : AV} {str : Bool} (hx : s.ev x = v) (hl : lenA s (AOp.ro ⟨d, none, .len str x, fo, none⟩ s.nr) str v = some r) (h : AReg P xs (s.put d r) K) :
    AReg P (⟨d, none, .len str x, fo, none⟩ :: xs) s K := by
  subst hx
  refine AOp.ex_go (s' := s.put d r) ?_ h
  simp only [AOp.ex, AOp.ex0, AOp.mineB, if_true, ex_len, hl, Option.map_some]
set_option maxHeartbeats 8000000 in
theorem numX_call {H : List (Option Blk)} {tb : Nat} {tl : Nat × Nat} {n : Nat} (hh : TabX H tb tl n) (hn : n < 100000) {k : List UInt8} (hk : k.length = 32) :
    XCall Go.Proofs.Tryd.prog 36 [.ptr tb tl 0 [], keyA k] H fun r H' => r = .lit (numV n k) ∧ H' = H := by
  have h431 := fc431_eq
  refine XCall.le ?_
  have c1 := name_call (be32 k) (by have := be32_lt k; omega)
  obtain ⟨x, y, hx, hlx⟩ := hh
  have lb := (List.getElem?_eq_some_iff.1 hx).1
  refine XCall.of h431 rfl ?_; show AC.wp _ fb431 ⟨H.length, [.ptr tb tl 0 [], keyA k] ++ List.replicate (38 - 2) .any, H ++ List.replicate 38 none⟩ (fun x s => match x with | .exit _ => False | _ => ∃ s1, Le s s1 ∧ FinX [(.tmp 4)] s1 _); unfold fb431
  generalize hN : H.length = N at *
  have q1 : ∀ L k, (H ++ L)[N + k]? = L[k]? := fun L k => cat1 N H L k hN
  have q2 : ∀ L k x, (H ++ L).set (N + k) x = H ++ L.set k x := fun L k x => cat2 N H L k x hN
  have q3 : ∀ L, (H ++ L)[tb]? = some (some (.box tl 2 (.st [1, 1] [x, y]))) := fun L => by rw [cat4 N H L _ hN lb]; exact hx
  obtain ⟨x1, x2, x3⟩ := hlx.one
  refine wp_sg (areg_bx rfl (by simp [AS.ev, keyA, AV.sz, bl, hk]) fun l => areg_end (by simp [push_cast, q2]; exact rfl) ?_)
  have k4 := key_at hk 4 (by decide); have k5 := key_at hk 5 (by decide); have k6 := key_at hk 6 (by decide); have k7 := key_at hk 7 (by decide)
  have hbe : be32 k = be32 k := rfl
  conv at hbe => rhs; unfold be32
  have b4 := (k.getD 4 0).toNat_lt; have b5 := (k.getD 5 0).toNat_lt; have b6 := (k.getD 6 0).toNat_lt; have b7 := (k.getD 7 0).toNat_lt
  generalize (k.getD 4 0).toNat = a4 at *
  generalize (k.getD 5 0).toNat = a5 at *
  generalize (k.getD 6 0).toNat = a6 at *
  generalize (k.getD 7 0).toNat = a7 at *
  have e4 : ∀ h, (bl k)[4]'h = .lit (bn a4) := fun h => by rw [List.getElem?_eq_getElem h] at k4; exact Option.some.inj k4
  have e5 : ∀ h, (bl k)[5]'h = .lit (bn a5) := fun h => by rw [List.getElem?_eq_getElem h] at k5; exact Option.some.inj k5
  have e6 : ∀ h, (bl k)[6]'h = .lit (bn a6) := fun h => by rw [List.getElem?_eq_getElem h] at k6; exact Option.some.inj k6
  have e7 : ∀ h, (bl k)[7]'h = .lit (bn a7) := fun h => by rw [List.getElem?_eq_getElem h] at k7; exact Option.some.inj k7
  have o1 : binVal .or (jn (a4 * 16777216)) (jn (a5 * 65536)) = some (jn (a4 * 16777216 + a5 * 65536)) := by
    rw [bin_oraj _ _ (by omega) (by omega)]
    exact congrArg (fun x => some (jn x)) (or_add a4 (a5 * 65536) 24 (by omega))
  have o2 : binVal .or (jn (a4 * 16777216 + a5 * 65536)) (jn (a6 * 256)) = some (jn (a4 * 16777216 + a5 * 65536 + a6 * 256)) := by
    rw [bin_oraj _ _ (by omega) (by omega)]
    have := or_add (a4 * 256 + a5) (a6 * 256) 16 (by omega)
    have e : (a4 * 256 + a5) * 2 ^ 16 = a4 * 16777216 + a5 * 65536 := by omega
    rw [e] at this
    rw [this]
  have o3 : binVal .or (jn (a4 * 16777216 + a5 * 65536 + a6 * 256)) (jn a7) = some (jn (be32 k)) := by
    rw [bin_oraj _ _ (by omega) (by omega)]
    have := or_add (a4 * 65536 + a5 * 256 + a6) a7 8 (by omega)
    have e : (a4 * 65536 + a5 * 256 + a6) * 2 ^ 8 = a4 * 16777216 + a5 * 65536 + a6 * 256 := by omega
    rw [e] at this
    rw [this, hbe]
  have s1 : binVal .shl (jn a4) (un 24) = some (jn (a4 * 16777216)) := bin_shlju a4 24 (by show a4 * 16777216 < _; omega)
  have s2 : binVal .shl (jn a5) (un 16) = some (jn (a5 * 65536)) := bin_shlju a5 16 (by show a5 * 65536 < _; omega)
  have s3 : binVal .shl (jn a6) (un 8) = some (jn (a6 * 256)) := bin_shlju a6 8 (by show a6 * 256 < _; omega)
  have v4 := cvt_j8 a4 b4; have v5 := cvt_j8 a5 b5; have v6 := cvt_j8 a6 b6; have v7 := cvt_j8 a7 b7
  refine wp_sr (by simp [push_cast, q1, k4, k5, k6, k7, e4, e5, e6, e7, o1, o2, o3, s1, s2, s3, v4, v5, v6, v7]; exact rfl) ?_
  have hnum : ∀ b : Bool, b = decide (n ≤ be32 k ∨ nameK (be32 k) ≠ k) → numV n k = if b then .int .i64 (-1) else jn (be32 k) := fun b e => by
    unfold numV
    subst e
    by_cases h : n ≤ be32 k ∨ nameK (be32 k) ≠ k
    · rw [if_pos h, if_pos (by simpa using h)]
    · rw [if_neg h, if_neg (by simpa using h)]
  refine wp_seq' (wp_seq' (wp_rg ?_))
  have efin : ∀ (b : Bool) (R : List (Option Blk)) (s : AS), b = decide (n ≤ be32 k ∨ nameK (be32 k) ≠ k) → RVal s (.tmp 4) = some (.lit (if b then .int .i64 (-1) else jn (be32 k))) → s.hp = H ++ R → ∃ s1, Le s s1 ∧ FinX [RV.tmp 4] s1 fun r H' => ∃ r' A, RelLe r r' ∧ r' ≠ .any ∧ HpLe H' A ∧ r' = .lit (numV n k) ∧ A = H := fun b R s e hr hR =>
    ⟨s, Le.refl _, finX1 hr (by simp) ⟨_, H, RelLe.refl _, by simp, by rw [hR]; exact HpLe.trim _ _, by rw [hnum b e], rfl⟩⟩
  have hlen : ∀ (L : List (Option Blk)) (tm : List AV) (ro : Nat → Bool), (∀ j V, x = .own j V → ro j = true) → lenA ⟨N, tm, H ++ L⟩ ro false x = some (.lit (jn n)) := fun L tm ro hr =>
    hlx.len _ _ hr (fun j y hy => by simp only [AS.blk]; rw [cat4 N H L j hN (by have := (List.getElem?_eq_some_iff.1 hy).1; omega), hy]; rfl)
  have hlx2 := hlx
  rcases hlx2 with ⟨j, V, els, sl, rfl, _, _⟩ | ⟨b, l, off, p, lo, cap, rfl⟩ | ⟨rfl, _⟩
  all_goals
    refine areg_run 5 (by simp [push_cast, q1, q3]; exact rfl) ?_
    refine areg_len rfl (hlen _ _ _ (fun j V _ => rfl)) ?_
    by_cases hle : n ≤ be32 k
    · refine areg_end (by simp [push_cast, q1, q3, hle]; exact rfl) ?_
      refine wp_cond_t rfl ?_
      refine wp_sr (by simp [push_cast]; exact rfl) (wp_ret' ?_)
      exact efin true _ _ (by simp [hle]) rfl rfl
    · refine areg_run 3 (by simp [push_cast, q1, q3, hle]; exact rfl) ?_
      refine areg_g (by simp [AS.ev, AS.put]) (areg_cv (by simp [AS.ev, AS.coe, AS.put] <;> exact rfl) c1 ?_)
      refine areg_run 1 (by simp [push_cast, q1]; exact rfl) ?_
      have e1 := eq_key (nameK_len (be32 k)) hk
      refine areg_g (by simp [AS.ev, AS.put]) (areg_eq (by simp [AS.ev, AS.put] <;> exact rfl) (by simp [AS.ev, AS.put] <;> exact rfl) e1 rfl rfl ?_)
      by_cases hne : nameK (be32 k) = k
      · refine areg_end (by simp [push_cast, hne]; exact rfl) ?_
        refine wp_cond_f rfl (wp_skip' (wp_sr (by simp [push_cast]; exact rfl) (wp_ret' ?_)))
        exact efin false _ _ (by simp [hle, hne]) rfl rfl
      · refine areg_end (by simp [push_cast, hne]; exact rfl) ?_
        refine wp_cond_t rfl ?_
        refine wp_sr (by simp [push_cast]; exact rfl) (wp_ret' ?_)
        exact efin true _ _ (by simp [hle, hne]) rfl rfl
set_option maxHeartbeats 8000000 in
theorem shaped_call {k : List UInt8} (hk : k.length = 32) : PCall Go.Proofs.Tryd.prog 38 [keyA k] (.val (.lit (.bool (decide (nameK (be32 k) = k))))) := by
  have h433 := fc433_eq
  have c1 := name_call (be32 k) (by have := be32_lt k; omega)
  have e1 := eq_key (nameK_len (be32 k)) hk
  refine PCall.of h433 rfl ?_; show AC.wp _ fb433 (AS.init [keyA k] 1 24) (fun x s => match x with | .exit _ => False | _ => Fin [(.tmp 2)] s _); unfold fb433 AS.init
  refine wp_sg (areg_bx rfl (by simp [AS.ev, keyA, AV.sz, bl, hk]) fun l => areg_end (by simp [push_cast]; exact rfl) ?_)
  have k4 := key_at hk 4 (by decide); have k5 := key_at hk 5 (by decide); have k6 := key_at hk 6 (by decide); have k7 := key_at hk 7 (by decide)
  have hbe : be32 k = be32 k := rfl
  conv at hbe => rhs; unfold be32
  have b4 := (k.getD 4 0).toNat_lt; have b5 := (k.getD 5 0).toNat_lt; have b6 := (k.getD 6 0).toNat_lt; have b7 := (k.getD 7 0).toNat_lt
  generalize (k.getD 4 0).toNat = a4 at *
  generalize (k.getD 5 0).toNat = a5 at *
  generalize (k.getD 6 0).toNat = a6 at *
  generalize (k.getD 7 0).toNat = a7 at *
  have e4 : ∀ h, (bl k)[4]'h = .lit (bn a4) := fun h => by rw [List.getElem?_eq_getElem h] at k4; exact Option.some.inj k4
  have e5 : ∀ h, (bl k)[5]'h = .lit (bn a5) := fun h => by rw [List.getElem?_eq_getElem h] at k5; exact Option.some.inj k5
  have e6 : ∀ h, (bl k)[6]'h = .lit (bn a6) := fun h => by rw [List.getElem?_eq_getElem h] at k6; exact Option.some.inj k6
  have e7 : ∀ h, (bl k)[7]'h = .lit (bn a7) := fun h => by rw [List.getElem?_eq_getElem h] at k7; exact Option.some.inj k7
  have o1 : binVal .or (jn (a4 * 16777216)) (jn (a5 * 65536)) = some (jn (a4 * 16777216 + a5 * 65536)) := by
    rw [bin_oraj _ _ (by omega) (by omega)]
    exact congrArg (fun x => some (jn x)) (or_add a4 (a5 * 65536) 24 (by omega))
  have o2 : binVal .or (jn (a4 * 16777216 + a5 * 65536)) (jn (a6 * 256)) = some (jn (a4 * 16777216 + a5 * 65536 + a6 * 256)) := by
    rw [bin_oraj _ _ (by omega) (by omega)]
    have := or_add (a4 * 256 + a5) (a6 * 256) 16 (by omega)
    have e : (a4 * 256 + a5) * 2 ^ 16 = a4 * 16777216 + a5 * 65536 := by omega
    rw [e] at this
    rw [this]
  have o3 : binVal .or (jn (a4 * 16777216 + a5 * 65536 + a6 * 256)) (jn a7) = some (jn (be32 k)) := by
    rw [bin_oraj _ _ (by omega) (by omega)]
    have := or_add (a4 * 65536 + a5 * 256 + a6) a7 8 (by omega)
    have e : (a4 * 65536 + a5 * 256 + a6) * 2 ^ 8 = a4 * 16777216 + a5 * 65536 + a6 * 256 := by omega
    rw [e] at this
    rw [this, hbe]
  have s1 : binVal .shl (jn a4) (un 24) = some (jn (a4 * 16777216)) := bin_shlju a4 24 (by show a4 * 16777216 < _; omega)
  have s2 : binVal .shl (jn a5) (un 16) = some (jn (a5 * 65536)) := bin_shlju a5 16 (by show a5 * 65536 < _; omega)
  have s3 : binVal .shl (jn a6) (un 8) = some (jn (a6 * 256)) := bin_shlju a6 8 (by show a6 * 256 < _; omega)
  have v4 := cvt_j8 a4 b4; have v5 := cvt_j8 a5 b5; have v6 := cvt_j8 a6 b6; have v7 := cvt_j8 a7 b7
  refine wp_sg ?_
  refine areg_run 18 (by simp [push_cast, k4, k5, k6, k7, e4, e5, e6, e7, o1, o2, o3, s1, s2, s3, v4, v5, v6, v7]; exact rfl) ?_
  refine areg_cv (by simp [AS.ev, AS.coe, AS.put] <;> exact rfl) c1 ?_
  refine areg_run 1 (by simp [push_cast, hk]; exact rfl) ?_
  refine areg_eq (by simp [AS.ev, AS.put] <;> exact rfl) (by simp [AS.ev, AS.put] <;> exact rfl) e1 rfl rfl ?_
  refine areg_end (by simp [push_cast]; exact rfl) (wp_ret' ?_)
  exact fin_tmp rfl (by simp)
structure Fc where
  b : Nat
  l : Nat × Nat
  j : Nat
  tb : Nat
  tl : Nat × Nat
def kwA (known : List Bool) : List AV := known.map fun b => .lit (.bool b)
theorem kwA_len (known : List Bool) : (kwA known).length = known.length := by simp [kwA]
theorem kwA_get (known : List Bool) (i : Nat) : (kwA known)[i]? = (known[i]?).map fun b => .lit (.bool b) := by simp [kwA]
def fbk (f : Fc) (Vk : Value) : Blk := .box f.l 2 (.st [1, 1] [.ptr f.tb f.tl 0 [], .own f.j Vk])
def frk (Vk : Value) (known : List Bool) : Blk := .row 4 Vk 1 (kwA known) 0
structure FcOk (H : List (Option Blk)) (f : Fc) (Vk : Value) (known : List Bool) : Prop where
  hb : H[f.b]? = some (some (fbk f Vk))
  hj : H[f.j]? = some (some (frk Vk known))
  tab : TabX H f.tb f.tl known.length
  len : known.length < 100000
theorem FcOk.app {H L : List (Option Blk)} {f : Fc} {Vk : Value} {known : List Bool} (h : FcOk H f Vk known) : FcOk (H ++ L) f Vk known :=
  ⟨by rw [List.getElem?_append_left (List.getElem?_eq_some_iff.1 h.hb).1]; exact h.hb, by rw [List.getElem?_append_left (List.getElem?_eq_some_iff.1 h.hj).1]; exact h.hj, h.tab.app, h.len⟩
def hasV (known : List Bool) (k : List UInt8) : Bool := if nameK (be32 k) = k then known.getD (be32 k) false else true
set_option maxHeartbeats 16000000 in
theorem has_call {H : List (Option Blk)} {f : Fc} {Vk : Value} {known : List Bool} (hh : FcOk H f Vk known) {k : List UInt8} (hk : k.length = 32) :
    XCall Go.Proofs.Tryd.prog 30 [.ptr f.b f.l 0 [], keyA k] H fun r H' => r = .lit (.bool (hasV known k)) ∧ H' = H := by
  have h428 := fc428_eq
  have hcN : callable Go.Proofs.Tryd.prog 36 = true := by kernel_rfl
  refine XCall.le ?_
  have cs := shaped_call hk
  have cn := fun L => numX_call (hh.app (L := L)).tab hh.len hk
  obtain ⟨hb, hj, _, hn⟩ := hh
  have lb := (List.getElem?_eq_some_iff.1 hb).1
  have lj := (List.getElem?_eq_some_iff.1 hj).1
  unfold fbk at hb
  unfold frk at hj
  refine XCall.of h428 rfl ?_; show AC.wp _ fb428 ⟨H.length, [.ptr f.b f.l 0 [], keyA k] ++ List.replicate (32 - 2) .any, H ++ List.replicate 32 none⟩ (fun x s => match x with | .exit _ => False | _ => ∃ s1, Le s s1 ∧ FinX [(.tmp 4)] s1 _); unfold fb428
  generalize hN : H.length = N at *
  have q1 : ∀ L k, (H ++ L)[N + k]? = L[k]? := fun L k => cat1 N H L k hN
  have q2 : ∀ L k x, (H ++ L).set (N + k) x = H ++ L.set k x := fun L k x => cat2 N H L k x hN
  have q3 : ∀ L, (H ++ L)[f.b]? = some (some (.box f.l 2 (.st [1, 1] [.ptr f.tb f.tl 0 [], .own f.j Vk]))) := fun L => by rw [cat4 N H L _ hN lb]; exact hb
  have q4 : ∀ L, (H ++ L)[f.j]? = some (some (.row 4 Vk 1 (kwA known) 0)) := fun L => by rw [cat4 N H L _ hN lj]; exact hj
  refine wp_sg (areg_bx rfl (by simp [AS.ev, keyA, AV.sz, bl, hk]) fun l => areg_end (by simp [push_cast, q2]; exact rfl) ?_)
  refine wp_sg ?_
  refine areg_run 5 (by simp [push_cast, q1, q3, hk]; exact rfl) ?_
  refine areg_xq (us := [.ptr f.tb f.tl 0 [], keyA k]) rfl (by simp only [tgtA, tgtB, Option.bind_some, hcN, if_true]) (cn _) ⟨_, _, rfl, rfl⟩ (fun r hp' _ t' ht' => by cases ht') ?_
  rintro r H' ⟨rfl, rfl⟩
  refine areg_end (by simp [push_cast]; exact rfl) ?_
  have efin : ∀ (b : Bool) (R : List (Option Blk)) (s : AS), b = hasV known k → RVal s (.tmp 4) = some (.lit (.bool b)) → s.hp = H ++ R → ∃ s1, Le s s1 ∧ FinX [RV.tmp 4] s1 fun r H' => ∃ r' A, RelLe r r' ∧ r' ≠ .any ∧ HpLe H' A ∧ r' = .lit (.bool (hasV known k)) ∧ A = H := fun b R s e hr hR =>
    ⟨s, Le.refl _, finX1 hr (by simp) ⟨_, H, RelLe.refl _, by simp, by rw [hR]; exact HpLe.trim _ _, by rw [e], rfl⟩⟩
  unfold numV
  by_cases hno : known.length ≤ be32 k ∨ nameK (be32 k) ≠ k
  · rw [if_pos hno]
    have hge : binVal .geq (.int .i64 (-1)) (jn 0) = some (.bool false) := by simp [binVal, jn]
    have hls : binVal .lss (.int .i64 (-1)) (jn 0) = some (.bool true) := bin_lssm
    refine wp_sg ?_
    refine areg_run 16 (by simp [push_cast, hge, hls, q1, hk]; exact rfl) ?_
    refine areg_g (by simp [AS.ev, AS.put]) (areg_ca (by simp [AS.ev, AS.coe, AS.put] <;> exact rfl) cs ?_)
    refine areg_end (by simp [push_cast]; exact rfl) (wp_ret' ?_)
    refine efin _ _ _ ?_ rfl rfl
    unfold hasV
    by_cases hsh : nameK (be32 k) = k
    · rw [if_pos hsh, List.getD_eq_getElem?_getD, List.getElem?_eq_none (by rcases hno with h | h; exact h; exact absurd hsh h)]
      simp [hsh]
    · simp [hsh]
  · rw [if_neg hno]
    have hlt : be32 k < known.length := by omega
    have hsh : nameK (be32 k) = k := by
      by_cases h : nameK (be32 k) = k
      · exact h
      · exact absurd (.inr h) hno
    obtain ⟨b, hb'⟩ : ∃ b, known[be32 k]? = some b := ⟨_, List.getElem?_eq_getElem hlt⟩
    have g1 : (kwA known)[be32 k]? = some (.lit (.bool b)) := by rw [kwA_get, hb']; rfl
    have g2 : ∀ h, (kwA known)[be32 k]'h = .lit (.bool b) := fun h => by rw [List.getElem?_eq_getElem h] at g1; exact Option.some.inj g1
    have hv : b = hasV known k := by unfold hasV; rw [if_pos hsh, List.getD_eq_getElem?_getD, hb']; rfl
    generalize be32 k = i at *
    have hls : binVal .lss (jn i) (jn 0) = some (.bool false) := by rw [bin_lssj]; simp
    have hge : binVal .geq (jn i) (jn 0) = some (.bool true) := by rw [bin_geqj]; simp
    cases b with
    | true =>
      refine wp_sg (areg_end (by simp [push_cast, q1, q3, q4, g1, g2, hlt, kwA_len, hls, hge]; exact rfl) (wp_ret' ?_))
      exact efin _ _ _ hv (by simp [RVal, AS.ev, AS.coe]) rfl
    | false =>
      refine wp_sg ?_
      refine areg_run 14 (by simp [push_cast, q1, q3, q4, g1, g2, hlt, kwA_len, hls, hge]; exact rfl) ?_
      refine areg_end (by simp [push_cast]; exact rfl) (wp_ret' ?_)
      exact efin _ _ _ hv (by simp [RVal, AS.ev, AS.coe]) rfl
end Go.Cab
namespace Go.Cab
open Classical
def fb426 : AC := (.seq (.reg [⟨some 3, none, .box 32 (.tmp 1), [], none⟩, ⟨some 4, none, .mov (.const (.bool false)), [], none⟩]) (.seq (.reg [⟨some 6, none, .mov (.tmp 0), [], none⟩, ⟨some 7, none, .nilc (.tmp 6), [], none⟩, ⟨some 8, none, .faddr 0 0 (.tmp 7), [], none⟩, ⟨some 9, none, .load false 1 (.tmp 8), [], none⟩, ⟨some 10, none, .load true 32 (.tmp 3), [], none⟩, ⟨some 11, none, .xc (.dir 36) [.tmp 9, .tmp 10] [] [], [], none⟩, ⟨some 5, none, .mov (.tmp 11), [], none⟩]) (.seq (.seq (.reg [⟨some 12, none, .mov (.tmp 5), [], none⟩, ⟨some 13, none, .bin .lss (.tmp 12) (.const (jn 0)), [], none⟩, ⟨some 14, none, .mov (.tmp 13), [], none⟩, ⟨some 15, some (14, false), .mov (.tmp 0), [], none⟩, ⟨some 16, some (14, false), .nilc (.tmp 15), [], none⟩, ⟨some 17, some (14, false), .faddr 1 1 (.tmp 16), [], none⟩, ⟨some 18, some (14, false), .load false 1 (.tmp 17), [], none⟩, ⟨some 19, some (14, false), .mov (.tmp 5), [], none⟩, ⟨some 20, some (14, false), .iaddrS 1 (.tmp 18) (.tmp 19), [], none⟩, ⟨some 21, some (14, false), .load false 1 (.tmp 20), [], none⟩, ⟨some 22, none, .pick (.tmp 14) (.const (.bool true)) (.tmp 21), [], none⟩]) (.cond (.tmp 22) (.seq (.reg [⟨some 4, none, .mov (.const (.bool false)), [], none⟩]) .ret) .skip)) (.seq (.reg [⟨some 23, none, .mov (.tmp 0), [], none⟩, ⟨some 24, none, .nilc (.tmp 23), [], none⟩, ⟨some 25, none, .faddr 1 1 (.tmp 24), [], none⟩, ⟨some 26, none, .load false 1 (.tmp 25), [], none⟩, ⟨some 27, none, .mov (.tmp 5), [], none⟩, ⟨some 28, none, .iaddrS 1 (.tmp 26) (.tmp 27), [], none⟩, ⟨none, none, .store 1 (.tmp 28) (.const (.bool true)), [], none⟩]) (.seq (.reg [⟨some 4, none, .mov (.const (.bool true)), [], none⟩]) .ret)))))
def fc426 : FC := ⟨2, 29, [(.tmp 4)], fb426⟩
theorem fc426_eq : compF Go.Proofs.Tryd.prog 28 = some fc426 := by kernel_rfl
def fb435 : AC := (.seq (.reg [⟨some 3, none, .box 32 (.tmp 1), [], none⟩, ⟨some 4, none, .mov (.const (.bool false)), [], none⟩]) (.seq (.seq (.reg [⟨some 7, none, .mov (.tmp 0), [], none⟩, ⟨some 8, none, .load true 32 (.tmp 3), [], none⟩, ⟨some 9, none, .icall 30 (.tmp 7) [.tmp 8], [], none⟩]) (.cond (.tmp 9) (.seq (.reg [⟨some 4, none, .mov (.const (.bool true)), [], none⟩]) .ret) .skip)) (.seq (.reg [⟨some 11, none, .mov (.tmp 0), [], none⟩, ⟨some 12, none, .nilc (.tmp 11), [], none⟩, ⟨some 13, none, .faddr 0 0 (.tmp 12), [], none⟩, ⟨some 14, none, .load false 1 (.tmp 13), [], none⟩, ⟨some 15, none, .nilc (.tmp 14), [], none⟩, ⟨some 16, none, .faddr 1 1 (.tmp 15), [], none⟩, ⟨some 17, none, .load false 1 (.tmp 16), [], none⟩, ⟨some 18, none, .load true 32 (.tmp 3), [], none⟩, ⟨some 19, none, .bslice 32 (.arr 1 (List.replicate 32 (.lit (bn 0)))) 1 [(0, (.tmp 18))], [], none⟩, ⟨some 20, none, .build (.st [1, 1, 1] [(.lit (jn 0)), (.lit (tx [])), (.lit (.slice .none 0 0))]) [(0, (.const (jn 3))), (2, (.tmp 19))], [], none⟩, ⟨some 21, none, .callv 32 [.tmp 20], [], none⟩, ⟨some 22, none, .rd (.lookup (jn 0)) [.tmp 17, .tmp 21], [], none⟩, ⟨some 10, none, .mov (.tmp 22), [], none⟩, ⟨some 23, none, .ext (.tmp 10) 0, [], none⟩, ⟨some 24, none, .ext (.tmp 10) 1, [], none⟩, ⟨some 5, none, .mov (.tmp 23), [], none⟩, ⟨some 6, none, .mov (.tmp 24), [], none⟩]) (.seq (.reg [⟨some 25, none, .mov (.tmp 6), [], none⟩, ⟨some 26, none, .mov (.tmp 25), [], none⟩, ⟨some 27, some (26, true), .mov (.tmp 0), [], none⟩, ⟨some 28, some (26, true), .nilc (.tmp 27), [], none⟩, ⟨some 29, some (26, true), .faddr 1 1 (.tmp 28), [], none⟩, ⟨some 30, some (26, true), .load false 1 (.tmp 29), [], none⟩, ⟨some 31, some (26, true), .mov (.tmp 5), [], none⟩, ⟨some 32, some (26, true), .iaddrS 1 (.tmp 30) (.tmp 31), [], none⟩, ⟨some 33, some (26, true), .load false 1 (.tmp 32), [], none⟩, ⟨some 34, none, .pick (.tmp 26) (.tmp 33) (.const (.bool false)), [], none⟩, ⟨some 4, none, .mov (.tmp 34), [], none⟩]) .ret))))
def fc435 : FC := ⟨2, 35, [(.tmp 4)], fb435⟩
theorem fc435_eq : compF Go.Proofs.Tryd.prog 41 = some fc435 := by kernel_rfl
def fb437 : AC := (.seq (.reg [⟨some 4, none, .mov (.const (.bool false)), [], none⟩]) (.seq (.reg [⟨some 5, none, .mov (.tmp 0), [], none⟩, ⟨some 6, none, .mov (.tmp 1), [], none⟩, ⟨some 7, none, .xc (.dir 54) [.tmp 5, .tmp 6] [] [], [], none⟩, ⟨some 8, none, .bin .geq (.tmp 7) (.const (jn 0)), [], none⟩, ⟨some 4, none, .mov (.tmp 8), [], none⟩]) .ret))
def fc437 : FC := ⟨2, 9, [(.tmp 4)], fb437⟩
theorem fc437_eq : compF Go.Proofs.Tryd.prog 47 = some fc437 := by kernel_rfl
def learnV (known : List Bool) (k : List UInt8) : Bool × List Bool := if nameK (be32 k) = k ∧ be32 k < known.length ∧ known.getD (be32 k) true = false then (true, known.set (be32 k) true) else (false, known)
theorem kwA_set (known : List Bool) (i : Nat) (b : Bool) : (kwA known).set i (.lit (.bool b)) = kwA (known.set i b) := by simp [kwA, List.map_set]
def kOf (H : List (Option Blk)) (f : Fc) (Vk : Value) (known : List Bool) : List (Option Blk) := H.set f.j (some (frk Vk known))
theorem FcOk.self {H : List (Option Blk)} {f : Fc} {Vk : Value} {known : List Bool} (h : FcOk H f Vk known) : kOf H f Vk known = H := set_same h.hj
set_option maxHeartbeats 16000000 in
theorem learn_call {H : List (Option Blk)} {f : Fc} {Vk : Value} {known : List Bool} (hh : FcOk H f Vk known) {k : List UInt8} (hk : k.length = 32) :
    XCall Go.Proofs.Tryd.prog 28 [.ptr f.b f.l 0 [], keyA k] H fun r H' => r = .lit (.bool (learnV known k).1) ∧ H' = kOf H f Vk (learnV known k).2 := by
  have h426 := fc426_eq
  have hcN : callable Go.Proofs.Tryd.prog 36 = true := by kernel_rfl
  refine XCall.le ?_
  have cn := fun L => numX_call (hh.app (L := L)).tab hh.len hk
  have hself := hh.self
  obtain ⟨hb, hj, _, hn⟩ := hh
  have lb := (List.getElem?_eq_some_iff.1 hb).1
  have lj := (List.getElem?_eq_some_iff.1 hj).1
  unfold fbk at hb
  unfold frk at hj
  refine XCall.of h426 rfl ?_; show AC.wp _ fb426 ⟨H.length, [.ptr f.b f.l 0 [], keyA k] ++ List.replicate (29 - 2) .any, H ++ List.replicate 29 none⟩ (fun x s => match x with | .exit _ => False | _ => ∃ s1, Le s s1 ∧ FinX [(.tmp 4)] s1 _); unfold fb426
  generalize hN : H.length = N at *
  have q1 : ∀ L k, (H ++ L)[N + k]? = L[k]? := fun L k => cat1 N H L k hN
  have q2 : ∀ L k x, (H ++ L).set (N + k) x = H ++ L.set k x := fun L k x => cat2 N H L k x hN
  have q3 : ∀ L, (H ++ L)[f.b]? = some (some (.box f.l 2 (.st [1, 1] [.ptr f.tb f.tl 0 [], .own f.j Vk]))) := fun L => by rw [cat4 N H L _ hN lb]; exact hb
  have q4 : ∀ L, (H ++ L)[f.j]? = some (some (.row 4 Vk 1 (kwA known) 0)) := fun L => by rw [cat4 N H L _ hN lj]; exact hj
  have q5 : ∀ L x, (H ++ L).set f.j x = H.set f.j x ++ L := fun L x => cat3 N H L _ x hN lj
  refine wp_sg (areg_bx rfl (by simp [AS.ev, keyA, AV.sz, bl, hk]) fun l => areg_end (by simp [push_cast, q2]; exact rfl) ?_)
  refine wp_sg ?_
  refine areg_run 5 (by simp [push_cast, q1, q3, hk]; exact rfl) ?_
  refine areg_xq (us := [.ptr f.tb f.tl 0 [], keyA k]) rfl (by simp only [tgtA, tgtB, Option.bind_some, hcN, if_true]) (cn _) ⟨_, _, rfl, rfl⟩ (fun r hp' _ t' ht' => by cases ht') ?_
  rintro r H' ⟨rfl, rfl⟩
  refine areg_end (by simp [push_cast]; exact rfl) ?_
  unfold numV
  by_cases hno : known.length ≤ be32 k ∨ nameK (be32 k) ≠ k
  · rw [if_pos hno]
    have hls : binVal .lss (.int .i64 (-1)) (jn 0) = some (.bool true) := bin_lssm
    refine wp_seq' (wp_seq' (wp_r (by simp [push_cast, hls]; exact rfl) ?_))
    refine wp_cond_t rfl (wp_sr (by simp [push_cast]; exact rfl) (wp_ret' ?_))
    have hv : learnV known k = (false, known) := by
      unfold learnV
      rw [if_neg]
      rintro ⟨h1, h2, _⟩
      rcases hno with h | h
      · omega
      · exact h h1
    rw [hv]
    exact ⟨_, Le.refl _, finX1 (v := .lit (.bool false)) rfl (by simp) ⟨_, H, RelLe.refl _, by simp, HpLe.trim _ _, rfl, hself.symm⟩⟩
  · rw [if_neg hno]
    have hlt : be32 k < known.length := by omega
    have hsh : nameK (be32 k) = k := by
      by_cases h : nameK (be32 k) = k
      · exact h
      · exact absurd (.inr h) hno
    obtain ⟨b, hb'⟩ : ∃ b, known[be32 k]? = some b := ⟨_, List.getElem?_eq_getElem hlt⟩
    have g1 : (kwA known)[be32 k]? = some (.lit (.bool b)) := by rw [kwA_get, hb']; rfl
    have g2 : ∀ h, (kwA known)[be32 k]'h = .lit (.bool b) := fun h => by rw [List.getElem?_eq_getElem h] at g1; exact Option.some.inj g1
    have hgd : known.getD (be32 k) true = b := by rw [List.getD_eq_getElem?_getD, hb']; rfl
    have hv : learnV known k = if b = false then (true, known.set (be32 k) true) else (false, known) := by
      unfold learnV
      rw [hgd]
      cases b
      · rw [if_pos ⟨hsh, hlt, rfl⟩]; rfl
      · rw [if_neg (by simp)]; rfl
    rw [hv]
    clear hv hgd hsh hno cn
    generalize be32 k = i at *
    have hls : binVal .lss (jn i) (jn 0) = some (.bool false) := by rw [bin_lssj]; simp
    cases b with
    | true =>
      refine wp_seq' (wp_seq' (wp_rg ?_))
      refine areg_run 3 (by simp [push_cast, hls]; exact rfl) ?_
      refine areg_end (by simp [push_cast, q1, q3, q4, g1, g2, hlt, kwA_len]; exact rfl) ?_
      refine wp_cond_t rfl (wp_sr (by simp [push_cast]; exact rfl) (wp_ret' ?_))
      exact ⟨_, Le.refl _, finX1 (v := .lit (.bool false)) rfl (by simp) ⟨_, H, RelLe.refl _, by simp, HpLe.trim _ _, rfl, hself.symm⟩⟩
    | false =>
      refine wp_seq' (wp_seq' (wp_rg ?_))
      refine areg_run 3 (by simp [push_cast, hls]; exact rfl) ?_
      refine areg_end (by simp [push_cast, q1, q3, q4, g1, g2, hlt, kwA_len]; exact rfl) ?_
      refine wp_cond_f rfl (wp_skip' ?_)
      refine wp_sg ?_
      refine areg_run 6 (by simp [push_cast, q1, q3, q4, hlt, kwA_len]; exact rfl) ?_
      refine areg_end (by simp [push_cast, q1, q3, q4, q5, g1, g2, hlt, kwA_len]; exact rfl) ?_
      refine wp_sr (by simp [push_cast]; exact rfl) (wp_ret' ?_)
      refine ⟨_, Le.refl _, finX1 (v := .lit (.bool true)) rfl (by simp) ⟨_, kOf H f Vk (known.set i true), RelLe.refl _, by simp, ?_, rfl, rfl⟩⟩
      show HpLe (H.set f.j _ ++ _) _
      unfold kOf frk
      rw [← kwA_set]
      exact HpLe.trim _ _
def pubV (ts : List Term) (known : List Bool) (k : List UInt8) : Bool := hasV known k || (match findT (shapeT (pubT k)) ts 0 with | some n => known.getD n false | none => false)
structure FtOk (H : List (Option Blk)) (f : Fc) (t : Tb) (V : Value) (ts : List Term) (Vk : Value) (known : List Bool) : Prop where
  fc : FcOk H f Vk known
  tb : TbOk H t V ts
  eb : f.tb = t.b
  el : f.tl = t.l
  len : known.length = ts.length
  d1 : f.j ≠ t.b
  d2 : f.j ≠ t.j
  d3 : f.j ≠ t.m
  d4 : f.j ≠ f.b
theorem FtOk.app {H L : List (Option Blk)} {f : Fc} {t : Tb} {V : Value} {ts : List Term} {Vk : Value} {known : List Bool} (h : FtOk H f t V ts Vk known) : FtOk (H ++ L) f t V ts Vk known := ⟨h.fc.app, h.tb.app L, h.eb, h.el, h.len, h.d1, h.d2, h.d3, h.d4⟩
set_option maxHeartbeats 16000000 in
theorem fpub_call {H : List (Option Blk)} {f : Fc} {t : Tb} {V : Value} {ts : List Term} {Vk : Value} {known : List Bool} (hh : FtOk H f t V ts Vk known) {k : List UInt8} (hk : k.length = 32) :
    XCall Go.Proofs.Tryd.prog 41 [.ptr f.b f.l 0 [], keyA k] H fun r H' => r = .lit (.bool (pubV ts known k)) ∧ H' = H := by
  have h435 := fc435_eq
  refine XCall.le ?_
  have ch := fun L => has_call (hh.app (L := L)).fc hk
  have c2 := shape_call (pubT k) (by simp [pubT]) (by simp [pubT]) (by simp [pubT]) (by simp [pubT, hk])
  obtain ⟨⟨hb, hj, _, hn⟩, hT, eb, el, hlen, _, _, _, _⟩ := hh
  have lb := (List.getElem?_eq_some_iff.1 hb).1
  have lj := (List.getElem?_eq_some_iff.1 hj).1
  have lt := hT.lb
  have lm := hT.lm
  have htb := hT.hb
  have htm := hT.hm
  unfold fbk at hb
  unfold frk at hj
  unfold tbk at htb
  unfold tmk at htm
  refine XCall.of h435 rfl ?_; show AC.wp _ fb435 ⟨H.length, [.ptr f.b f.l 0 [], keyA k] ++ List.replicate (35 - 2) .any, H ++ List.replicate 35 none⟩ (fun x s => match x with | .exit _ => False | _ => ∃ s1, Le s s1 ∧ FinX [(.tmp 4)] s1 _); unfold fb435
  generalize hN : H.length = N at *
  have q1 : ∀ L k, (H ++ L)[N + k]? = L[k]? := fun L k => cat1 N H L k hN
  have q2 : ∀ L k x, (H ++ L).set (N + k) x = H ++ L.set k x := fun L k x => cat2 N H L k x hN
  have q3 : ∀ L, (H ++ L)[f.b]? = some (some (.box f.l 2 (.st [1, 1] [.ptr t.b t.l 0 [], .own f.j Vk]))) := fun L => by rw [cat4 N H L _ hN lb, hb, eb, el]
  have q4 : ∀ L, (H ++ L)[f.j]? = some (some (.row 4 Vk 1 (kwA known) 0)) := fun L => by rw [cat4 N H L _ hN lj]; exact hj
  have q6 : ∀ L, (H ++ L)[t.b]? = some (some (.box t.l 2 (.st [1, 1] [.own t.j V, .own t.m (.map (some t.r))]))) := fun L => by rw [cat4 N H L _ hN lt]; exact htb
  have q7 : ∀ L, (H ++ L)[t.m]? = some (some (.map t.r (esOf ts) ts.length)) := fun L => by rw [cat4 N H L _ hN lm]; exact htm
  refine wp_sg (areg_bx rfl (by simp [AS.ev, keyA, AV.sz, bl, hk]) fun l => areg_end (by simp [push_cast, q2]; exact rfl) ?_)
  refine wp_seq' (wp_seq' (wp_rg ?_))
  refine areg_run 2 (by simp [push_cast, q1, hk]; exact rfl) ?_
  refine areg_xc rfl (ch _) ⟨_, _, rfl, rfl⟩ ?_
  rintro r H' ⟨rfl, rfl⟩
  have efin : ∀ (b : Bool) (R : List (Option Blk)) (s : AS), b = pubV ts known k → RVal s (.tmp 4) = some (.lit (.bool b)) → s.hp = H ++ R → ∃ s1, Le s s1 ∧ FinX [RV.tmp 4] s1 fun r H' => ∃ r' A, RelLe r r' ∧ r' ≠ .any ∧ HpLe H' A ∧ r' = .lit (.bool (pubV ts known k)) ∧ A = H := fun b R s e hr hR =>
    ⟨s, Le.refl _, finX1 hr (by simp) ⟨_, H, RelLe.refl _, by simp, by rw [hR]; exact HpLe.trim _ _, by rw [e], rfl⟩⟩
  unfold pubV at efin ⊢
  generalize hasV known k = hv at *
  cases hv with
  | true =>
    refine areg_end (by simp [push_cast]; exact rfl) ?_
    refine wp_cond_t rfl (wp_sr (by simp [push_cast]; exact rfl) (wp_ret' ?_))
    exact efin true _ _ (by simp) rfl rfl
  | false =>
    refine areg_end (by simp [push_cast]; exact rfl) ?_
    refine wp_cond_f rfl (wp_skip' ?_)
    refine wp_sg ?_
    refine areg_run 10 (by simp [push_cast, q1, q3, q6, hk]; exact rfl) ?_
    refine areg_cv (by simp [AS.ev, AS.coe, AS.put] <;> exact rfl) c2 ?_
    refine areg_look (b := t.m) (r := t.r) (es := esOf ts) (c := ts.length) (o := (findT (shapeT (pubT k)) ts 0).map fun n => (n, jn n, n)) rfl rfl (by simp only [AS.blk, AS.put, q7]; rfl) (lookS_es _ _ _) ?_
    cases hf : findT (shapeT (pubT k)) ts 0 with
    | none =>
      refine areg_end (by simp [push_cast, lookR]; exact rfl) ?_
      refine wp_sg ?_
      refine areg_run 2 (by simp [push_cast]; exact rfl) ?_
      refine areg_end (by simp [push_cast]; exact rfl) (wp_ret' ?_)
      rw [hf] at efin
      exact efin false _ _ (by simp) rfl rfl
    | some n =>
      have hlt := (findT_lt hf).2
      obtain ⟨b, hb'⟩ : ∃ b, known[n]? = some b := ⟨_, List.getElem?_eq_getElem (by omega)⟩
      have g1 : (kwA known)[n]? = some (.lit (.bool b)) := by rw [kwA_get, hb']; rfl
      have g2 : ∀ h, (kwA known)[n]'h = .lit (.bool b) := fun h => by rw [List.getElem?_eq_getElem h] at g1; exact Option.some.inj g1
      have hlt2 : n < known.length := by omega
      refine areg_end (by simp [push_cast, lookR]; exact rfl) ?_
      refine wp_sg ?_
      refine areg_run 2 (by simp [push_cast]; exact rfl) ?_
      refine areg_end (by simp [push_cast, q1, q3, q4, g1, g2, hlt2, kwA_len]; exact rfl) (wp_ret' ?_)
      rw [hf] at efin
      exact efin b _ _ (by simp only [Bool.false_or]; rw [List.getD_eq_getElem?_getD, hb']; rfl) rfl rfl
def idxP (p : List UInt8 → Bool) : List (List UInt8) → Nat → Option Nat
  | [], _ => none
  | k :: ks, i => if p k then some i else idxP p ks (i + 1)
set_option maxHeartbeats 8000000 in
theorem indexP_call {H : List (Option Blk)} {clo : AV} {g : FuncId} {as' : List UInt8 → List AV} {p : List UInt8 → Bool} {ks : List (List UInt8)} (htg : ∀ k, tgtA Go.Proofs.Tryd.prog .val [clo, keyA k] = some (g, as' k)) (hcl : clo.isTup = false)
    (hc : ∀ L k, k.length = 32 → XCall Go.Proofs.Tryd.prog g (as' k) (H ++ L) fun r H' => r = .lit (.bool (p k)) ∧ H' = H ++ L) (hks : ks.length < 100000) (h32 : ∀ k ∈ ks, k.length = 32) :
    XCall Go.Proofs.Tryd.prog 54 [.sl 32 (klA ks), clo] H fun r H' => r = .lit (idxV (idxP p ks 0)) ∧ H' = H := by
  have h423 := fc423_eq
  refine XCall.le ?_
  refine XCall.of h423 rfl ?_; show AC.wp _ fb423 ⟨H.length, [.sl 32 (klA ks), clo] ++ List.replicate (19 - 2) .any, H ++ List.replicate 19 none⟩ (fun x s => match x with | .exit _ => False | _ => ∃ s1, Le s s1 ∧ FinX [(.tmp 4)] s1 _); unfold fb423
  generalize hN : H.length = N at *
  refine wp_sr (by simp [push_cast]; exact rfl) ?_
  refine wp_seq' (wp_seq' (wp_r (by simp [push_cast, klA_len]; exact rfl) ?_))
  refine wp_block' (wp_loop_m (fun i => ⟨N, [.sl 32 (klA ks), clo, .any, .any, .lit (jn 0), .any, .sl 32 (klA ks), .lit (jn ks.length), .lit (jn i)] ++ List.replicate 10 .any, H ++ List.replicate 19 none⟩) (fun i => ks.length - i) (fun i => idxP p (ks.drop i) i = idxP p ks 0 ∧ i ≤ ks.length) 0 ?_ ⟨rfl, by simp⟩ ?_)
  · exact Le.mk rfl (by simp [leT]) (leH_refl _)
  · rintro i ⟨hI, hi⟩
    simp only at hI hi ⊢
    by_cases hlt : i < ks.length
    · obtain ⟨x, hx⟩ : ∃ x, ks[i]? = some x := ⟨_, List.getElem?_eq_getElem hlt⟩
      have hdrop : ks.drop i = x :: ks.drop (i + 1) := by
        rw [List.drop_eq_getElem_cons hlt]
        rw [List.getElem?_eq_getElem hlt] at hx
        rw [Option.some.inj hx]
      rw [hdrop, idxP] at hI
      have hx32 := h32 _ (List.mem_of_getElem? hx)
      have g1 : (klA ks)[i]? = some (keyA x) := by rw [klA_get, hx]; rfl
      have g2 : ∀ h, (klA ks)[i]'h = keyA x := fun h => by rw [List.getElem?_eq_getElem h] at g1; exact Option.some.inj g1
      have q1 : i + 1 < 9223372036854775808 := by omega
      refine wp_sr (by simp [push_cast, hlt]; exact rfl) (wp_seq' (wp_cond_t (by simp [AS.ev]) (wp_skip' ?_)))
      refine wp_seq' (wp_block' (wp_sr (by simp [push_cast]; exact rfl) ?_))
      refine wp_seq' (wp_rg ?_)
      refine areg_run 5 (by simp [push_cast, g1, g2, hlt, klA_len, hx32]; exact rfl) ?_
      refine areg_xq (us := [clo, keyA x]) rfl (htg _) (hc _ x hx32) ⟨_, _, rfl, rfl⟩ (fun r hp' _ t' ht' => by cases ht') ?_
      rintro r H' ⟨rfl, rfl⟩
      refine areg_end (by simp [push_cast]; exact rfl) ?_
      by_cases hk : p x = true
      · rw [if_pos hk] at hI
        refine wp_cond_t (by simp [AS.ev, AS.put, hk]) ?_
        refine wp_sr (by simp [push_cast]; exact rfl) (wp_ret' ?_)
        exact ⟨_, Le.refl _, finX1 (v := .lit (jn i)) rfl (by simp) ⟨_, H, RelLe.refl _, by simp, HpLe.trim _ _, by rw [← hI]; rfl, rfl⟩⟩
      · rw [if_neg hk] at hI
        refine wp_cond_f (by simp [AS.ev, AS.put, hk]) (wp_skip' ?_)
        refine wp_r (by simp [push_cast, q1]; exact rfl) ?_
        exact Exists.intro (i + 1) ⟨⟨hI, by omega⟩, by omega, Le.mk rfl (by simp [leT]) (leH_refl _)⟩
    · have hin : i = ks.length := by omega
      subst hin
      rw [List.drop_length, idxP] at hI
      refine wp_sr (by simp [push_cast]; exact rfl) (wp_seq' (wp_cond_f (by simp [AS.ev]) (wp_exit' (if_hit rfl ?_))))
      refine wp_sr (by simp [push_cast]; exact rfl) (wp_ret' ?_)
      exact ⟨_, Le.refl _, finX1 (v := .lit (.int .i64 (-1))) rfl (by simp) ⟨_, H, RelLe.refl _, by simp, HpLe.trim _ _, by rw [← hI]; rfl, rfl⟩⟩
theorem idxP_any (p : List UInt8 → Bool) : ∀ (ks : List (List UInt8)) (i : Nat), (idxP p ks i).isSome = ks.any p
  | [], _ => rfl
  | k :: ks, i => by
    rw [idxP, List.any_cons]
    split
    · rename_i h; rw [h]; rfl
    · rename_i h; rw [idxP_any p ks (i + 1)]; simp [h]
theorem idxV_geq (o : Option Nat) : binVal .geq (idxV o) (jn 0) = some (.bool o.isSome) := by
  cases o with
  | none => simp [idxV, binVal, jn]
  | some n => show binVal .geq (jn n) (jn 0) = _; rw [bin_geqj]; simp
set_option maxHeartbeats 4000000 in
theorem containsP_call {H : List (Option Blk)} {clo : AV} {g : FuncId} {as' : List UInt8 → List AV} {p : List UInt8 → Bool} {ks : List (List UInt8)} (htg : ∀ k, tgtA Go.Proofs.Tryd.prog .val [clo, keyA k] = some (g, as' k)) (hcl : clo.isTup = false)
    (hc : ∀ L k, k.length = 32 → XCall Go.Proofs.Tryd.prog g (as' k) (H ++ L) fun r H' => r = .lit (.bool (p k)) ∧ H' = H ++ L) (hks : ks.length < 100000) (h32 : ∀ k ∈ ks, k.length = 32) :
    XCall Go.Proofs.Tryd.prog 47 [.sl 32 (klA ks), clo] H fun r H' => r = .lit (.bool (ks.any p)) ∧ H' = H := by
  have h437 := fc437_eq
  refine XCall.le ?_
  have hcI : callable Go.Proofs.Tryd.prog 54 = true := by kernel_rfl
  have ci := fun L => indexP_call (H := H ++ L) htg hcl (fun L' k hk => by rw [List.append_assoc]; exact hc _ k hk) hks h32
  have hge := idxV_geq (idxP p ks 0)
  rw [idxP_any] at hge
  refine XCall.of h437 rfl ?_; show AC.wp _ fb437 ⟨H.length, [.sl 32 (klA ks), clo] ++ List.replicate (9 - 2) .any, H ++ List.replicate 9 none⟩ (fun x s => match x with | .exit _ => False | _ => ∃ s1, Le s s1 ∧ FinX [(.tmp 4)] s1 _); unfold fb437
  generalize hN : H.length = N at *
  refine wp_sr (by simp [push_cast]; exact rfl) ?_
  refine wp_sg ?_
  refine areg_run 2 (by simp [push_cast]; exact rfl) ?_
  refine areg_xq (us := [.sl 32 (klA ks), clo]) rfl (by simp only [tgtA, tgtB, Option.bind_some, hcI, if_true]) (ci _) ⟨_, _, rfl, rfl⟩ (fun r hp' _ t' ht' => by cases ht') ?_
  rintro r H' ⟨rfl, rfl⟩
  refine areg_end (by simp [push_cast, hge]; exact rfl) (wp_ret' ?_)
  exact ⟨_, Le.refl _, finX1 (v := .lit (.bool (ks.any p))) rfl (by simp) ⟨_, H, RelLe.refl _, by simp, HpLe.trim _ _, rfl, rfl⟩⟩
end Go.Cab
namespace Go.Cab
open Classical
def fb438 : AC := (.seq (.reg [⟨some 2, none, .box 32 (.tmp 0), [], none⟩, ⟨some 3, none, .mov (.const (.bool false)), [], none⟩]) (.seq (.reg [⟨some 4, none, .load false 1 (.tmp 1), [], none⟩, ⟨some 5, none, .load true 32 (.tmp 2), [], none⟩, ⟨some 6, none, .icall 30 (.tmp 4) [.tmp 5], [], none⟩, ⟨some 7, none, .un .not (.tmp 6), [], none⟩, ⟨some 3, none, .mov (.tmp 7), [], none⟩]) .ret))
def fc438 : FC := ⟨1, 8, [(.tmp 3)], fb438⟩
theorem fc438_eq : compF Go.Proofs.Tryd.prog 48 = some fc438 := by kernel_rfl
def fb436 : AC := (.seq (.reg [⟨some 2, none, .box 1 (.tmp 0), [], none⟩, ⟨some 4, none, .mov (.const (.bool false)), [], none⟩]) (.seq (.reg [⟨some 5, none, .mov (.tmp 1), [], none⟩, ⟨some 6, none, .rdp (.mkfn (.func 48) 0) [.tmp 2], [], none⟩, ⟨some 7, none, .xc (.dir 47) [.tmp 5, .tmp 6] [] [], [], none⟩, ⟨some 8, none, .un .not (.tmp 7), [], none⟩, ⟨some 4, none, .mov (.tmp 8), [], none⟩]) .ret))
def fc436 : FC := ⟨2, 9, [(.tmp 4)], fb436⟩
theorem fc436_eq : compF Go.Proofs.Tryd.prog 42 = some fc436 := by kernel_rfl
def fb432 : AC := (.seq (.reg [⟨some 3, none, .box 3 (.tmp 1), [], none⟩, ⟨some 4, none, .mov (.const (.bool false)), [], none⟩]) (.seq (.seq (.reg [⟨some 7, none, .faddr 0 0 (.tmp 3), [], none⟩, ⟨some 8, none, .load false 1 (.tmp 7), [], none⟩]) (.block 0 (.seq (.reg [⟨some 10, none, .bin .eql (.tmp 8) (.const (jn 1)), [], none⟩, ⟨some 9, none, .mov (.tmp 10), [], none⟩]) (.cond (.tmp 9) (.seq (.reg [⟨some 4, none, .mov (.const (.bool false)), [], none⟩]) .ret) (.seq (.reg [⟨some 12, none, .bin .eql (.tmp 8) (.const (jn 4)), [], none⟩, ⟨some 11, none, .mov (.tmp 12), [], none⟩]) (.cond (.tmp 11) (.seq (.reg [⟨some 13, none, .faddr 2 2 (.tmp 3), [], none⟩, ⟨some 14, none, .load false 1 (.tmp 13), [5, 6], .none⟩, ⟨some 15, none, .iaddrS 32 (.tmp 14) (.const (jn 0)), [5, 6], .none⟩, ⟨some 16, none, .load true 32 (.tmp 15), [5, 6], .none⟩, ⟨some 17, none, .faddr 2 2 (.tmp 3), [], none⟩, ⟨some 18, none, .load false 1 (.tmp 17), [5, 6, 5], .none⟩, ⟨some 19, none, .iaddrS 32 (.tmp 18) (.const (jn 1)), [5, 6, 5], .none⟩, ⟨some 20, none, .load true 32 (.tmp 19), [5, 6, 5], .none⟩, ⟨some 5, none, .alloc 32 (.arr 1 (List.replicate 32 (.lit (bn 0)))), [], none⟩, ⟨some 6, none, .alloc 32 (.arr 1 (List.replicate 32 (.lit (bn 0)))), [], none⟩, ⟨none, none, .store 32 (.tmp 5) (.tmp 16), [], (.some 5)⟩, ⟨none, none, .store 32 (.tmp 6) (.tmp 20), [], none⟩]) (.seq (.reg [⟨some 21, none, .mov (.tmp 0), [], none⟩, ⟨some 22, none, .load true 32 (.tmp 5), [], none⟩, ⟨some 23, none, .icall 30 (.tmp 21) [.tmp 22], [], none⟩, ⟨some 24, none, .mov (.tmp 23), [], none⟩, ⟨some 25, some (24, true), .mov (.tmp 0), [], none⟩, ⟨some 26, some (24, true), .load true 32 (.tmp 6), [], none⟩, ⟨some 27, some (24, true), .icall 41 (.tmp 25) [.tmp 26], [], none⟩, ⟨some 28, none, .pick (.tmp 24) (.tmp 27) (.const (.bool false)), [], none⟩, ⟨some 29, none, .mov (.tmp 28), [], none⟩, ⟨some 30, some (29, false), .mov (.tmp 0), [], none⟩, ⟨some 31, some (29, false), .load true 32 (.tmp 6), [], none⟩, ⟨some 32, some (29, false), .icall 30 (.tmp 30) [.tmp 31], [], none⟩, ⟨some 33, some (29, false), .mov (.tmp 32), [], none⟩, ⟨some 34, some (33, true), .mov (.tmp 0), [], none⟩, ⟨some 35, some (33, true), .load true 32 (.tmp 5), [], none⟩, ⟨some 36, some (33, true), .icall 41 (.tmp 34) [.tmp 35], [], none⟩, ⟨some 37, some (29, false), .pick (.tmp 33) (.tmp 36) (.const (.bool false)), [], none⟩, ⟨some 38, none, .pick (.tmp 29) (.const (.bool true)) (.tmp 37), [], none⟩, ⟨some 4, none, .mov (.tmp 38), [], none⟩]) .ret)) .skip)))))) (.seq (.reg [⟨some 39, none, .mov (.tmp 0), [], none⟩, ⟨some 40, none, .faddr 2 2 (.tmp 3), [], none⟩, ⟨some 41, none, .load false 1 (.tmp 40), [], none⟩, ⟨some 42, none, .icall 42 (.tmp 39) [.tmp 41], [], none⟩, ⟨some 4, none, .mov (.tmp 42), [], none⟩]) .ret)))
def fc432 : FC := ⟨2, 43, [(.tmp 4)], fb432⟩
theorem fc432_eq : compF Go.Proofs.Tryd.prog 37 = some fc432 := by kernel_rfl
theorem nothas_call {H : List (Option Blk)} {f : Fc} {Vk : Value} {known : List Bool} (hh : FcOk H f Vk known) {c : Nat} {lc : Nat × Nat} (hc : H[c]? = some (some (.box lc 1 (.ptr f.b f.l 0 [])))) {k : List UInt8} (hk : k.length = 32) :
    XCall Go.Proofs.Tryd.prog 48 [keyA k, .ptr c lc 0 []] H fun r H' => r = .lit (.bool (!hasV known k)) ∧ H' = H := by
  have h438 := fc438_eq
  refine XCall.le ?_
  have ch := fun L => has_call (hh.app (L := L)) hk
  have lcc := (List.getElem?_eq_some_iff.1 hc).1
  refine XCall.ofC h438 (by show 2 ≤ 8; omega) ?_; show AC.wp _ fb438 ⟨H.length, [keyA k, .ptr c lc 0 []] ++ List.replicate (8 - 2) .any, H ++ List.replicate 8 none⟩ (fun x s => match x with | .exit _ => False | _ => ∃ s1, Le s s1 ∧ FinX [(.tmp 3)] s1 _); unfold fb438
  generalize hN : H.length = N at *
  have q1 : ∀ L k, (H ++ L)[N + k]? = L[k]? := fun L k => cat1 N H L k hN
  have q2 : ∀ L k x, (H ++ L).set (N + k) x = H ++ L.set k x := fun L k x => cat2 N H L k x hN
  have q3 : ∀ L, (H ++ L)[c]? = some (some (.box lc 1 (.ptr f.b f.l 0 []))) := fun L => by rw [cat4 N H L _ hN lcc]; exact hc
  refine wp_sg (areg_bx rfl (by simp [AS.ev, keyA, AV.sz, bl, hk]) fun l => areg_end (by simp [push_cast, q2]; exact rfl) ?_)
  refine wp_sg ?_
  refine areg_run 2 (by simp [push_cast, q1, q3, hk]; exact rfl) ?_
  refine areg_xc rfl (ch _) ⟨_, _, rfl, rfl⟩ ?_
  rintro r H' ⟨rfl, rfl⟩
  generalize hasV known k = b at *
  refine areg_end (by simp [push_cast]; exact rfl) (wp_ret' ?_)
  exact ⟨_, Le.refl _, finX1 (v := .lit (.bool (!b))) rfl (by simp) ⟨_, H, RelLe.refl _, by simp, HpLe.trim _ _, rfl, rfl⟩⟩
def cloN (c : Nat) (lc : Nat × Nat) : AV := .fnv (.func 48) [] [.ptr c lc 0 []]
theorem tgt_cloN (c : Nat) (lc : Nat × Nat) (x : AV) : tgtA Go.Proofs.Tryd.prog .val [cloN c lc, x] = some (48, [x, .ptr c lc 0 []]) := by kernel_rfl
theorem mkfn_cloN (c : Nat) (lc : Nat × Nat) : rdA Go.Proofs.Tryd.prog (fun _ => none) (.mkfn (.func 48) 0) [.ptr c lc 0 []] = some (cloN c lc) := by kernel_rfl
theorem all_any (p : List UInt8 → Bool) : ∀ ks : List (List UInt8), (!(ks.any fun k => !p k)) = ks.all p
  | [] => rfl
  | k :: ks => by rw [List.any_cons, List.all_cons, ← all_any p ks]; cases p k <;> simp
set_option maxHeartbeats 4000000 in
theorem all_call {H : List (Option Blk)} {f : Fc} {Vk : Value} {known : List Bool} (hh : FcOk H f Vk known) {ks : List (List UInt8)} (hks : ks.length < 100000) (h32 : ∀ k ∈ ks, k.length = 32) :
    XCall Go.Proofs.Tryd.prog 42 [.ptr f.b f.l 0 [], .sl 32 (klA ks)] H fun r H' => r = .lit (.bool (ks.all (hasV known))) ∧ H' = H := by
  have h436 := fc436_eq
  have hcC : callable Go.Proofs.Tryd.prog 47 = true := by kernel_rfl
  refine XCall.le ?_
  refine XCall.of h436 rfl ?_; show AC.wp _ fb436 ⟨H.length, [.ptr f.b f.l 0 [], .sl 32 (klA ks)] ++ List.replicate (9 - 2) .any, H ++ List.replicate 9 none⟩ (fun x s => match x with | .exit _ => False | _ => ∃ s1, Le s s1 ∧ FinX [(.tmp 4)] s1 _); unfold fb436
  generalize hN : H.length = N at *
  have q1 : ∀ L k, (H ++ L)[N + k]? = L[k]? := fun L k => cat1 N H L k hN
  have q2 : ∀ L k x, (H ++ L).set (N + k) x = H ++ L.set k x := fun L k x => cat2 N H L k x hN
  refine wp_sg (areg_bx rfl rfl fun l => areg_end (by simp [push_cast, q2]; exact rfl) ?_)
  have cc := fun L (hc : (H ++ L)[N + 2]? = some (some (.box l 1 (.ptr f.b f.l 0 [])))) => containsP_call (H := H ++ L) (clo := cloN (N + 2) l) (g := 48) (as' := fun k => [keyA k, .ptr (N + 2) l 0 []]) (p := fun k => !hasV known k) (ks := ks) (fun k => tgt_cloN _ _ _) rfl
    (fun L' k hk => nothas_call (hh.app (L := L)).app (c := N + 2) (lc := l) (by rw [List.getElem?_append_left (List.getElem?_eq_some_iff.1 hc).1]; exact hc) hk) hks h32
  rw [← all_any]
  refine wp_sg ?_
  refine areg_run 1 (by simp [push_cast]; exact rfl) ?_
  refine areg_rdp (us := [.ptr (N + 2) l 0 []]) rfl (mkfn_cloN _ _) ?_
  refine areg_run 0 (by simp [push_cast]; exact rfl) ?_
  refine areg_xq (us := [.sl 32 (klA ks), cloN (N + 2) l]) rfl (by simp only [tgtA, tgtB, Option.bind_some, hcC, if_true]) (cc _ (by rw [q1]; rfl)) ⟨_, _, rfl, rfl⟩ (fun r hp' _ t' ht' => by cases ht') ?_
  rintro r H' ⟨rfl, rfl⟩
  generalize (ks.any fun k => !hasV known k) = b at *
  refine areg_end (by simp [push_cast]; exact rfl) (wp_ret' ?_)
  exact ⟨_, Le.refl _, finX1 (v := .lit (.bool (!b))) rfl (by simp) ⟨_, H, RelLe.refl _, by simp, HpLe.trim _ _, rfl, rfl⟩⟩
def madeV (ts : List Term) (known : List Bool) (x : Term) : Bool :=
  if x.kind = 1 then false else if x.kind = 4 then (hasV known (x.keys.getD 0 zk) && pubV ts known (x.keys.getD 1 zk)) || (hasV known (x.keys.getD 1 zk) && pubV ts known (x.keys.getD 0 zk)) else x.keys.all (hasV known)
theorem two_of {α : Type} : ∀ {ks : List α}, 2 ≤ ks.length → ∃ a b r, ks = a :: b :: r
  | a :: b :: r, _ => ⟨a, b, r, rfl⟩
  | [_], h => by simp at h
  | [], h => by simp at h
set_option maxHeartbeats 16000000 in
theorem made_call {H : List (Option Blk)} {f : Fc} {t : Tb} {V : Value} {ts : List Term} {Vk : Value} {known : List Bool} (hh : FtOk H f t V ts Vk known) {x : Term} (hx : TermOk x) (h2 : x.kind = 4 → 2 ≤ x.keys.length) :
    XCall Go.Proofs.Tryd.prog 37 [.ptr f.b f.l 0 [], termA x] H fun r H' => r = .lit (.bool (madeV ts known x)) ∧ H' = H := by
  have h432 := fc432_eq
  refine XCall.le ?_
  have ch := fun L k hk => has_call (hh.app (L := L)).fc (k := k) hk
  have cp := fun L k hk => fpub_call (hh.app (L := L)) (k := k) hk
  have ca := fun L => all_call (hh.app (L := L)).fc hx.keys hx.k32
  obtain ⟨kd, tx', ks⟩ := x
  obtain ⟨x1, x2, x3, x4⟩ := hx
  simp only at x1 x2 x3 x4 h2 ca ⊢
  unfold termA
  simp only
  refine XCall.of h432 rfl ?_; show AC.wp _ fb432 ⟨H.length, [.ptr f.b f.l 0 [], .st [1, 1, 1] [.lit (jn kd), .lit (tx tx'), .sl 32 (klA ks)]] ++ List.replicate (43 - 2) .any, H ++ List.replicate 43 none⟩ (fun x s => match x with | .exit _ => False | _ => ∃ s1, Le s s1 ∧ FinX [(.tmp 4)] s1 _); unfold fb432
  generalize hN : H.length = N at *
  have q1 : ∀ L k, (H ++ L)[N + k]? = L[k]? := fun L k => cat1 N H L k hN
  have q2 : ∀ L k x, (H ++ L).set (N + k) x = H ++ L.set k x := fun L k x => cat2 N H L k x hN
  refine wp_sg (areg_bx rfl rfl fun l => areg_end (by simp [push_cast, q2]; exact rfl) ?_)
  refine wp_seq' (wp_sr (by simp [push_cast, q1]; exact rfl) ?_)
  have efin : ∀ (b : Bool) (R : List (Option Blk)) (s : AS), b = madeV ts known ⟨kd, tx', ks⟩ → RVal s (.tmp 4) = some (.lit (.bool b)) → s.hp = H ++ R → ∃ s1, Le s s1 ∧ FinX [RV.tmp 4] s1 fun r H' => ∃ r' A, RelLe r r' ∧ r' ≠ .any ∧ HpLe H' A ∧ r' = .lit (.bool (madeV ts known ⟨kd, tx', ks⟩)) ∧ A = H := fun b R s e hr hR =>
    ⟨s, Le.refl _, finX1 hr (by simp) ⟨_, H, RelLe.refl _, by simp, by rw [hR]; exact HpLe.trim _ _, by rw [e], rfl⟩⟩
  refine wp_block' ?_
  by_cases k1 : kd = 1
  · have hv : false = madeV ts known ⟨kd, tx', ks⟩ := by simp [madeV, k1]
    refine wp_sr (by simp [push_cast, k1]; exact rfl) (wp_cond_t (by simp [AS.ev, k1]) ?_)
    refine wp_sr (by simp [push_cast]; exact rfl) (wp_ret' ?_)
    exact efin false _ _ hv rfl rfl
  refine wp_sr (by simp [push_cast]; exact rfl) (wp_cond_f (by simp [AS.ev, k1]) ?_)
  by_cases k4 : kd = 4
  · subst k4
    have h2' := h2 rfl
    obtain ⟨a, b, r, rfl⟩ : ∃ a b r, ks = a :: b :: r := two_of h2'
    have ha := x4 a (by simp)
    have hb := x4 b (by simp)
    have hv : madeV ts known ⟨4, tx', a :: b :: r⟩ = ((hasV known a && pubV ts known b) || (hasV known b && pubV ts known a)) := by simp [madeV]
    rw [hv] at efin
    simp only [hv]
    have c1 := fun L => ch L a ha
    have c2 := fun L => ch L b hb
    have c3 := fun L => cp L a ha
    have c4 := fun L => cp L b hb
    generalize hasV known a = v1 at *
    generalize hasV known b = v2 at *
    generalize pubV ts known a = v3 at *
    generalize pubV ts known b = v4 at *
    refine wp_sr (by simp [push_cast]; exact rfl) (wp_cond_t (by simp [AS.ev]) ?_)
    refine wp_sg ?_
    refine areg_run 8 (by simp [push_cast, q1, klA]; exact rfl) ?_
    refine areg_al' zk_eq.symm fun l5 => areg_al' zk_eq.symm fun l6 => areg_end (by simp [push_cast, q1, q2, ha, hb]; exact rfl) ?_
    refine wp_sg ?_
    refine areg_run 2 (by simp [push_cast, q1, ha, hb]; exact rfl) ?_
    refine areg_xc rfl (c1 _) ⟨_, _, rfl, rfl⟩ ?_
    rintro _ _ ⟨rfl, rfl⟩
    cases v1 with
    | true =>
      refine areg_run 3 (by simp [push_cast, q1, ha, hb]; exact rfl) ?_
      refine areg_g (by simp [AS.ev, AS.put]) (areg_xc rfl (c4 _) ⟨_, _, rfl, rfl⟩ ?_)
      rintro _ _ ⟨rfl, rfl⟩
      cases v4 with
      | true =>
        refine areg_run 2 (by simp [push_cast]; exact rfl) ?_
        refine areg_run 4 (by simp [push_cast]; exact rfl) ?_
        refine areg_end (by simp [push_cast]; exact rfl) (wp_ret' ?_)
        exact efin true _ _ (by simp) rfl rfl
      | false =>
        refine areg_run 2 (by simp [push_cast]; exact rfl) ?_
        refine areg_run 2 (by simp [push_cast, q1, ha, hb]; exact rfl) ?_
        refine areg_g (by simp [AS.ev, AS.put]) (areg_xc rfl (c2 _) ⟨_, _, rfl, rfl⟩ ?_)
        rintro _ _ ⟨rfl, rfl⟩
        cases v2 with
        | true =>
          refine areg_run 3 (by simp [push_cast, q1, ha, hb]; exact rfl) ?_
          refine areg_g (by simp [AS.ev, AS.put]) (areg_xc rfl (c3 _) ⟨_, _, rfl, rfl⟩ ?_)
          rintro _ _ ⟨rfl, rfl⟩
          refine areg_end (by simp [push_cast]; exact rfl) (wp_ret' ?_)
          exact efin v3 _ _ (by simp) rfl rfl
        | false =>
          refine areg_run 1 (by simp [push_cast]; exact rfl) ?_
          refine areg_run 3 (by simp [push_cast]; exact rfl) ?_
          refine areg_end (by simp [push_cast]; exact rfl) (wp_ret' ?_)
          exact efin false _ _ (by simp) rfl rfl
    | false =>
      refine areg_run 1 (by simp [push_cast]; exact rfl) ?_
      refine areg_run 3 (by simp [push_cast]; exact rfl) ?_
      refine areg_run 2 (by simp [push_cast]; exact rfl) ?_
      refine areg_run 2 (by simp [push_cast, q1, ha, hb]; exact rfl) ?_
      refine areg_g (by simp [AS.ev, AS.put]) (areg_xc rfl (c2 _) ⟨_, _, rfl, rfl⟩ ?_)
      rintro _ _ ⟨rfl, rfl⟩
      cases v2 with
      | true =>
        refine areg_run 3 (by simp [push_cast, q1, ha, hb]; exact rfl) ?_
        refine areg_g (by simp [AS.ev, AS.put]) (areg_xc rfl (c3 _) ⟨_, _, rfl, rfl⟩ ?_)
        rintro _ _ ⟨rfl, rfl⟩
        refine areg_end (by simp [push_cast]; exact rfl) (wp_ret' ?_)
        exact efin v3 _ _ (by simp) rfl rfl
      | false =>
        refine areg_run 1 (by simp [push_cast]; exact rfl) ?_
        refine areg_run 3 (by simp [push_cast]; exact rfl) ?_
        refine areg_end (by simp [push_cast]; exact rfl) (wp_ret' ?_)
        exact efin false _ _ (by simp) rfl rfl
  · have hv : madeV ts known ⟨kd, tx', ks⟩ = ks.all (hasV known) := by simp [madeV, k1, k4]
    rw [hv] at efin
    rw [hv]
    generalize ks.all (hasV known) = v at *
    refine wp_sr (by simp [push_cast]; exact rfl) (wp_cond_f (by simp [AS.ev, k4]) (wp_skip' ?_))
    refine wp_sg ?_
    refine areg_run 3 (by simp [push_cast, q1]; exact rfl) ?_
    refine areg_xc rfl (ca _) ⟨_, _, rfl, rfl⟩ ?_
    rintro _ _ ⟨rfl, rfl⟩
    refine areg_end (by simp [push_cast]; exact rfl) (wp_ret' ?_)
    exact efin v _ _ rfl rfl rfl
end Go.Cab
namespace Go.Cab
open Classical
def fb427 : AC := (.seq (.reg [⟨some 2, none, .mov (.const (.bool false)), [], none⟩]) (.seq (.reg [⟨some 3, none, .mov (.const (.bool false)), [], none⟩]) (.seq (.seq (.reg [⟨some 8, none, .mov (.tmp 0), [], none⟩, ⟨some 9, none, .nilc (.tmp 8), [], none⟩, ⟨some 10, none, .faddr 0 0 (.tmp 9), [], none⟩, ⟨some 11, none, .load false 1 (.tmp 10), [], none⟩, ⟨some 12, none, .nilc (.tmp 11), [], none⟩, ⟨some 13, none, .faddr 0 0 (.tmp 12), [], none⟩, ⟨some 14, none, .load false 1 (.tmp 13), [], none⟩, ⟨some 15, none, .len false (.tmp 14), [], none⟩, ⟨some 16, none, .mov (.const (jn 0)), [], none⟩]) (.block 0 (.loop (.seq (.reg [⟨some 17, none, .bin .lss (.tmp 16) (.tmp 15), [], none⟩]) (.seq (.cond (.tmp 17) .skip (.exit 0)) (.seq (.block 1 (.seq (.reg [⟨some 18, none, .mov (.tmp 16), [], none⟩, ⟨some 19, none, .iaddrS 3 (.tmp 14) (.tmp 16), [], none⟩, ⟨some 20, none, .load true 3 (.tmp 19), [], none⟩, ⟨some 5, none, .alloc 3 (.st [1, 1, 1] [(.lit (jn 0)), (.lit (tx [])), (.lit (.slice .none 0 0))]), [], none⟩, ⟨some 4, none, .mov (.tmp 18), [], none⟩, ⟨none, none, .store 3 (.tmp 5) (.tmp 20), [], none⟩]) (.seq (.seq (.reg [⟨some 21, none, .mov (.tmp 0), [], none⟩, ⟨some 22, none, .nilc (.tmp 21), [], none⟩, ⟨some 23, none, .faddr 1 1 (.tmp 22), [], none⟩, ⟨some 24, none, .load false 1 (.tmp 23), [], none⟩, ⟨some 25, none, .mov (.tmp 4), [], none⟩, ⟨some 26, none, .iaddrS 1 (.tmp 24) (.tmp 25), [], none⟩, ⟨some 27, none, .load false 1 (.tmp 26), [], none⟩, ⟨some 28, none, .un .not (.tmp 27), [], none⟩, ⟨some 29, none, .mov (.tmp 28), [], none⟩, ⟨some 30, some (29, true), .mov (.tmp 0), [], none⟩, ⟨some 31, some (29, true), .load true 3 (.tmp 5), [], none⟩, ⟨some 32, some (29, true), .icall 37 (.tmp 30) [.tmp 31], [], none⟩, ⟨some 33, none, .pick (.tmp 29) (.tmp 32) (.const (.bool false)), [], none⟩]) (.cond (.tmp 33) (.reg [⟨some 34, none, .mov (.tmp 0), [], none⟩, ⟨some 35, none, .nilc (.tmp 34), [], none⟩, ⟨some 36, none, .faddr 1 1 (.tmp 35), [], none⟩, ⟨some 37, none, .load false 1 (.tmp 36), [], none⟩, ⟨some 38, none, .mov (.tmp 4), [], none⟩, ⟨some 39, none, .iaddrS 1 (.tmp 37) (.tmp 38), [], none⟩, ⟨none, none, .store 1 (.tmp 39) (.const (.bool true)), [], none⟩, ⟨some 3, none, .mov (.const (.bool true)), [], none⟩]) .skip)) (.seq (.reg [⟨some 40, none, .mov (.tmp 0), [], none⟩, ⟨some 41, none, .nilc (.tmp 40), [], none⟩, ⟨some 42, none, .faddr 1 1 (.tmp 41), [], none⟩, ⟨some 43, none, .load false 1 (.tmp 42), [], none⟩, ⟨some 44, none, .mov (.tmp 4), [], none⟩, ⟨some 45, none, .iaddrS 1 (.tmp 43) (.tmp 44), [], none⟩, ⟨some 46, none, .load false 1 (.tmp 45), [], none⟩, ⟨some 47, none, .mov (.tmp 46), [], none⟩, ⟨some 48, some (47, true), .faddr 0 0 (.tmp 5), [], none⟩, ⟨some 49, some (47, true), .load false 1 (.tmp 48), [], none⟩, ⟨some 50, some (47, true), .bin .eql (.tmp 49) (.const (jn 6)), [], none⟩, ⟨some 51, none, .pick (.tmp 47) (.tmp 50) (.const (.bool false)), [], none⟩, ⟨some 52, none, .mov (.tmp 51), [], none⟩, ⟨some 53, some (52, true), .mov (.tmp 0), [], none⟩, ⟨some 54, some (52, true), .faddr 2 2 (.tmp 5), [], none⟩, ⟨some 55, some (52, true), .load false 1 (.tmp 54), [], none⟩, ⟨some 56, some (52, true), .iaddrS 32 (.tmp 55) (.const (jn 0)), [], none⟩, ⟨some 57, some (52, true), .load true 32 (.tmp 56), [], none⟩, ⟨some 58, some (52, true), .icall 30 (.tmp 53) [.tmp 57], [], none⟩, ⟨some 59, none, .pick (.tmp 52) (.tmp 58) (.const (.bool false)), [], none⟩]) (.cond (.tmp 59) (.seq (.reg [⟨some 60, none, .faddr 2 2 (.tmp 5), [], none⟩, ⟨some 61, none, .load false 1 (.tmp 60), [], none⟩, ⟨some 62, none, .rdp (.sslice 32 true false) [(.tmp 61), (.const (jn 2))], [], none⟩, ⟨some 63, none, .len false (.tmp 62), [], none⟩, ⟨some 64, none, .mov (.const (jn 0)), [], none⟩]) (.block 2 (.loop (.seq (.reg [⟨some 65, none, .bin .lss (.tmp 64) (.tmp 63), [], none⟩]) (.seq (.cond (.tmp 65) .skip (.exit 2)) (.seq (.block 3 (.seq (.reg [⟨some 66, none, .iaddrS 32 (.tmp 62) (.tmp 64), [], none⟩, ⟨some 67, none, .load true 32 (.tmp 66), [], none⟩, ⟨some 7, none, .alloc 32 (.arr 1 (List.replicate 32 (.lit (bn 0)))), [], none⟩, ⟨none, none, .store 32 (.tmp 7) (.tmp 67), [], none⟩]) (.reg [⟨some 68, none, .mov (.tmp 0), [], none⟩, ⟨some 69, none, .load true 32 (.tmp 7), [], none⟩, ⟨some 70, none, .icall 28 (.tmp 68) [.tmp 69], [], none⟩, ⟨some 71, none, .mov (.tmp 70), [], none⟩, ⟨some 72, some (71, false), .mov (.tmp 3), [], none⟩, ⟨some 73, none, .pick (.tmp 71) (.const (.bool true)) (.tmp 72), [], none⟩, ⟨some 3, none, .mov (.tmp 73), [], none⟩]))) (.reg [⟨some 74, none, .bin .add (.tmp 64) (.const (jn 1)), [], none⟩, ⟨some 64, none, .mov (.tmp 74), [], none⟩]))))))) .skip))))) (.reg [⟨some 75, none, .bin .add (.tmp 16) (.const (jn 1)), [], none⟩, ⟨some 16, none, .mov (.tmp 75), [], none⟩]))))))) (.seq (.reg [⟨some 76, none, .mov (.tmp 3), [], none⟩, ⟨some 2, none, .mov (.tmp 76), [], none⟩]) .ret))))
def fc427 : FC := ⟨1, 77, [(.tmp 2)], fb427⟩
theorem fc427_eq : compF Go.Proofs.Tryd.prog 29 = some fc427 := by kernel_rfl
def learnL : List Bool → Bool → List (List UInt8) → List Bool × Bool
  | known, more, [] => (known, more)
  | known, more, k :: ks => learnL (learnV known k).2 ((learnV known k).1 || more) ks
def step1 (ts : List Term) (i : Nat) (known : List Bool) (more : Bool) (x : Term) : List Bool × Bool :=
  if known.getD i true = false ∧ madeV ts known x = true then (known.set i true, true) else (known, more)
def step2 (i : Nat) (known : List Bool) (more : Bool) (x : Term) : List Bool × Bool :=
  if known.getD i false = true ∧ x.kind = 6 ∧ hasV known (x.keys.getD 0 zk) = true then learnL known more (x.keys.drop 2) else (known, more)
def stepV (ts : List Term) (i : Nat) (known : List Bool) (more : Bool) (x : Term) : List Bool × Bool := step2 i (step1 ts i known more x).1 (step1 ts i known more x).2 x
def roundG (ts : List Term) : List Term → Nat → List Bool → Bool → List Bool × Bool
  | [], _, known, more => (known, more)
  | x :: xs, i, known, more => roundG ts xs (i + 1) (stepV ts i known more x).1 (stepV ts i known more x).2
def roundV (ts : List Term) (known : List Bool) : List Bool × Bool := roundG ts ts 0 known false
theorem learnV_len (known : List Bool) (k : List UInt8) : (learnV known k).2.length = known.length := by unfold learnV; split <;> simp
theorem learnL_len : ∀ (ks : List (List UInt8)) (known : List Bool) (more : Bool), (learnL known more ks).1.length = known.length
  | [], _, _ => rfl
  | k :: ks, known, more => by rw [learnL, learnL_len ks, learnV_len]
theorem step1_len (ts : List Term) (i : Nat) (known : List Bool) (more : Bool) (x : Term) : (step1 ts i known more x).1.length = known.length := by unfold step1; split <;> simp
theorem step2_len (i : Nat) (known : List Bool) (more : Bool) (x : Term) : (step2 i known more x).1.length = known.length := by
  unfold step2; split
  · exact learnL_len _ _ _
  · rfl
theorem stepV_len (ts : List Term) (i : Nat) (known : List Bool) (more : Bool) (x : Term) : (stepV ts i known more x).1.length = known.length := by unfold stepV; rw [step2_len, step1_len]
theorem roundG_len (ts : List Term) : ∀ (xs : List Term) (i : Nat) (known : List Bool) (more : Bool), (roundG ts xs i known more).1.length = known.length
  | [], _, _, _ => rfl
  | x :: xs, i, known, more => by rw [roundG, roundG_len ts xs, stepV_len]
section
variable {H : List (Option Blk)} {f : Fc} {t : Tb} {V : Value} {ts : List Term} {Vk : Value} {known : List Bool}
theorem kOf_len (H : List (Option Blk)) (f : Fc) (Vk : Value) (known : List Bool) : (kOf H f Vk known).length = H.length := by simp [kOf]
theorem kOf_of (H : List (Option Blk)) (f : Fc) (Vk : Value) (a b : List Bool) : kOf (kOf H f Vk a) f Vk b = kOf H f Vk b := by simp [kOf]
theorem FtOk.of (h : FtOk H f t V ts Vk known) {k2 : List Bool} (hl : k2.length = known.length) : FtOk (kOf H f Vk k2) f t V ts Vk k2 := by
  obtain ⟨⟨a1, a2, a3, a4⟩, b, c, d, e, d1, d2, d3, d4⟩ := h
  have lj := (List.getElem?_eq_some_iff.1 a2).1
  have hT : TbOk (kOf H f Vk k2) t V ts := ⟨b.bj, b.bm, b.jm, by unfold kOf; rw [List.getElem?_set_ne d1]; exact b.hb, by unfold kOf; rw [List.getElem?_set_ne d2]; exact b.hj, by unfold kOf; rw [List.getElem?_set_ne d3]; exact b.hm⟩
  refine ⟨⟨by unfold kOf; rw [List.getElem?_set_ne d4]; exact a1, by unfold kOf; rw [List.getElem?_set_self lj], ?_, by omega⟩, hT, c, d, by omega, d1, d2, d3, d4⟩
  rw [c, d, hl, e]
  exact hT.tabX
end
def rdS (N : Nat) (H : List (Option Blk)) (f : Fc) (t : Tb) (V : Value) (n : Nat) (Vk : Value) (x : Nat × List Bool × Bool) : AS :=
  ⟨N, [.ptr f.b f.l 0 [], .any, .lit (.bool false), .lit (.bool x.2.2)] ++ List.replicate 10 .any ++ [.own t.j V, .lit (jn n), .lit (jn x.1)] ++ List.replicate 60 .any, kOf H f Vk x.2.1 ++ List.replicate 77 none⟩
def rd1 (N : Nat) (H : List (Option Blk)) (f : Fc) (t : Tb) (V : Value) (n : Nat) (Vk : Value) (i : Nat) (l5 : Nat × Nat) (x : Term) (y : List Bool × Bool) : AS :=
  ⟨N, [.ptr f.b f.l 0 [], .any, .lit (.bool false), .lit (.bool y.2), .lit (jn i), .ptr (N + 5) l5 0 []] ++ List.replicate 8 .any ++ [.own t.j V, .lit (jn n), .lit (jn i)] ++ List.replicate 60 .any, kOf H f Vk y.1 ++ ([none, none, none, none, none, some (.box l5 3 (termA x))] ++ List.replicate 71 none)⟩
def rd2 (N : Nat) (H : List (Option Blk)) (f : Fc) (t : Tb) (V : Value) (n : Nat) (Vk : Value) (i : Nat) (l5 : Nat × Nat) (x : Term) (ks : List (List UInt8)) (z : Nat × List Bool × Bool) : AS :=
  ⟨N, [.ptr f.b f.l 0 [], .any, .lit (.bool false), .lit (.bool z.2.2), .lit (jn i), .ptr (N + 5) l5 0 []] ++ List.replicate 8 .any ++ [.own t.j V, .lit (jn n), .lit (jn i)] ++ List.replicate 45 .any ++ [.sl 32 (klA ks), .lit (jn ks.length), .lit (jn z.1)] ++ List.replicate 12 .any, kOf H f Vk z.2.1 ++ ([none, none, none, none, none, some (.box l5 3 (termA x))] ++ List.replicate 71 none)⟩
set_option maxHeartbeats 64000000 in
theorem round_call {H : List (Option Blk)} {f : Fc} {t : Tb} {V : Value} {ts : List Term} {Vk : Value} {known : List Bool} (hh : FtOk H f t V ts Vk known) (hts : TsOk ts) :
    XCall Go.Proofs.Tryd.prog 29 [.ptr f.b f.l 0 []] H fun r H' => r = .lit (.bool (roundV ts known).2) ∧ H' = kOf H f Vk (roundV ts known).1 := by
  have h427 := fc427_eq
  refine XCall.le ?_
  have hself := hh.fc.self
  have hof := fun (k2 : List Bool) (hl : k2.length = known.length) => hh.of hl
  obtain ⟨⟨hb, hj, _, hn⟩, hT, eb, el, hlen, d1, d2, d3, d4⟩ := hh
  have lb := (List.getElem?_eq_some_iff.1 hb).1
  have lj := (List.getElem?_eq_some_iff.1 hj).1
  have ltb := hT.lb
  have ltj := hT.lj
  have htb := hT.hb
  have htj := hT.hj
  unfold fbk at hb
  unfold tbk at htb
  unfold trk at htj
  refine XCall.of h427 rfl ?_; show AC.wp _ fb427 ⟨H.length, [.ptr f.b f.l 0 []] ++ List.replicate (77 - 1) .any, H ++ List.replicate 77 none⟩ (fun x s => match x with | .exit _ => False | _ => ∃ s1, Le s s1 ∧ FinX [(.tmp 2)] s1 _); unfold fb427
  rw [← hself]
  rw [kOf_len]
  simp only [kOf_of]
  generalize hN : H.length = N at *
  have G1 : ∀ kw, (kOf H f Vk kw).length = N := fun kw => by rw [kOf_len, hN]
  have q1 : ∀ kw L k, (kOf H f Vk kw ++ L)[N + k]? = L[k]? := fun kw L k => cat1 N _ L k (G1 _)
  have q2 : ∀ kw L k x, (kOf H f Vk kw ++ L).set (N + k) x = kOf H f Vk kw ++ L.set k x := fun kw L k x => cat2 N _ L k x (G1 _)
  have q3 : ∀ kw L, (kOf H f Vk kw ++ L)[f.b]? = some (some (.box f.l 2 (.st [1, 1] [.ptr t.b t.l 0 [], .own f.j Vk]))) := fun kw L => by
    rw [cat4 N _ L _ (G1 _) lb]; unfold kOf; rw [List.getElem?_set_ne d4, hb, eb, el]
  have q4 : ∀ kw L, (kOf H f Vk kw ++ L)[f.j]? = some (some (.row 4 Vk 1 (kwA kw) 0)) := fun kw L => by
    rw [cat4 N _ L _ (G1 _) lj]; unfold kOf; rw [List.getElem?_set_self (by omega)]; rfl
  have q5 : ∀ kw kw' L, (kOf H f Vk kw ++ L).set f.j (some (.row 4 Vk 1 (kwA kw') 0)) = kOf H f Vk kw' ++ L := fun kw kw' L => by
    rw [cat3 N _ L _ _ (G1 _) lj]; unfold kOf; rw [List.set_set]; rfl
  have q6 : ∀ kw L, (kOf H f Vk kw ++ L)[t.b]? = some (some (.box t.l 2 (.st [1, 1] [.own t.j V, .own t.m (.map (some t.r))]))) := fun kw L => by
    rw [cat4 N _ L _ (G1 _) ltb]; unfold kOf; rw [List.getElem?_set_ne d1]; exact htb
  have q7 : ∀ kw L, (kOf H f Vk kw ++ L)[t.j]? = some (some (.row 100 V 3 (ts.map termA) 0)) := fun kw L => by
    rw [cat4 N _ L _ (G1 _) ltj]; unfold kOf; rw [List.getElem?_set_ne d2]; exact htj
  have hml : (ts.map termA).length = ts.length := List.length_map _
  refine wp_sr (by simp [push_cast]; exact rfl) (wp_sr (by simp [push_cast]; exact rfl) ?_)
  refine wp_seq' (wp_seq' (wp_r (by simp [push_cast, q1, q3, q6, q7, hml]; exact rfl) ?_))
  refine wp_block' (wp_loop_m (rdS N H f t V ts.length Vk) (fun x => ts.length - x.1) (fun x => roundG ts (ts.drop x.1) x.1 x.2.1 x.2.2 = roundV ts known ∧ x.1 ≤ ts.length ∧ x.2.1.length = known.length) (0, known, false) (Le.mk rfl (by simp [rdS, leT]) ?_) ⟨rfl, by simp, rfl⟩ ?_)
  · exact leH_refl _
  rintro ⟨i, kw, more⟩ ⟨hI, hi, hkl⟩
  simp only at hI hi hkl ⊢
  have efin : ∀ (b : Bool) (kw : List Bool) (R : List (Option Blk)) (s : AS), (kw, b) = roundV ts known → RVal s (.tmp 2) = some (.lit (.bool b)) → s.hp = kOf H f Vk kw ++ R → ∃ s1, Le s s1 ∧ FinX [RV.tmp 2] s1 fun r H' => ∃ r' A, RelLe r r' ∧ r' ≠ .any ∧ HpLe H' A ∧ r' = .lit (.bool (roundV ts known).2) ∧ A = kOf H f Vk (roundV ts known).1 := fun b kw R s e hr hR =>
    ⟨s, Le.refl _, finX1 hr (by simp) ⟨_, kOf H f Vk kw, RelLe.refl _, by simp, by rw [hR]; exact HpLe.trim _ _, by rw [← e], by rw [← e]⟩⟩
  unfold rdS
  simp only
  by_cases hlt : i < ts.length
  · obtain ⟨x, hx⟩ : ∃ x, ts[i]? = some x := ⟨_, List.getElem?_eq_getElem hlt⟩
    have hdrop : ts.drop i = x :: ts.drop (i + 1) := by
      rw [List.drop_eq_getElem_cons hlt]
      rw [List.getElem?_eq_getElem hlt] at hx
      rw [Option.some.inj hx]
    rw [hdrop, roundG] at hI
    have hmem := List.mem_of_getElem? hx
    have hxok := hts.ok _ hmem
    have hx2 := hts.two _ hmem
    have hsl := stepV_len ts i kw more x
    have q8 : i + 1 < 9223372036854775808 := by have := hts.len; omega
    have hb' : ∃ b, kw[i]? = some b := ⟨_, List.getElem?_eq_getElem (by omega)⟩
    obtain ⟨b, hb'⟩ := hb'
    have hkw : i < kw.length := by omega
    have g1 : (ts.map termA)[i]? = some (termA x) := by rw [List.getElem?_map, hx]; rfl
    have g2 : ∀ h, (ts.map termA)[i]'h = termA x := fun h => by rw [List.getElem?_eq_getElem h] at g1; exact Option.some.inj g1
    have tsz : (termA x).sz = 3 := rfl
    have tag : (termA x).isAgg = true := rfl
    have ttp : (termA x).isTup = false := rfl
    refine wp_sr (by simp [push_cast, hlt]; exact rfl) (wp_seq' (wp_cond_t (by simp [AS.ev]) (wp_skip' ?_)))
    refine wp_seqM (fun y : List Bool × Bool => rdS N H f t V ts.length Vk (i, y)) (fun y => y = stepV ts i kw more x) ?_ ?_
    · rintro y rfl
      unfold rdS
      refine wp_r (by simp [push_cast, q8]; exact rfl) ?_
      refine Exists.intro (i + 1, (stepV ts i kw more x).1, (stepV ts i kw more x).2) ⟨⟨hI, by omega, by rw [hsl, hkl]⟩, by simp only; omega, Le.mk rfl (by simp [rdS, leT]) (leH_refl _)⟩
    refine wp_block' ?_
    generalize hT0 : ts.map termA = T at *
    refine wp_sg ?_
    refine areg_run 3 (by simp [push_cast, q7, g1, g2, hml, hlt, hN]; exact rfl) ?_
    refine areg_al' rfl fun l5 => ?_
    refine areg_end (by simp [push_cast, q2, tsz, tag, ttp, q1]; exact rfl) ?_
    have f1 := step1_len ts i kw more x
    have cm := fun L => made_call ((hof kw hkl).app (L := L)) hxok (fun h => hx2 (.inl h))
    have hs2 : stepV ts i kw more x = step2 i (step1 ts i kw more x).1 (step1 ts i kw more x).2 x := rfl
    refine wp_seqM (fun y : List Bool × Bool => rd1 N H f t V ts.length Vk i l5 x y) (fun y => y = step1 ts i kw more x) ?_ ?_
    rotate_left
    · have hs1 : step1 ts i kw more x = if b = false ∧ madeV ts kw x = true then (kw.set i true, true) else (kw, more) := by
        unfold step1; rw [List.getD_eq_getElem?_getD, hb']; rfl
      rw [hs1]
      clear hs1 hs2 f1 hI hsl
      generalize madeV ts kw x = mv at *
      have k1 : (kwA kw)[i]? = some (.lit (.bool b)) := by rw [kwA_get, hb']; rfl
      have k2 : ∀ h, (kwA kw)[i]'h = .lit (.bool b) := fun h => by rw [List.getElem?_eq_getElem h] at k1; exact Option.some.inj k1
      refine wp_seq' (wp_rg ?_)
      cases b with
      | true =>
        refine areg_run 9 (by simp [push_cast, q1, q3, q4, k1, k2, hkw, kwA_len]; exact rfl) ?_
        refine areg_end (by simp [push_cast]; exact rfl) ?_
        refine wp_cond_f (by simp [AS.ev]) (wp_skip' ?_)
        exact ⟨_, rfl, Le.mk rfl (by simp [rd1, leT]) (leH_app (leH_refl _) (by simp [leH]))⟩
      | false =>
        refine areg_run 9 (by simp [push_cast, q1, q3, q4, k1, k2, hkw, kwA_len]; exact rfl) ?_
        refine areg_run 2 (by simp [push_cast, q1, tsz, tag, ttp]; exact rfl) ?_
        refine areg_g (by simp [AS.ev, AS.put]) (areg_xc rfl (cm _) ⟨_, _, rfl, rfl⟩ ?_)
        rintro _ _ ⟨rfl, rfl⟩
        refine areg_end (by simp [push_cast]; exact rfl) ?_
        cases mv with
        | false =>
          refine wp_cond_f (by simp [AS.ev]) (wp_skip' ?_)
          exact ⟨_, rfl, Le.mk rfl (by simp [rd1, leT]) (leH_app (leH_refl _) (by simp [leH]))⟩
        | true =>
          refine wp_cond_t (by simp [AS.ev]) (wp_rg ?_)
          refine areg_run 6 (by simp [push_cast, q1, q3, q4, k1, k2, hkw, kwA_len]; exact rfl) ?_
          refine areg_end (by simp [push_cast, q1, q3, q4, q5, k1, k2, hkw, kwA_len, kwA_set]; exact rfl) ?_
          exact ⟨_, rfl, Le.mk rfl (by simp [rd1, leT]) (leH_app (leH_refl _) (by simp [leH]))⟩
    · rintro y rfl
      rw [hs2] at hI hsl ⊢
      clear hs2 cm
      generalize step1 ts i kw more x = y at *
      obtain ⟨k3, m3⟩ := y
      simp only at hI hsl f1 ⊢
      have hk3 : i < k3.length := by omega
      obtain ⟨b3, hb3⟩ : ∃ b, k3[i]? = some b := ⟨_, List.getElem?_eq_getElem (by omega)⟩
      have k1 : (kwA k3)[i]? = some (.lit (.bool b3)) := by rw [kwA_get, hb3]; rfl
      have k2 : ∀ h, (kwA k3)[i]'h = .lit (.bool b3) := fun h => by rw [List.getElem?_eq_getElem h] at k1; exact Option.some.inj k1
      have hs2 : step2 i k3 m3 x = if b3 = true ∧ x.kind = 6 ∧ hasV k3 (x.keys.getD 0 zk) = true then learnL k3 m3 (x.keys.drop 2) else (k3, m3) := by
        unfold step2; rw [List.getD_eq_getElem?_getD, hb3]; rfl
      rw [hs2]
      have ch := fun L k hk => has_call ((hof k3 (by omega)).app (L := L)).fc (k := k) hk
      have cl := fun (k4 : List Bool) (hl : k4.length = known.length) L k hk => learn_call ((hof k4 hl).app (L := L)).fc (k := k) hk
      have hfin : ∀ (tm : List AV) (L : List (Option Blk)) (y : List Bool × Bool), leT tm (rdS N H f t V ts.length Vk (i, y)).tm → leH L (List.replicate 77 none) → ∃ z, z = y ∧ Le ⟨N, tm, kOf H f Vk y.1 ++ L⟩ (rdS N H f t V ts.length Vk (i, z)) := fun tm L y h1 h2 => ⟨y, rfl, Le.mk rfl h1 (leH_app (leH_refl _) h2)⟩
      obtain ⟨xk, xt, xs⟩ := x
      obtain ⟨x1, x2, x3, x4⟩ := hxok
      simp only at x1 x2 x3 x4 hx2 hs2 ⊢
      unfold rd1 termA
      simp only
      refine wp_seq' (wp_rg ?_)
      cases b3 with
      | false =>
        refine areg_run 8 (by simp [push_cast, q1, q3, q4, k1, k2, hk3, kwA_len]; exact rfl) ?_
        refine areg_run 5 (by simp [push_cast]; exact rfl) ?_
        refine areg_end (by simp [push_cast]; exact rfl) ?_
        refine wp_cond_f (by simp [AS.ev]) (wp_skip' ?_)
        rw [if_neg (by simp)]
        exact hfin _ _ (k3, m3) (by simp [rdS, leT]) (by simp [leH])
      | true =>
        by_cases h6 : xk = 6
        · subst h6
          have hx2' := hx2 (.inr rfl)
          obtain ⟨a0, b0, r0, rfl⟩ := two_of hx2'
          have ha0 := x4 a0 (by simp)
          have ch1 := fun L => ch L a0 ha0
          have e1 : klA (a0 :: b0 :: r0) = keyA a0 :: keyA b0 :: klA r0 := rfl
          simp only [List.getD_cons_zero, List.drop_succ_cons, List.drop_zero, true_and]
          refine areg_run 8 (by simp [push_cast, q1, q3, q4, k1, k2, hk3, kwA_len]; exact rfl) ?_
          refine areg_run 5 (by simp [push_cast, q1]; exact rfl) ?_
          refine areg_run 5 (by simp [push_cast, q1, e1, ha0]; exact rfl) ?_
          refine areg_g (by simp [AS.ev, AS.put]) (areg_xc rfl (ch1 _) ⟨_, _, rfl, rfl⟩ ?_)
          rintro _ _ ⟨rfl, rfl⟩
          generalize hasV k3 a0 = hv at *
          refine areg_end (by simp [push_cast]; exact rfl) ?_
          cases hv with
          | false =>
            refine wp_cond_f (by simp [AS.ev]) (wp_skip' ?_)
            rw [if_neg (by simp)]
            exact hfin _ _ (k3, m3) (by simp [rdS, leT]) (by simp [leH])
          | true =>
            rw [if_pos rfl]
            have hll := learnL_len r0 k3 m3
            have e2 : (klA r0).length = r0.length := klA_len r0
            have e3 : (keyA a0 :: keyA b0 :: klA r0).take (r0.length + 2) = keyA a0 :: keyA b0 :: klA r0 := by rw [← e2]; exact List.take_of_length_le (by simp)
            have e4 : (klA r0).take r0.length = klA r0 := by rw [← e2]; exact List.take_length
            simp only [List.length_cons] at x3
            refine wp_cond_t (by simp [AS.ev]) ?_
            refine wp_sr (by simp [push_cast, q1, e1, e2, e3, e4]; exact rfl) ?_
            refine wp_block' (wp_loop_m (rd2 N H f t V ts.length Vk i l5 ⟨6, xt, a0 :: b0 :: r0⟩ r0) (fun z => r0.length - z.1) (fun z => learnL z.2.1 z.2.2 (r0.drop z.1) = learnL k3 m3 r0 ∧ z.1 ≤ r0.length ∧ z.2.1.length = known.length) (0, k3, m3) (Le.mk rfl (by simp [rd2, leT]) (leH_app (leH_refl _) (by simp [leH, termA, klA, keyA]))) ⟨rfl, by simp, by simp only; omega⟩ ?_)
            clear ch ch1 cl
            rintro ⟨q, k4, m4⟩ ⟨hq, hql, hk4⟩
            simp only at hq hql hk4 ⊢
            unfold rd2
            simp only
            have cl := fun L k hk => learn_call ((hof k4 hk4).app (L := L)).fc (k := k) hk
            by_cases hqlt : q < r0.length
            · obtain ⟨u, hu⟩ : ∃ u, r0[q]? = some u := ⟨_, List.getElem?_eq_getElem hqlt⟩
              have hdrop2 : r0.drop q = u :: r0.drop (q + 1) := by
                rw [List.drop_eq_getElem_cons hqlt]
                rw [List.getElem?_eq_getElem hqlt] at hu
                rw [Option.some.inj hu]
              rw [hdrop2, learnL] at hq
              have hu32 := x4 u (by simp [List.mem_of_getElem? hu])
              have j1 : (klA r0)[q]? = some (keyA u) := by rw [klA_get, hu]; rfl
              have j2 : ∀ h, (klA r0)[q]'h = keyA u := fun h => by rw [List.getElem?_eq_getElem h] at j1; exact Option.some.inj j1
              have j3 : q + 1 < 9223372036854775808 := by omega
              have cl1 := fun L => cl L u hu32
              have hl4 := learnV_len k4 u
              generalize learnV k4 u = lv at *
              obtain ⟨b5, k5⟩ := lv
              simp only at hq hl4 cl1
              refine wp_sr (by simp [push_cast, hqlt]; exact rfl) (wp_seq' (wp_cond_t (by simp [AS.ev]) (wp_skip' ?_)))
              refine wp_seq' (wp_block' (wp_sg ?_))
              refine areg_run 2 (by simp [push_cast, j1, j2, hqlt, klA_len]; exact rfl) ?_
              refine areg_al' zk_eq.symm fun l7 => areg_end (by simp [push_cast, q1, q2, hu32]; exact rfl) ?_
              refine wp_rg ?_
              refine areg_run 2 (by simp [push_cast, q1, hu32]; exact rfl) ?_
              refine areg_xc rfl (cl1 _) ⟨_, _, rfl, rfl⟩ ?_
              rintro _ _ ⟨rfl, rfl⟩
              have hko : ∀ L, kOf (kOf H f Vk k4 ++ L) f Vk k5 = kOf H f Vk k5 ++ L := fun L => q5 k4 k5 L
              rw [hko]
              cases b5 with
              | true =>
                refine areg_run 1 (by simp [push_cast]; exact rfl) ?_
                refine areg_end (by simp [push_cast]; exact rfl) ?_
                refine wp_r (by simp [push_cast, j3]; exact rfl) ?_
                exact Exists.intro (q + 1, k5, true) ⟨⟨hq, by omega, by simp only; omega⟩, by simp only; omega, Le.mk rfl (by simp [leT]) (leH_app (leH_refl _) (by simp [leH, termA, klA, keyA]))⟩
              | false =>
                simp only [Bool.false_or] at hq
                refine areg_run 1 (by simp [push_cast]; exact rfl) ?_
                refine areg_end (by simp [push_cast]; exact rfl) ?_
                refine wp_r (by simp [push_cast, j3]; exact rfl) ?_
                exact Exists.intro (q + 1, k5, m4) ⟨⟨hq, by omega, by simp only; omega⟩, by simp only; omega, Le.mk rfl (by simp [leT]) (leH_app (leH_refl _) (by simp [leH, termA, klA, keyA]))⟩
            · have hqe : q = r0.length := by omega
              subst hqe
              rw [List.drop_length, learnL] at hq
              refine wp_sr (by simp [push_cast]; exact rfl) (wp_seq' (wp_cond_f (by simp [AS.ev]) (wp_exit' (if_hit rfl ?_))))
              rw [← hq]
              exact hfin _ _ (k4, m4) (by simp [rdS, leT]) (by simp [leH])
        · refine areg_run 8 (by simp [push_cast, q1, q3, q4, k1, k2, hk3, kwA_len]; exact rfl) ?_
          refine areg_run 5 (by simp [push_cast, q1, h6]; exact rfl) ?_
          refine areg_run 5 (by simp [push_cast]; exact rfl) ?_
          refine areg_end (by simp [push_cast]; exact rfl) ?_
          refine wp_cond_f (by simp [AS.ev]) (wp_skip' ?_)
          rw [if_neg (by simp [h6])]
          exact hfin _ _ (k3, m3) (by simp [rdS, leT]) (by simp [leH])
  · have hin : i = ts.length := by omega
    subst hin
    rw [List.drop_length, roundG] at hI
    refine wp_sr (by simp [push_cast]; exact rfl) (wp_seq' (wp_cond_f (by simp [AS.ev]) (wp_exit' (if_hit rfl ?_))))
    refine wp_sr (by simp [push_cast]; exact rfl) (wp_ret' ?_)
    exact efin more kw _ _ hI rfl rfl
end Go.Cab
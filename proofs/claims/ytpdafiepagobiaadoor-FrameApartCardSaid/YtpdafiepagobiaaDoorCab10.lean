/- Part 10 of what the proof stands on: Q6, Q7, Q15, Q16, GK, Q9. -/
import Derived.Test.YtpdafiepagobiaaDoorCab09
import Derived.Test.YtpdafiepagobiaaDoorCab08
import Derived.Test.YtpdafiepagobiaaDoorCab07
set_option linter.unusedSimpArgs false
set_option linter.unnecessarySimpa false
set_option linter.unusedVariables false
set_option linter.unusedSectionVars false
namespace Go.Cab
open Go.RowKit
open Classical
def fb831 : AC := (.seq (.reg [⟨some 6, none, .mov (.tmp 1), [], none⟩, ⟨some 7, none, .len false (.tmp 6), [], none⟩, ⟨some 8, none, .mov (.const (jn 0)), [], none⟩]) (.block 0 (.loop (.seq (.reg [⟨some 9, none, .bin .lss (.tmp 8) (.tmp 7), [], none⟩]) (.seq (.cond (.tmp 9) .skip (.exit 0)) (.seq (.block 1 (.seq (.reg [⟨some 10, none, .iaddrS 1 (.tmp 6) (.tmp 8), [], none⟩, ⟨some 11, none, .load false 1 (.tmp 10), [], none⟩, ⟨some 5, none, .mov (.tmp 11), [], none⟩]) (.seq (.reg [⟨some 12, none, .mov (.tmp 0), [], none⟩, ⟨some 13, none, .mov (.tmp 5), [], none⟩, ⟨some 14, none, .len true (.tmp 13), [], none⟩, ⟨some 15, none, .cvt .u32 (.tmp 14), [], none⟩, ⟨some 16, none, .bslice 1 (.lit (wn 0)) 1 [(0, (.tmp 15))], [], none⟩, ⟨some 17, none, .icall 25 (.tmp 12) [.tmp 16], [], none⟩]) (.reg [⟨some 18, none, .mov (.tmp 0), [], none⟩, ⟨some 19, none, .mov (.tmp 0), [], none⟩, ⟨some 20, none, .nilc (.tmp 19), [], none⟩, ⟨some 21, none, .faddr 0 0 (.tmp 20), [], none⟩, ⟨some 22, none, .load false 1 (.tmp 21), [], none⟩, ⟨some 23, none, .mov (.tmp 5), [], none⟩, ⟨some 24, none, .ef (.app 5 1 1 true) [.tmp 22, .tmp 23], [], none⟩, ⟨some 25, none, .nilc (.tmp 18), [], none⟩, ⟨some 26, none, .faddr 0 0 (.tmp 25), [], none⟩, ⟨none, none, .store 1 (.tmp 26) (.tmp 24), [], none⟩])))) (.reg [⟨some 27, none, .bin .add (.tmp 8) (.const (jn 1)), [], none⟩, ⟨some 8, none, .mov (.tmp 27), [], none⟩])))))))
def fc831 : FC := ⟨2, 28, [], fb831⟩
theorem fc831_eq : compF Go.Proofs.Tryd.prog 50 = some fc831 := by kernel_rfl
def fb832 : AC := (.seq (.reg [⟨some 6, none, .mov (.tmp 1), [], none⟩, ⟨some 7, none, .len false (.tmp 6), [], none⟩, ⟨some 8, none, .mov (.const (jn 0)), [], none⟩]) (.block 0 (.loop (.seq (.reg [⟨some 9, none, .bin .lss (.tmp 8) (.tmp 7), [], none⟩]) (.seq (.cond (.tmp 9) .skip (.exit 0)) (.seq (.block 1 (.seq (.reg [⟨some 10, none, .iaddrS 32 (.tmp 6) (.tmp 8), [], none⟩, ⟨some 11, none, .load true 32 (.tmp 10), [], none⟩, ⟨some 5, none, .alloc 32 (.arr 1 (List.replicate 32 (.lit (bn 0)))), [], none⟩, ⟨none, none, .store 32 (.tmp 5) (.tmp 11), [], none⟩]) (.reg [⟨some 12, none, .mov (.tmp 0), [], none⟩, ⟨some 13, none, .mov (.tmp 0), [], none⟩, ⟨some 14, none, .nilc (.tmp 13), [], none⟩, ⟨some 15, none, .faddr 0 0 (.tmp 14), [], none⟩, ⟨some 16, none, .load false 1 (.tmp 15), [], none⟩, ⟨some 17, none, .rdp (.vslice 1 32 false false) [.tmp 5], [], none⟩, ⟨some 18, none, .ef (.app 5 1 1 false) [.tmp 16, .tmp 17], [], none⟩, ⟨some 19, none, .nilc (.tmp 12), [], none⟩, ⟨some 20, none, .faddr 0 0 (.tmp 19), [], none⟩, ⟨none, none, .store 1 (.tmp 20) (.tmp 18), [], none⟩]))) (.reg [⟨some 21, none, .bin .add (.tmp 8) (.const (jn 1)), [], none⟩, ⟨some 8, none, .mov (.tmp 21), [], none⟩])))))))
def fc832 : FC := ⟨2, 22, [], fb832⟩
theorem fc832_eq : compF Go.Proofs.Tryd.prog 49 = some fc832 := by kernel_rfl
def fb833 : AC := (.seq (.reg [⟨some 4, none, .mov (.tmp 0), [], none⟩, ⟨some 5, none, .mov (.tmp 1), [], none⟩, ⟨some 6, none, .len false (.tmp 5), [], none⟩, ⟨some 7, none, .cvt .u32 (.tmp 6), [], none⟩, ⟨some 8, none, .bslice 1 (.lit (wn 0)) 1 [(0, (.tmp 7))], [], none⟩, ⟨some 9, none, .icall 25 (.tmp 4) [.tmp 8], [], none⟩]) (.reg [⟨some 10, none, .mov (.tmp 0), [], none⟩, ⟨some 11, none, .mov (.tmp 1), [], none⟩, ⟨some 12, none, .icall 49 (.tmp 10) [.tmp 11], [], none⟩]))
def fc833 : FC := ⟨2, 13, [], fb833⟩
theorem fc833_eq : compF Go.Proofs.Tryd.prog 28 = some fc833 := by kernel_rfl
def fb834 : AC := (.seq (.reg [⟨some 4, none, .mov (.tmp 0), [], none⟩, ⟨some 5, none, .mov (.tmp 1), [], none⟩, ⟨some 6, none, .len false (.tmp 5), [], none⟩, ⟨some 7, none, .cvt .u32 (.tmp 6), [], none⟩, ⟨some 8, none, .bslice 1 (.lit (wn 0)) 1 [(0, (.tmp 7))], [], none⟩, ⟨some 9, none, .icall 25 (.tmp 4) [.tmp 8], [], none⟩]) (.reg [⟨some 10, none, .mov (.tmp 0), [], none⟩, ⟨some 11, none, .mov (.tmp 1), [], none⟩, ⟨some 12, none, .icall 25 (.tmp 10) [.tmp 11], [], none⟩]))
def fc834 : FC := ⟨2, 13, [], fb834⟩
theorem fc834_eq : compF Go.Proofs.Tryd.prog 51 = some fc834 := by kernel_rfl
def fb835 : AC := (.seq (.reg [⟨some 2, none, .mov (.const (tx [])), [], none⟩]) (.seq (.reg [⟨some 3, none, .mov (.tmp 0), [], none⟩, ⟨some 4, none, .nilc (.tmp 3), [], none⟩, ⟨some 5, none, .faddr 0 0 (.tmp 4), [], none⟩, ⟨some 6, none, .load false 1 (.tmp 5), [], none⟩, ⟨some 7, none, .b2s (.tmp 6), [], none⟩, ⟨some 2, none, .mov (.tmp 7), [], none⟩]) .ret))
def fc835 : FC := ⟨1, 8, [(.tmp 2)], fb835⟩
theorem fc835_eq : compF Go.Proofs.Tryd.prog 29 = some fc835 := by kernel_rfl
attribute [local irreducible] AReg
theorem numbers_gk {H : List (Option Blk)} {w : Wr} {V0 : Value} {bs0 bs : List UInt8} (hh : WrOk H w V0 bs0) (ns : List Nat) (hns : ∀ n ∈ ns, n < 4294967296) (hl : bs.length + 5 * ns.length < 1000000) :
    GC Go.Proofs.Tryd.prog 25 [.ptr w.b w.l 0 [0], .sl 1 (ns.map fun n => .lit (wn n))] (wF H w) bs (.tup []) (bs ++ ns.flatMap numB) := GC.ofW hh fun H V h => numbers_call h ns hns hl
theorem cvt_wjn {n : Nat} (h : n < 4294967296) : cvtA .u32 (.lit (jn n)) = some (.lit (wn n)) := by
  have : cvtA .u32 (.lit (jn n)) = some (.lit (wn (n % 4294967296))) := by simp only [cvtA, jn]; rfl
  rw [this, Nat.mod_eq_of_lt h]
def encT (t : List UInt8) : List UInt8 := numB t.length ++ t
theorem encT_len : ∀ ts : List (List UInt8), ts.length ≤ (ts.flatMap encT).length
  | [] => by simp
  | t :: ts => by
    have h1 := encT_len ts
    have h2 := (numB_len (n := t.length)).1
    simp only [List.flatMap_cons, List.length_append, List.length_cons, encT] at h1 ⊢
    omega
def loS (N : Nat) (H : List (Option Blk)) (w : Wr) (arg : AV) (m : Nat) (bs : List UInt8) (V : Value) (k i : AV) : AS :=
  ⟨N, [.ptr w.b w.l 0 [0], .any, .any, .any, .any, .any, arg, k, i] ++ List.replicate (m - 9) .any, wF H w bs V ++ List.replicate m none⟩
set_option maxRecDepth 20000 in
set_option maxHeartbeats 8000000 in
theorem texts_call {H : List (Option Blk)} {w : Wr} {V : Value} {bs : List UInt8} (hh : WrOk H w V bs) (ts : List (List UInt8)) (hl : (bs ++ ts.flatMap encT).length < 900000) :
    XCall Go.Proofs.Tryd.prog 50 [.ptr w.b w.l 0 [0], .sl 1 (ts.map fun t => .lit (tx t))] H fun r H' => r = .tup [] ∧ ∃ V', H' = wF H w (bs ++ ts.flatMap encT) V' := by
  have h831 := fc831_eq
  refine XCall.le ?_
  have hself := hh.self
  have hml : (ts.map fun t => AV.lit (tx t)).length = ts.length := List.length_map _
  have G1 : ∀ i x, (wF H w i x).length = H.length := fun i x => wF_len i x
  have hto := encT_len ts
  refine XCall.of h831 rfl ?_; show AC.wp _ fb831 ⟨H.length, [.ptr w.b w.l 0 [0], .sl 1 (ts.map fun t => .lit (tx t))] ++ List.replicate (28 - 2) .any, H ++ List.replicate 28 none⟩ (fun x s => match x with | .exit _ => False | _ => ∃ s1, Le s s1 ∧ FinX [] s1 _); unfold fb831
  have hst : ∀ L, H ++ L = wF H w bs V ++ L := fun L => by rw [hself]
  rw [hst]
  generalize hN : H.length = N at *
  have g1 : ∀ i y L k, (wF H w i y ++ L)[N + k]? = L[k]? := fun i y L k => cat1 N _ L k (G1 i y)
  have g2 : ∀ i y L k z, (wF H w i y ++ L).set (N + k) z = wF H w i y ++ L.set k z := fun i y L k z => cat2 N _ L k z (G1 i y)
  have wb := fun bs V L => W_b hh bs V L
  have wj := fun bs V L => W_j hh bs V L
  have wsj := fun bs V L x => W_sj hh bs V L x
  have wb2 := fun bs V x L => W_b2 hh bs V x L
  have wsb := fun bs V x L y => W_sb hh bs V x L y
  have wn2 := fun bs V x L k y => W_n2 (w := w) hN bs V x L k y
  refine wp_seq' (wp_r (by simp [push_cast, hml]; exact rfl) ?_)
  refine wp_block' (wp_loop_m (fun x : Nat × Value => loS N H w (.sl 1 (ts.map fun t => .lit (tx t))) 28 (bs ++ (ts.take x.1).flatMap encT) x.2 (.lit (jn ts.length)) (.lit (jn x.1))) (fun x => ts.length - x.1) (fun x => x.1 ≤ ts.length) (0, V) (by simp [loS]; exact Le.cat (by simp [leT]) (by simp [leH])) (by simp) ?_)
  rintro ⟨i, V1⟩ hi
  simp only at hi ⊢
  unfold loS
  by_cases hlt : i < ts.length
  · obtain ⟨t, ht⟩ : ∃ t, ts[i]? = some t := ⟨_, List.getElem?_eq_getElem hlt⟩
    have e1 : (ts.map fun t => AV.lit (tx t))[i]? = some (.lit (tx t)) := by rw [List.getElem?_map, ht]; rfl
    have e2 : ∀ h, (ts.map fun t => AV.lit (tx t))[i]'h = .lit (tx t) := fun h => by rw [List.getElem?_eq_getElem h] at e1; exact Option.some.inj e1
    have htk : (ts.take (i + 1)).flatMap encT = (ts.take i).flatMap encT ++ encT t := by rw [List.take_add_one, ht]; simp
    have hb1 : (bs ++ (ts.take (i + 1)).flatMap encT).length < 900000 := by
      have : ts.flatMap encT = (ts.take (i + 1)).flatMap encT ++ (ts.drop (i + 1)).flatMap encT := by rw [← List.flatMap_append, List.take_append_drop]
      rw [this] at hl
      simp only [List.length_append] at hl ⊢
      omega
    rw [htk, ← List.append_assoc] at hb1
    have hq : ts.length < 900000 := by simp only [List.length_append] at hl; omega
    have q1 : i + 1 < 9223372036854775808 := by omega
    generalize hB : bs ++ (ts.take i).flatMap encT = B at *
    have htl : t.length < 900000 ∧ B.length + 5 < 900005 ∧ (B ++ numB t.length).length + t.length < 900000 := by
      unfold encT at hb1
      simp only [List.length_append] at hb1 ⊢
      omega
    have ctl : cvtA .u32 (.lit (jn t.length)) = some (.lit (wn t.length)) := cvt_wjn (by omega)
    have cN := numbers_gk hh (bs := B) [t.length] (by simp; omega) (by simp; omega)
    simp only [List.flatMap_cons, List.flatMap_nil, List.append_nil, List.map_cons, List.map_nil] at cN
    refine wp_seq' (wp_r (by simp [push_cast, hlt]; exact rfl) ?_)
    refine wp_seq' (wp_cond_t (by simp [AS.ev]) (wp_skip' ?_))
    refine wp_seqM (fun V3 : Value => loS N H w (.sl 1 (ts.map fun t => .lit (tx t))) 28 (B ++ encT t) V3 (.lit (jn ts.length)) (.lit (jn i))) (fun _ => True) (fun V3 _ => ?_) (wp_block' (wp_seq' (wp_r (by simp [push_cast, hml, hlt, e1, e2]; exact rfl) ?_)))
    · unfold loS
      refine wp_r (by simp [push_cast, q1]; exact rfl) ?_
      exact ⟨(i + 1, V3), by simp only; omega, by simp only; omega, by simp only [htk, ← List.append_assoc, hB]; exact Le.cat (by simp [leT]) (by simp [leH])⟩
    refine wp_sg ?_
    refine areg_run 5 (by simp [push_cast, ctl]; exact rfl) ?_
    refine areg_gi cN (by simp [AS.ev, AS.put]) fun V2 => ?_
    refine areg_end (by simp [push_cast]; exact rfl) ?_
    refine wp_rg ?_
    refine areg_run 6 (by simp [push_cast, g1, wb]; exact rfl) ?_
    have eb : bl (B ++ numB t.length) ++ bl t = bl (B ++ encT t) := by rw [bl_app]; simp [encT, List.append_assoc]
    refine areg_app (b := w.j) (V := V2) rfl (by simp only [AS.blk, wj]; rfl) (listB_tx _ _) rfl (by simp only [bl_len, maxLen]; omega) (by simp only [bl_len]; omega) (by intro t ht; cases ht) fun V3 => ?_
    rw [eb]
    refine areg_end (by simp [push_cast, wsj, wn2, wb2, wsb]; exact rfl) ?_
    exact ⟨V3, trivial, Le.trans (W_back hh (d := 24) (bs' := B ++ encT t) hN rfl (leT_refl _)) (Le.cat (by simp [leT]) (by simp [leH]))⟩
  · have : i = ts.length := by omega
    subst this
    refine wp_seq' (wp_r (by simp [push_cast]; exact rfl) ?_)
    refine wp_seq' (wp_cond_f (by simp [AS.ev]) (wp_exit' (if_hit rfl ?_)))
    exact ⟨_, Le.refl _, [], .tup [], ⟨[], rfl, rfl, by simp⟩, .tup [], _, RelLe.refl _, by simp, HpLe.trim _ _, by simp, V1, by simp⟩
set_option maxRecDepth 20000 in
set_option maxHeartbeats 8000000 in
theorem keysW_call {H : List (Option Blk)} {w : Wr} {V : Value} {bs : List UInt8} (hh : WrOk H w V bs) (ks : List (List UInt8)) (h32 : ∀ k ∈ ks, k.length = 32) (hl : bs.length + 32 * ks.length < 900000) :
    XCall Go.Proofs.Tryd.prog 49 [.ptr w.b w.l 0 [0], .sl 32 (klA ks)] H fun r H' => r = .tup [] ∧ ∃ V', H' = wF H w (bs ++ ks.flatMap fun k => k) V' := by
  have h832 := fc832_eq
  refine XCall.le ?_
  have hself := hh.self
  have hml : (klA ks).length = ks.length := klA_len _
  have G1 : ∀ i x, (wF H w i x).length = H.length := fun i x => wF_len i x
  refine XCall.of h832 rfl ?_; show AC.wp _ fb832 ⟨H.length, [.ptr w.b w.l 0 [0], .sl 32 (klA ks)] ++ List.replicate (22 - 2) .any, H ++ List.replicate 22 none⟩ (fun x s => match x with | .exit _ => False | _ => ∃ s1, Le s s1 ∧ FinX [] s1 _); unfold fb832
  have hst : ∀ L, H ++ L = wF H w bs V ++ L := fun L => by rw [hself]
  rw [hst]
  generalize hN : H.length = N at *
  have g1 : ∀ i y L k, (wF H w i y ++ L)[N + k]? = L[k]? := fun i y L k => cat1 N _ L k (G1 i y)
  have g2 : ∀ i y L k z, (wF H w i y ++ L).set (N + k) z = wF H w i y ++ L.set k z := fun i y L k z => cat2 N _ L k z (G1 i y)
  have wb := fun bs V L => W_b hh bs V L
  have wj := fun bs V L => W_j hh bs V L
  have wsj := fun bs V L x => W_sj hh bs V L x
  have wb2 := fun bs V x L => W_b2 hh bs V x L
  have wsb := fun bs V x L y => W_sb hh bs V x L y
  have wn2 := fun bs V x L k y => W_n2 (w := w) hN bs V x L k y
  have kget : ∀ i k, ks[i]? = some k → (klA ks)[i]? = some (keyA k) := fun i k h => by unfold klA; rw [List.getElem?_map, h]; rfl
  generalize klA ks = T at *
  refine wp_seq' (wp_r (by simp [push_cast, hml]; exact rfl) ?_)
  refine wp_block' (wp_loop_m (fun x : Nat × Value => loS N H w (.sl 32 T) 22 (bs ++ (ks.take x.1).flatMap fun k => k) x.2 (.lit (jn ks.length)) (.lit (jn x.1))) (fun x => ks.length - x.1) (fun x => x.1 ≤ ks.length) (0, V) (by simp [loS]; exact Le.cat (by simp [leT]) (by simp [leH])) (by simp) ?_)
  rintro ⟨i, V1⟩ hi
  simp only at hi ⊢
  unfold loS
  by_cases hlt : i < ks.length
  · obtain ⟨t, ht⟩ : ∃ t, ks[i]? = some t := ⟨_, List.getElem?_eq_getElem hlt⟩
    have t32 := h32 t (List.mem_of_getElem? ht)
    have e1 := kget i t ht
    have e2 : ∀ h, T[i]'h = keyA t := fun h => by rw [List.getElem?_eq_getElem h] at e1; exact Option.some.inj e1
    have htk : ((ks.take (i + 1)).flatMap fun k => k) = ((ks.take i).flatMap fun k => k) ++ t := by rw [List.take_add_one, ht]; simp
    have hb1 : (bs ++ (ks.take i).flatMap fun k => k).length + 32 < 900000 := by
      have : ∀ l : List (List UInt8), (∀ k ∈ l, k.length = 32) → (l.flatMap fun k => k).length = 32 * l.length := fun l => by
        induction l with
        | nil => simp
        | cons a l ih =>
          intro h
          have h1 := h a (by simp)
          have h2 := ih fun k hk => h k (List.mem_cons_of_mem _ hk)
          simp only [List.flatMap_cons, List.length_append, List.length_cons]
          omega
      have := this (ks.take i) fun k hk => h32 k (List.mem_of_mem_take hk)
      rw [List.length_take] at this
      simp only [List.length_append]
      omega
    have q1 : i + 1 < 9223372036854775808 := by omega
    generalize hB : (bs ++ (ks.take i).flatMap fun k => k) = B at *
    refine wp_seq' (wp_r (by simp [push_cast, hlt]; exact rfl) ?_)
    refine wp_seq' (wp_cond_t (by simp [AS.ev]) (wp_skip' ?_))
    refine wp_seqM (fun V3 : Value => loS N H w (.sl 32 T) 22 (B ++ t) V3 (.lit (jn ks.length)) (.lit (jn i))) (fun _ => True) (fun V3 _ => ?_) (wp_block' (wp_sg ?_))
    · unfold loS
      refine wp_r (by simp [push_cast, q1]; exact rfl) ?_
      exact ⟨(i + 1, V3), by simp only; omega, by simp only; omega, by simp only [htk, ← List.append_assoc, hB]; exact Le.cat (by simp [leT]) (by simp [leH])⟩
    refine areg_run 2 (by simp [push_cast, hml, hlt, e1, e2, t32]; exact rfl) ?_
    refine areg_al' zk_eq.symm fun l' => areg_end (by simp [push_cast, g1, g2, t32, zk_len]; exact rfl) ?_
    refine wp_rg ?_
    refine areg_run 6 (by simp [push_cast, g1, wb, t32]; exact rfl) ?_
    have eb : bl B ++ bl t = bl (B ++ t) := bl_app _ _
    refine areg_app (b := w.j) (V := V1) (ys := bl t) rfl (by simp only [AS.blk, wj]; rfl) ?_ rfl (by simp only [bl_len, maxLen]; omega) (by simp only [bl_len]; omega) (by intro t ht; cases ht) fun V3 => ?_
    · exact (listB_key (b := N + 5) (lo := 0) (len := 32) (cap := 32) (k := t) (l := l') (n := 32) (by simp only [g1]; rfl) (by omega)).trans (by rw [List.drop_zero, List.take_of_length_le (by omega)])
    rw [eb]
    refine areg_end (by simp [push_cast, wsj, wn2, wb2, wsb]; exact rfl) ?_
    exact ⟨V3, trivial, Le.trans (W_back hh (d := 18) (bs' := B ++ t) hN rfl (leT_refl _)) (Le.cat (by simp [leT]) (by simp [leH, keyA]))⟩
  · have : i = ks.length := by omega
    subst this
    refine wp_seq' (wp_r (by simp [push_cast]; exact rfl) ?_)
    refine wp_seq' (wp_cond_f (by simp [AS.ev]) (wp_exit' (if_hit rfl ?_)))
    exact ⟨_, Le.refl _, [], .tup [], ⟨[], rfl, rfl, by simp⟩, .tup [], _, RelLe.refl _, by simp, HpLe.trim _ _, by simp, V1, by simp⟩
theorem keysW_gk {H : List (Option Blk)} {w : Wr} {V0 : Value} {bs0 bs : List UInt8} (hh : WrOk H w V0 bs0) (ks : List (List UInt8)) (h32 : ∀ k ∈ ks, k.length = 32) (hl : bs.length + 32 * ks.length < 900000) :
    GC Go.Proofs.Tryd.prog 49 [.ptr w.b w.l 0 [0], .sl 32 (klA ks)] (wF H w) bs (.tup []) (bs ++ ks.flatMap fun k => k) := GC.ofW hh fun H V h => keysW_call h ks h32 hl
theorem texts_gk {H : List (Option Blk)} {w : Wr} {V0 : Value} {bs0 bs : List UInt8} (hh : WrOk H w V0 bs0) (ts : List (List UInt8)) (hl : (bs ++ ts.flatMap encT).length < 900000) :
    GC Go.Proofs.Tryd.prog 50 [.ptr w.b w.l 0 [0], .sl 1 (ts.map fun t => .lit (tx t))] (wF H w) bs (.tup []) (bs ++ ts.flatMap encT) := GC.ofW hh fun H V h => texts_call h ts hl
set_option maxHeartbeats 4000000 in
theorem klistW_call {H : List (Option Blk)} {w : Wr} {V : Value} {bs : List UInt8} (hh : WrOk H w V bs) (ks : List (List UInt8)) (h32 : ∀ k ∈ ks, k.length = 32) (hl : bs.length + 32 * ks.length < 800000) :
    XCall Go.Proofs.Tryd.prog 28 [.ptr w.b w.l 0 [0], .sl 32 (klA ks)] H fun r H' => r = .tup [] ∧ ∃ V', H' = wF H w (bs ++ (numB ks.length ++ ks.flatMap fun k => k)) V' := by
  have h833 := fc833_eq
  refine XCall.le ?_
  have hself := hh.self
  have hml : (klA ks).length = ks.length := klA_len _
  have ctl : cvtA .u32 (.lit (jn ks.length)) = some (.lit (wn ks.length)) := cvt_wjn (by omega)
  have cN := numbers_gk hh (bs := bs) [ks.length] (by simp; omega) (by simp; omega)
  simp only [List.flatMap_cons, List.flatMap_nil, List.append_nil, List.map_cons, List.map_nil] at cN
  have hnl := (numB_len (n := ks.length)).2
  have cK := keysW_gk hh (bs := bs ++ numB ks.length) ks h32 (by simp only [List.length_append]; omega)
  refine XCall.of h833 rfl ?_; show AC.wp _ fb833 ⟨H.length, [.ptr w.b w.l 0 [0], .sl 32 (klA ks)] ++ List.replicate (13 - 2) .any, H ++ List.replicate 13 none⟩ (fun x s => match x with | .exit _ => False | _ => ∃ s1, Le s s1 ∧ FinX [] s1 _); unfold fb833
  have hst : ∀ L, H ++ L = wF H w bs V ++ L := fun L => by rw [hself]
  rw [hst]
  generalize klA ks = T at *
  refine wp_sg ?_
  refine areg_run 5 (by simp [push_cast, hml, ctl]; exact rfl) ?_
  refine areg_gi cN (by simp [AS.ev, AS.put]) fun V2 => ?_
  refine areg_end (by simp [push_cast]; exact rfl) ?_
  refine wp_rg ?_
  refine areg_run 2 (by simp [push_cast]; exact rfl) ?_
  refine areg_gi cK (by simp [AS.ev, AS.put]) fun V3 => ?_
  refine areg_end (by simp [push_cast]; exact rfl) ?_
  exact ⟨_, Le.refl _, [], .tup [], ⟨[], rfl, rfl, by simp⟩, .tup [], _, RelLe.refl _, by simp, HpLe.trim _ _, rfl, V3, by simp⟩
set_option maxHeartbeats 4000000 in
theorem nlistW_call {H : List (Option Blk)} {w : Wr} {V : Value} {bs : List UInt8} (hh : WrOk H w V bs) (ns : List Nat) (hns : ∀ n ∈ ns, n < 4294967296) (hl : bs.length + 5 * ns.length < 800000) :
    XCall Go.Proofs.Tryd.prog 51 [.ptr w.b w.l 0 [0], .sl 1 (ns.map fun n => .lit (wn n))] H fun r H' => r = .tup [] ∧ ∃ V', H' = wF H w (bs ++ (numB ns.length ++ ns.flatMap numB)) V' := by
  have h834 := fc834_eq
  refine XCall.le ?_
  have hself := hh.self
  have hml : (ns.map fun n => AV.lit (wn n)).length = ns.length := List.length_map _
  have ctl : cvtA .u32 (.lit (jn ns.length)) = some (.lit (wn ns.length)) := cvt_wjn (by omega)
  have cN := numbers_gk hh (bs := bs) [ns.length] (by simp; omega) (by simp; omega)
  simp only [List.flatMap_cons, List.flatMap_nil, List.append_nil, List.map_cons, List.map_nil] at cN
  have hnl := (numB_len (n := ns.length)).2
  have cK := numbers_gk hh (bs := bs ++ numB ns.length) ns hns (by simp only [List.length_append]; omega)
  refine XCall.of h834 rfl ?_; show AC.wp _ fb834 ⟨H.length, [.ptr w.b w.l 0 [0], .sl 1 (ns.map fun n => .lit (wn n))] ++ List.replicate (13 - 2) .any, H ++ List.replicate 13 none⟩ (fun x s => match x with | .exit _ => False | _ => ∃ s1, Le s s1 ∧ FinX [] s1 _); unfold fb834
  have hst : ∀ L, H ++ L = wF H w bs V ++ L := fun L => by rw [hself]
  rw [hst]
  generalize (ns.map fun n => AV.lit (wn n)) = T at *
  refine wp_sg ?_
  refine areg_run 5 (by simp [push_cast, hml, ctl]; exact rfl) ?_
  refine areg_gi cN (by simp [AS.ev, AS.put]) fun V2 => ?_
  refine areg_end (by simp [push_cast]; exact rfl) ?_
  refine wp_rg ?_
  refine areg_run 2 (by simp [push_cast]; exact rfl) ?_
  refine areg_gi cK (by simp [AS.ev, AS.put]) fun V3 => ?_
  refine areg_end (by simp [push_cast]; exact rfl) ?_
  exact ⟨_, Le.refl _, [], .tup [], ⟨[], rfl, rfl, by simp⟩, .tup [], _, RelLe.refl _, by simp, HpLe.trim _ _, rfl, V3, by simp⟩
set_option maxHeartbeats 4000000 in
theorem stringW_call {H : List (Option Blk)} {w : Wr} {V : Value} {bs : List UInt8} (hh : WrOk H w V bs) :
    XCall Go.Proofs.Tryd.prog 29 [.ptr w.b w.l 0 [0]] H fun r H' => r = .lit (tx bs) ∧ H' = H := by
  have h835 := fc835_eq
  refine XCall.le ?_
  refine XCall.of h835 rfl ?_; show AC.wp _ fb835 ⟨H.length, [.ptr w.b w.l 0 [0]] ++ List.replicate (8 - 1) .any, H ++ List.replicate 8 none⟩ (fun x s => match x with | .exit _ => False | _ => ∃ s1, Le s s1 ∧ FinX [(.tmp 2)] s1 _); unfold fb835
  generalize hN : H.length = N at *
  have wb : ∀ L, (H ++ L)[w.b]? = some (some (.box w.l 1 (.st [1] [.st [1] [.own w.j V]]))) := fun L => (hh.app L).hb
  have wj : ∀ L, (H ++ L)[w.j]? = some (some (.row 5 V 1 (bl bs) 0)) := fun L => (hh.app L).hj
  refine wp_seq' (wp_r (by simp [push_cast]; exact rfl) ?_)
  refine wp_sg ?_
  refine areg_run 4 (by simp [push_cast, wb]; exact rfl) ?_
  refine areg_end (by simp [push_cast, wj]; exact rfl) (wp_ret' ?_)
  exact ⟨_, Le.refl _, finX1 (v := .lit (tx bs)) (by simp [AS.seals, RVals, RVal, AS.ev, AS.coe]) (by simp) ⟨_, _, RelLe.refl _, by simp, HpLe.trim _ _, rfl, rfl⟩⟩
end Go.Cab
namespace Go.Cab
open Go.RowKit
open Classical
def fb817 : AC := (.seq (.reg [⟨some 2, none, .mov (.const (wn 0)), [], none⟩]) (.seq (.reg [⟨some 3, none, .mov (.tmp 0), [], none⟩, ⟨some 4, none, .cvt .u32 (.tmp 3), [], none⟩, ⟨some 2, none, .mov (.tmp 4), [], none⟩]) .ret))
def fc817 : FC := ⟨1, 5, [(.tmp 2)], fb817⟩
theorem fc817_eq : compF Go.Proofs.Tryd.prog 26 = some fc817 := by kernel_rfl
def fb818 : AC := (.seq (.reg [⟨some 3, none, .box 71 (.tmp 1), [], none⟩]) (.seq (.reg [⟨some 14, none, .mov (.tmp 0), [], none⟩, ⟨some 15, none, .nilc (.tmp 14), [], none⟩, ⟨some 16, none, .faddr 0 0 (.tmp 15), [], none⟩, ⟨some 17, none, .rdp (.mkfn (.func 25) 1) [.tmp 16], [], none⟩, ⟨some 18, none, .mov (.tmp 0), [], none⟩, ⟨some 19, none, .nilc (.tmp 18), [], none⟩, ⟨some 20, none, .faddr 0 0 (.tmp 19), [], none⟩, ⟨some 21, none, .rdp (.mkfn (.func 49) 1) [.tmp 20], [], none⟩, ⟨some 22, none, .mov (.tmp 0), [], none⟩, ⟨some 23, none, .nilc (.tmp 22), [], none⟩, ⟨some 24, none, .faddr 0 0 (.tmp 23), [], none⟩, ⟨some 25, none, .rdp (.mkfn (.func 50) 1) [.tmp 24], [], none⟩, ⟨some 4, none, .mov (.tmp 17), [], none⟩, ⟨some 5, none, .mov (.tmp 21), [], none⟩, ⟨some 6, none, .mov (.tmp 25), [], none⟩]) (.seq (.reg [⟨some 26, none, .mov (.tmp 4), [], none⟩, ⟨some 27, none, .faddr 3 3 (.tmp 3), [], none⟩, ⟨some 28, none, .load false 1 (.tmp 27), [], (.some 3)⟩, ⟨some 29, none, .callv 26 [.tmp 28], [], (.some 1000000)⟩, ⟨some 30, none, .faddr 0 0 (.tmp 3), [], none⟩, ⟨some 31, none, .load false 1 (.tmp 30), [], (.some 3)⟩, ⟨some 32, none, .callv 26 [.tmp 31], [], none⟩, ⟨some 33, none, .faddr 1 1 (.tmp 3), [], none⟩, ⟨some 34, none, .load false 1 (.tmp 33), [], (.some 3)⟩, ⟨some 35, none, .bslice 1 (.lit (wn 0)) 3 [(0, (.tmp 29)), (1, (.tmp 32)), (2, (.tmp 34))], [], none⟩, ⟨some 36, none, .xc .val [.tmp 26, .tmp 35] [] [], [], none⟩]) (.seq (.reg [⟨some 37, none, .mov (.tmp 0), [], none⟩, ⟨some 38, none, .nilc (.tmp 37), [], none⟩, ⟨some 39, none, .faddr 0 0 (.tmp 38), [], none⟩, ⟨some 40, none, .faddr 2 2 (.tmp 3), [], none⟩, ⟨some 41, none, .load false 1 (.tmp 40), [], none⟩, ⟨some 42, none, .xc (.dir 28) [.tmp 39, .tmp 41] [] [], [], none⟩]) (.seq (.reg [⟨some 7, none, .mov (.const (.slice .none 0 0)), [], none⟩]) (.seq (.seq (.reg [⟨some 43, none, .faddr 4 4 (.tmp 3), [], none⟩, ⟨some 44, none, .load false 1 (.tmp 43), [], none⟩, ⟨some 45, none, .len false (.tmp 44), [], none⟩, ⟨some 46, none, .mov (.const (jn 0)), [], none⟩]) (.block 0 (.loop (.seq (.reg [⟨some 47, none, .bin .lss (.tmp 46) (.tmp 45), [], none⟩]) (.seq (.cond (.tmp 47) .skip (.exit 0)) (.seq (.block 1 (.seq (.reg [⟨some 48, none, .iaddrS 1 (.tmp 44) (.tmp 46), [], none⟩, ⟨some 49, none, .load false 1 (.tmp 48), [], none⟩, ⟨some 9, none, .mov (.tmp 49), [], none⟩]) (.reg [⟨some 50, none, .mov (.tmp 7), [], none⟩, ⟨some 51, none, .mov (.tmp 9), [], none⟩, ⟨some 52, none, .call 26 [.tmp 51], [], none⟩, ⟨some 53, none, .bslice 1 (.lit (wn 0)) 1 [(0, (.tmp 52))], [], none⟩, ⟨some 54, none, .append 22 1 4 (.tmp 50) (.tmp 53), [], none⟩, ⟨some 7, none, .mov (.tmp 54), [], none⟩]))) (.reg [⟨some 55, none, .bin .add (.tmp 46) (.const (jn 1)), [], none⟩, ⟨some 46, none, .mov (.tmp 55), [], none⟩]))))))) (.seq (.reg [⟨some 56, none, .mov (.tmp 0), [], none⟩, ⟨some 57, none, .nilc (.tmp 56), [], none⟩, ⟨some 58, none, .faddr 0 0 (.tmp 57), [], none⟩, ⟨some 59, none, .mov (.tmp 7), [], none⟩, ⟨some 60, none, .icall 51 (.tmp 58) [.tmp 59], [], none⟩]) (.seq (.reg [⟨some 61, none, .mov (.tmp 5), [], none⟩, ⟨some 62, none, .faddr 5 5 (.tmp 3), [], none⟩, ⟨some 63, none, .load true 32 (.tmp 62), [], none⟩, ⟨some 64, none, .faddr 37 6 (.tmp 3), [], none⟩, ⟨some 65, none, .load true 32 (.tmp 64), [], none⟩, ⟨some 66, none, .bslice 32 (.arr 1 (List.replicate 32 (.lit (bn 0)))) 2 [(0, (.tmp 63)), (1, (.tmp 65))], [], none⟩, ⟨some 67, none, .xc .val [.tmp 61, .tmp 66] [] [], [], none⟩]) (.seq (.reg [⟨some 68, none, .mov (.tmp 6), [], none⟩, ⟨some 69, none, .faddr 69 7 (.tmp 3), [], none⟩, ⟨some 70, none, .load false 1 (.tmp 69), [], none⟩, ⟨some 71, none, .bslice 1 (.lit (tx [])) 1 [(0, (.tmp 70))], [], none⟩, ⟨some 72, none, .xc .val [.tmp 68, .tmp 71] [] [], [], none⟩]) (.seq (.reg [⟨some 7, none, .mov (.const (.slice .none 0 0)), [], none⟩]) (.seq (.seq (.reg [⟨some 73, none, .faddr 70 8 (.tmp 3), [], none⟩, ⟨some 74, none, .load false 1 (.tmp 73), [], none⟩, ⟨some 75, none, .len false (.tmp 74), [], none⟩, ⟨some 76, none, .mov (.const (jn 0)), [], none⟩]) (.block 2 (.loop (.seq (.reg [⟨some 77, none, .bin .lss (.tmp 76) (.tmp 75), [], none⟩]) (.seq (.cond (.tmp 77) .skip (.exit 2)) (.seq (.block 3 (.seq (.reg [⟨some 78, none, .iaddrS 36 (.tmp 74) (.tmp 76), [], none⟩, ⟨some 79, none, .load true 36 (.tmp 78), [], none⟩, ⟨some 11, none, .alloc 36 (.st [1, 34, 1] [(.lit (jn 0)), (.st [32, 1, 1] [(.arr 1 (List.replicate 32 (.lit (bn 0)))), (.lit (wn 0)), (.lit (wn 0))]), (.lit (tx []))]), [], none⟩, ⟨none, none, .store 36 (.tmp 11) (.tmp 79), [], none⟩]) (.reg [⟨some 80, none, .mov (.tmp 7), [], none⟩, ⟨some 81, none, .faddr 0 0 (.tmp 11), [], none⟩, ⟨some 82, none, .load false 1 (.tmp 81), [], none⟩, ⟨some 83, none, .call 26 [.tmp 82], [], none⟩, ⟨some 84, none, .bslice 1 (.lit (wn 0)) 1 [(0, (.tmp 83))], [], none⟩, ⟨some 85, none, .append 22 1 4 (.tmp 80) (.tmp 84), [], none⟩, ⟨some 7, none, .mov (.tmp 85), [], none⟩]))) (.reg [⟨some 86, none, .bin .add (.tmp 76) (.const (jn 1)), [], none⟩, ⟨some 76, none, .mov (.tmp 86), [], none⟩]))))))) (.seq (.reg [⟨some 87, none, .mov (.tmp 0), [], none⟩, ⟨some 88, none, .nilc (.tmp 87), [], none⟩, ⟨some 89, none, .faddr 0 0 (.tmp 88), [], none⟩, ⟨some 90, none, .mov (.tmp 7), [], none⟩, ⟨some 91, none, .icall 51 (.tmp 89) [.tmp 90], [], none⟩]) (.seq (.reg [⟨some 92, none, .faddr 70 8 (.tmp 3), [], none⟩, ⟨some 93, none, .load false 1 (.tmp 92), [], none⟩, ⟨some 94, none, .len false (.tmp 93), [], none⟩, ⟨some 95, none, .mov (.const (jn 0)), [], none⟩]) (.block 4 (.loop (.seq (.reg [⟨some 96, none, .bin .lss (.tmp 95) (.tmp 94), [], none⟩]) (.seq (.cond (.tmp 96) .skip (.exit 4)) (.seq (.block 5 (.seq (.reg [⟨some 97, none, .iaddrS 36 (.tmp 93) (.tmp 95), [], none⟩, ⟨some 98, none, .load true 36 (.tmp 97), [], none⟩, ⟨some 13, none, .alloc 36 (.st [1, 34, 1] [(.lit (jn 0)), (.st [32, 1, 1] [(.arr 1 (List.replicate 32 (.lit (bn 0)))), (.lit (wn 0)), (.lit (wn 0))]), (.lit (tx []))]), [], none⟩, ⟨none, none, .store 36 (.tmp 13) (.tmp 98), [], none⟩]) (.seq (.reg [⟨some 99, none, .mov (.tmp 5), [], none⟩, ⟨some 100, none, .faddr 1 1 (.tmp 13), [], none⟩, ⟨some 101, none, .faddr 0 0 (.tmp 100), [], none⟩, ⟨some 102, none, .load true 32 (.tmp 101), [], none⟩, ⟨some 103, none, .bslice 32 (.arr 1 (List.replicate 32 (.lit (bn 0)))) 1 [(0, (.tmp 102))], [], none⟩, ⟨some 104, none, .xc .val [.tmp 99, .tmp 103] [] [], [], none⟩]) (.seq (.reg [⟨some 105, none, .mov (.tmp 4), [], none⟩, ⟨some 106, none, .faddr 1 1 (.tmp 13), [], none⟩, ⟨some 107, none, .faddr 32 1 (.tmp 106), [], none⟩, ⟨some 108, none, .load false 1 (.tmp 107), [], none⟩, ⟨some 109, none, .faddr 1 1 (.tmp 13), [], none⟩, ⟨some 110, none, .faddr 33 2 (.tmp 109), [], none⟩, ⟨some 111, none, .load false 1 (.tmp 110), [], none⟩, ⟨some 112, none, .bslice 1 (.lit (wn 0)) 2 [(0, (.tmp 108)), (1, (.tmp 111))], [], none⟩, ⟨some 113, none, .xc .val [.tmp 105, .tmp 112] [] [], [], none⟩]) (.reg [⟨some 114, none, .mov (.tmp 6), [], none⟩, ⟨some 115, none, .faddr 35 2 (.tmp 13), [], none⟩, ⟨some 116, none, .load false 1 (.tmp 115), [], none⟩, ⟨some 117, none, .bslice 1 (.lit (tx [])) 1 [(0, (.tmp 116))], [], none⟩, ⟨some 118, none, .xc .val [.tmp 114, .tmp 117] [] [], [], none⟩]))))) (.reg [⟨some 119, none, .bin .add (.tmp 95) (.const (jn 1)), [], none⟩, ⟨some 95, none, .mov (.tmp 119), [], none⟩])))))))))))))))))))
def fc818 : FC := ⟨2, 120, [], fb818⟩
theorem fc818_eq : compF Go.Proofs.Tryd.prog 27 = some fc818 := by kernel_rfl
attribute [local irreducible] AReg
theorem klistW_gk {H : List (Option Blk)} {w : Wr} {V0 : Value} {bs0 bs : List UInt8} (hh : WrOk H w V0 bs0) (ks : List (List UInt8)) (h32 : ∀ k ∈ ks, k.length = 32) (hl : bs.length + 32 * ks.length < 800000) :
    GC Go.Proofs.Tryd.prog 28 [.ptr w.b w.l 0 [0], .sl 32 (klA ks)] (wF H w) bs (.tup []) (bs ++ (numB ks.length ++ ks.flatMap fun k => k)) := GC.ofW hh fun H V h => klistW_call h ks h32 hl
theorem nlistW_gk {H : List (Option Blk)} {w : Wr} {V0 : Value} {bs0 bs : List UInt8} (hh : WrOk H w V0 bs0) (ns : List Nat) (hns : ∀ n ∈ ns, n < 4294967296) (hl : bs.length + 5 * ns.length < 800000) :
    GC Go.Proofs.Tryd.prog 51 [.ptr w.b w.l 0 [0], .sl 1 (ns.map fun n => .lit (wn n))] (wF H w) bs (.tup []) (bs ++ (numB ns.length ++ ns.flatMap numB)) := GC.ofW hh fun H V h => nlistW_call h ns hns hl
theorem cvt_wi {n : Int} (h0 : 0 ≤ n) (h : n < 4294967296) : cvtA .u32 (.lit (ji n)) = some (.lit (wn n.toNat)) := by
  obtain ⟨m, rfl⟩ := Int.eq_ofNat_of_zero_le h0
  exact cvt_wjn (n := m) (by omega)
theorem number_call' {n : Int} (h0 : 0 ≤ n) (h : n < 4294967296) : PCall Go.Proofs.Tryd.prog 26 [.lit (ji n)] (.val (.lit (wn n.toNat))) := by
  have h817 := fc817_eq
  have c := cvt_wi h0 h
  refine PCall.of h817 rfl ?_; show AC.wp _ fb817 (AS.init [.lit (ji n)] 1 5) (fun x s => match x with | .exit _ => False | _ => Fin [(.tmp 2)] s _); unfold fb817 AS.init
  repeat (first | (with_reducible apply wp_sr); focus (simp [push_cast, c]; exact rfl) | (with_reducible apply wp_r); focus (simp [push_cast, c]; exact rfl) | (with_reducible refine wp_seq' (wp_cond_t ?_ ?_)); focus (simp [AS.ev]; done) | (with_reducible refine wp_seq' (wp_cond_f ?_ ?_)); focus (simp [AS.ev]; done) | (with_reducible refine wp_cond_t ?_ ?_); focus (simp [AS.ev]; done) | (with_reducible refine wp_cond_f ?_ ?_); focus (simp [AS.ev]; done) | with_reducible refine wp_seq' ?_ | with_reducible refine wp_block' ?_ | with_reducible refine wp_skip' ?_ | with_reducible refine wp_exit' ?_ | with_reducible refine wp_ret' ?_ | with_reducible refine if_hit rfl ?_ | with_reducible refine if_miss (by decide) ?_ | with_reducible refine loopN_succ ?_)
  exact fin_tmp (by simp [RVal, AS.ev, AS.coe]) (by simp)
theorem encNs_len {ns : List Nat} : (encNs ns).length ≤ 5 + 5 * ns.length := by
  have h : ∀ l : List Nat, (l.flatMap numB).length ≤ 5 * l.length := fun l => by
    induction l with
    | nil => simp
    | cons a l ih => have := (numB_len (n := a)).2; simp only [List.flatMap_cons, List.length_append, List.length_cons]; omega
  have h1 := h ns
  have h2 := (numB_len (n := ns.length)).2
  unfold encNs
  rw [List.length_append]
  omega
end Go.Cab
namespace Go.Cab
open Go.RowKit
open Classical
def fb848 : AC := (.seq (.reg [⟨some 6, none, .mov (.const (.slice .none 0 0)), [], none⟩]) (.seq (.reg [⟨some 10, none, .mov (.tmp 0), [], none⟩, ⟨some 11, none, .nilc (.tmp 10), [], none⟩, ⟨some 12, none, .faddr 0 0 (.tmp 11), [], none⟩, ⟨some 13, none, .load false 1 (.tmp 12), [], none⟩, ⟨some 7, none, .mov (.tmp 13), [], none⟩]) (.seq (.reg [⟨some 8, none, .mov (.const (.slice .none 0 0)), [], none⟩]) (.seq (.seq (.reg [⟨some 14, none, .mov (.tmp 0), [], none⟩, ⟨some 15, none, .mov (.tmp 1), [], none⟩, ⟨some 16, none, .icall 67 (.tmp 14) [.tmp 15], [], none⟩, ⟨some 17, none, .mov (.const (jn 0)), [], none⟩]) (.block 0 (.loop (.seq (.reg [⟨some 18, none, .bin .lss (.tmp 17) (.tmp 16), [], none⟩]) (.seq (.cond (.tmp 18) .skip (.exit 0)) (.seq (.block 1 (.seq (.reg [⟨some 19, none, .mov (.tmp 2), [], none⟩, ⟨some 20, none, .xc .val [.tmp 19] [] [], [], none⟩, ⟨some 9, none, .alloc 32 (.arr 1 (List.replicate 32 (.lit (bn 0)))), [], none⟩, ⟨none, none, .store 32 (.tmp 9) (.tmp 20), [], none⟩]) (.seq (.seq (.reg [⟨some 21, none, .mov (.tmp 0), [], none⟩, ⟨some 22, none, .nilc (.tmp 21), [], none⟩, ⟨some 23, none, .faddr 1 1 (.tmp 22), [], none⟩, ⟨some 24, none, .load false 1 (.tmp 23), [], none⟩, ⟨some 25, none, .bin .neq (.tmp 24) (.const (jn 0)), [], none⟩]) (.cond (.tmp 25) (.seq (.reg [⟨some 26, none, .mov (.tmp 0), [], none⟩, ⟨some 27, none, .mov (.tmp 7), [], none⟩, ⟨some 28, none, .nilc (.tmp 26), [], none⟩, ⟨some 29, none, .faddr 0 0 (.tmp 28), [], none⟩, ⟨none, none, .store 1 (.tmp 29) (.tmp 27), [], none⟩]) (.seq (.reg [⟨some 6, none, .mov (.const (.slice .none 0 0)), [], none⟩]) .ret)) .skip)) (.reg [⟨some 30, none, .mov (.tmp 8), [], none⟩, ⟨some 31, none, .load true 32 (.tmp 9), [], none⟩, ⟨some 32, none, .bslice 32 (.arr 1 (List.replicate 32 (.lit (bn 0)))) 1 [(0, (.tmp 31))], [], none⟩, ⟨some 33, none, .append 26 32 32 (.tmp 30) (.tmp 32), [], none⟩, ⟨some 8, none, .mov (.tmp 33), [], none⟩])))) (.reg [⟨some 34, none, .bin .add (.tmp 17) (.const (jn 1)), [], none⟩, ⟨some 17, none, .mov (.tmp 34), [], none⟩]))))))) (.seq (.reg [⟨some 35, none, .mov (.tmp 8), [], none⟩, ⟨some 6, none, .mov (.tmp 35), [], none⟩]) .ret)))))
def fc848 : FC := ⟨3, 36, [(.tmp 6)], fb848⟩
theorem fc848_eq : compF Go.Proofs.Tryd.prog 56 = some fc848 := by kernel_rfl
def fb849 : AC := (.seq (.reg [⟨some 6, none, .mov (.const (.slice .none 0 0)), [], none⟩]) (.seq (.reg [⟨some 10, none, .mov (.tmp 0), [], none⟩, ⟨some 11, none, .nilc (.tmp 10), [], none⟩, ⟨some 12, none, .faddr 0 0 (.tmp 11), [], none⟩, ⟨some 13, none, .load false 1 (.tmp 12), [], none⟩, ⟨some 7, none, .mov (.tmp 13), [], none⟩]) (.seq (.reg [⟨some 8, none, .mov (.const (.slice .none 0 0)), [], none⟩]) (.seq (.seq (.reg [⟨some 14, none, .mov (.tmp 0), [], none⟩, ⟨some 15, none, .mov (.tmp 1), [], none⟩, ⟨some 16, none, .icall 67 (.tmp 14) [.tmp 15], [], none⟩, ⟨some 17, none, .mov (.const (jn 0)), [], none⟩]) (.block 0 (.loop (.seq (.reg [⟨some 18, none, .bin .lss (.tmp 17) (.tmp 16), [], none⟩]) (.seq (.cond (.tmp 18) .skip (.exit 0)) (.seq (.block 1 (.seq (.reg [⟨some 19, none, .mov (.tmp 2), [], none⟩, ⟨some 20, none, .xc .val [.tmp 19] [] [], [], none⟩, ⟨some 9, none, .mov (.tmp 20), [], none⟩]) (.seq (.seq (.reg [⟨some 21, none, .mov (.tmp 0), [], none⟩, ⟨some 22, none, .nilc (.tmp 21), [], none⟩, ⟨some 23, none, .faddr 1 1 (.tmp 22), [], none⟩, ⟨some 24, none, .load false 1 (.tmp 23), [], none⟩, ⟨some 25, none, .bin .neq (.tmp 24) (.const (jn 0)), [], none⟩]) (.cond (.tmp 25) (.seq (.reg [⟨some 26, none, .mov (.tmp 0), [], none⟩, ⟨some 27, none, .mov (.tmp 7), [], none⟩, ⟨some 28, none, .nilc (.tmp 26), [], none⟩, ⟨some 29, none, .faddr 0 0 (.tmp 28), [], none⟩, ⟨none, none, .store 1 (.tmp 29) (.tmp 27), [], none⟩]) (.seq (.reg [⟨some 6, none, .mov (.const (.slice .none 0 0)), [], none⟩]) .ret)) .skip)) (.reg [⟨some 30, none, .mov (.tmp 8), [], none⟩, ⟨some 31, none, .mov (.tmp 9), [], none⟩, ⟨some 32, none, .bslice 1 (.lit (wn 0)) 1 [(0, (.tmp 31))], [], none⟩, ⟨some 33, none, .append 22 1 4 (.tmp 30) (.tmp 32), [], none⟩, ⟨some 8, none, .mov (.tmp 33), [], none⟩])))) (.reg [⟨some 34, none, .bin .add (.tmp 17) (.const (jn 1)), [], none⟩, ⟨some 17, none, .mov (.tmp 34), [], none⟩]))))))) (.seq (.reg [⟨some 35, none, .mov (.tmp 8), [], none⟩, ⟨some 6, none, .mov (.tmp 35), [], none⟩]) .ret)))))
def fc849 : FC := ⟨3, 36, [(.tmp 6)], fb849⟩
theorem fc849_eq : compF Go.Proofs.Tryd.prog 65 = some fc849 := by kernel_rfl
def fb850 : AC := (.seq (.reg [⟨some 4, none, .mov (.const (.slice .none 0 0)), [], none⟩]) (.seq (.reg [⟨some 5, none, .mov (.tmp 0), [], none⟩, ⟨some 6, none, .mov (.tmp 1), [], none⟩, ⟨some 7, none, .mov (.tmp 0), [], none⟩, ⟨some 8, none, .rdp (.mkfn (.func 54) 1) [.tmp 7], [], none⟩, ⟨some 9, none, .xc (.dir 56) [.tmp 5, .tmp 6, .tmp 8] [] [], [], none⟩, ⟨some 4, none, .mov (.tmp 9), [], none⟩]) .ret))
def fc850 : FC := ⟨2, 10, [(.tmp 4)], fb850⟩
theorem fc850_eq : compF Go.Proofs.Tryd.prog 33 = some fc850 := by kernel_rfl
def fb851 : AC := (.seq (.reg [⟨some 4, none, .mov (.const (.slice .none 0 0)), [], none⟩]) (.seq (.reg [⟨some 5, none, .mov (.tmp 0), [], none⟩, ⟨some 6, none, .mov (.tmp 1), [], none⟩, ⟨some 7, none, .mov (.tmp 0), [], none⟩, ⟨some 8, none, .rdp (.mkfn (.func 52) 1) [.tmp 7], [], none⟩, ⟨some 9, none, .xc (.dir 65) [.tmp 5, .tmp 6, .tmp 8] [] [], [], none⟩, ⟨some 4, none, .mov (.tmp 9), [], none⟩]) .ret))
def fc851 : FC := ⟨2, 10, [(.tmp 4)], fb851⟩
theorem fc851_eq : compF Go.Proofs.Tryd.prog 53 = some fc851 := by kernel_rfl
attribute [local irreducible] AReg
theorem rdTake_le {n : Nat} (s : RS) : (rdTake n s).2.1.length ≤ s.1.length := by
  unfold rdTake
  split
  · exact Nat.le_refl _
  · split
    · exact Nat.le_refl _
    · simp
theorem rdKey_le (s : RS) : (rdKey s).2.1.length ≤ s.1.length := rdTake_le s
theorem rdCount_le' {most : Nat} (s : RS) : (rdCount most s).2.1.length ≤ s.1.length := by
  unfold rdCount
  split
  · exact Nat.le_refl _
  · exact rdNum_le
theorem rdRep_end {α : Type} {one : RS → α × RS} (most : Nat) (s : RS) {acc : List α} {st : RS} (h : rdRep one (rdCount most s).1 (rdCount most s).2 = (acc, st)) (h0 : st.2 = 0 ∨ (rdCount most s).1 = 0) : rdList one most s = (acc, st) := by
  unfold rdList
  simp only
  rw [h, if_pos h0]
theorem rdRep_err {α : Type} {one : RS → α × RS} (most : Nat) (s : RS) {acc : List α} {st : RS} (h : rdRep one (rdCount most s).1 (rdCount most s).2 = (acc, st)) (h0 : st.2 ≠ 0) (h1 : (rdCount most s).1 ≠ 0) : rdList one most s = ([], (s.1, st.2)) := by
  unfold rdList
  simp only
  rw [h, if_neg (by simp only; exact fun h => h.elim h0 h1)]
section
variable {H : List (Option Blk)} {R : Rr} {s0 s : RS}
set_option maxRecDepth 20000 in
set_option maxHeartbeats 8000000 in
theorem listK_call (hh : RdOk H R s) (hs : s.1.length < 1000000) (most : Nat) (hm : most < 1000000) : XCall Go.Proofs.Tryd.prog 56 [.ptr R.b R.l 0 [], .lit (jn most), .fnv (.func 54) [.ptr R.b R.l 0 []] []] H fun r H' => r = .sl 32 (klA (rdList rdKey most s).1) ∧ H' = rdF H R (rdList rdKey most s).2 () := by
  have h848 := fc848_eq
  refine XCall.le ?_
  have hself := hh.self
  have hcal : callable Go.Proofs.Tryd.prog 54 = true := by kernel_rfl
  have cC := count_gk (s := s) hh hs most hm
  have cl := rdCount_le (most := most) s
  have cl' := rdCount_le' (most := most) s
  refine XCall.of h848 rfl ?_; show AC.wp _ fb848 ⟨H.length, [.ptr R.b R.l 0 [], .lit (jn most), .fnv (.func 54) [.ptr R.b R.l 0 []] []] ++ List.replicate (36 - 3) .any, H ++ List.replicate 36 none⟩ (fun x s => match x with | .exit _ => False | _ => ∃ s1, Le s s1 ∧ FinX [(.tmp 6)] s1 _); unfold fb848
  have hst : ∀ L, H ++ L = rdF H R s () ++ L := fun L => by rw [hself]
  rw [hst]
  generalize hN : H.length = N at *
  have G1 : ∀ i x, (rdF H R i x).length = N := fun i x => by rw [rdF_len, hN]
  have g1 : ∀ i x L k, (rdF H R i x ++ L)[N + k]? = L[k]? := fun i x L k => cat1 _ _ _ _ (G1 _ _)
  have g2 : ∀ i x L k z, (rdF H R i x ++ L).set (N + k) z = rdF H R i x ++ L.set k z := fun i x L k z => cat2 _ _ _ _ _ (G1 _ _)
  have db := fun t L => D_b hh t () L
  have ds := fun t L a e => D_sb' hh t () L a e
  have hEnd := fun (acc : List (List UInt8)) (st : RS) => rdRep_end (one := rdKey) most s (acc := acc) (st := st)
  have hErr := fun (acc : List (List UInt8)) (st : RS) => rdRep_err (one := rdKey) most s (acc := acc) (st := st)
  obtain ⟨c, hc⟩ : ∃ c, c = (rdCount most s).1 := ⟨_, rfl⟩
  obtain ⟨st0, hst0⟩ : ∃ st0, st0 = (rdCount most s).2 := ⟨_, rfl⟩
  rw [← hc, ← hst0] at cC hEnd hErr
  rw [← hc] at cl
  rw [← hst0] at cl'
  obtain ⟨Lr, hLr⟩ : ∃ Lr, Lr = rdList rdKey most s := ⟨_, rfl⟩
  rw [← hLr] at hEnd hErr ⊢
  refine wp_sr (by simp [push_cast]; exact rfl) ?_
  refine wp_sr (by simp [push_cast, db]; exact rfl) ?_
  refine wp_sr (by simp [push_cast]; exact rfl) ?_
  refine wp_seqM (fun _ : Unit => ⟨N, List.replicate 8 .any ++ [.sl 32 (klA Lr.1)] ++ List.replicate 27 .any, rdF H R Lr.2 () ++ List.replicate 36 none⟩) (fun _ => True) (fun _ _ => ?_) ?_
  · refine wp_sr (by simp [push_cast]; exact rfl) (wp_ret' ?_)
    exact ⟨_, Le.refl _, finX1 (v := .sl 32 (klA Lr.1)) (by simp [RVal, AS.ev, AS.coe]) (by simp) ⟨_, _, RelLe.refl _, by simp, HpLe.trim _ _, rfl, rfl⟩⟩
  refine wp_seq' (wp_rg ?_)
  refine areg_run 2 (by simp [push_cast]; exact rfl) ?_
  refine areg_gi cC (by simp [AS.ev, AS.put]) fun _ => ?_
  refine areg_end (by simp [push_cast]; exact rfl) ?_
  refine wp_block' (wp_loop_m (fun x : Nat × Value × List (List UInt8) × RS => ⟨N, [.ptr R.b R.l 0 [], .any, .fnv (.func 54) [.ptr R.b R.l 0 []] [], .any, .any, .any, .lit (.slice none 0 0), .lit (tx s.1), .own (N + 33) x.2.1] ++ List.replicate 7 .any ++ [.lit (jn c), .lit (jn x.1)] ++ List.replicate 18 .any, rdF H R x.2.2.2 () ++ (List.replicate 33 none ++ ([some (.row 26 x.2.1 32 (klA x.2.2.1) 0)] ++ List.replicate 2 none))⟩) (fun x => c - x.1)
    (fun x => x.1 ≤ c ∧ x.2.2.1.length = x.1 ∧ (rdRep rdKey c st0 = (x.2.2.1 ++ (rdRep rdKey (c - x.1) x.2.2.2).1, (rdRep rdKey (c - x.1) x.2.2.2).2)) ∧ (x.2.2.2.2 = 0 ∨ x.1 = 0) ∧ x.2.2.2.1.length ≤ s.1.length) (0, .slice none 0 0, [], st0) ?_ ⟨by omega, rfl, by simp, .inr rfl, cl'⟩ ?_)
  · refine Le.trans (Le.nilRow (t := 8) (b := N + 33) rfl (by simp only [AS.blk, g1]; rfl) 26 32) ?_
    simp only [g2]
    exact Le.cat (by simp [leT]) (by simp [leH, klA])
  rintro ⟨i, V, acc, st⟩ ⟨hi, ha, hI, he0, hsl⟩
  simp only at hi ha hI he0 hsl ⊢
  by_cases hlt : i < c
  · obtain ⟨m, hmm⟩ : ∃ m, c - i = m + 1 := ⟨c - i - 1, by omega⟩
    have hmm2 : c - (i + 1) = m := by omega
    have q1 : i + 1 < 9223372036854775808 := by omega
    have cO := KeyR_gk (s := st) hh
    have hle := rdKey_le st
    rw [hmm, rdRep] at hI
    have x32 := rdKey_len st
    generalize hone : rdKey st = g at *
    obtain ⟨x, s2, e2⟩ := g
    simp only at cO hle hI x32
    have hl8 : (klA acc).length = i := by rw [← ha]; exact klA_len _
    have hap : klA acc ++ [keyA x] = klA (acc ++ [x]) := by simp [klA]
    refine wp_sr (by simp [push_cast, hlt]; exact rfl) ?_
    refine wp_seq' (wp_cond_t (by simp [AS.ev]) (wp_skip' ?_))
    refine wp_seq' (wp_block' (wp_sg ?_))
    refine areg_run 1 (by simp [push_cast]; exact rfl) ?_
    refine areg_gk [.fnv (.func 54) [.ptr R.b R.l 0 []] []] G1 (by simp [AS.ev, AS.put]) (tgt_val hcal _ _) cO (by simp) (by simp) fun _ => ?_
    refine areg_al' zk_eq.symm fun l9 => areg_end (by simp [push_cast, g1, g2, x32, zk_len]; exact rfl) ?_
    by_cases he : e2 = 0
    · subst he
      rw [if_neg (by simp)] at hI
      simp only at hI
      refine wp_seq' (wp_seq' (wp_r (by simp [push_cast, db]; exact rfl) (wp_cond_f (by simp [AS.ev]) (wp_skip' ?_))))
      refine wp_rg ?_
      refine areg_run 2 (by simp [push_cast, g1, x32]; exact rfl) ?_
      refine areg_bsl (k := 32) (els := [keyA x]) (fill_ar rfl rfl rfl (by simp [AV.sz, AS.ev, AS.put, x32, bl_len]) rfl) ?_
      refine areg_ap (b := N + 33) (V := V) (ys := [keyA x]) rfl (by simp only [AS.blk, AS.put, g1]; rfl) (by simp [AS.ev, AS.coe, AS.put]) (by simp [hl8, maxLen]; omega) (by simp [hl8]; omega) (fun V2 => ?_) (by intro t' ht' b hb; cases ht')
      rw [hap]
      refine areg_end (by simp [push_cast, g1, g2]; exact rfl) ?_
      refine wp_r (by simp [push_cast, q1]; exact rfl) ?_
      exact ⟨(i + 1, V2, acc ++ [x], (s2, 0)), ⟨by simp only; omega, by simp only [List.length_append, List.length_singleton]; omega, by simp only [hmm2]; rw [hI, List.append_assoc]; rfl, .inl rfl, by simp only; omega⟩, by simp only; omega, Le.cat (by simp [leT]) (by simp [leH])⟩
    · rw [if_pos he] at hI
      have hL := hErr _ _ hI he (by omega)
      refine wp_seq' (wp_seq' (wp_r (by simp [push_cast, db, he]; exact rfl) (wp_cond_t (by simp [AS.ev]) ?_)))
      refine wp_sr (by simp [push_cast, db, ds]; exact rfl) ?_
      refine wp_sr (by simp [push_cast]; exact rfl) (wp_ret' ?_)
      exact ⟨_, Le.refl _, finX1 (v := .lit (.slice none 0 0)) (by simp [RVal, AS.ev, AS.coe]) (by simp) ⟨.sl 32 (klA Lr.1), _, by rw [hL]; exact RelLe.nil 32, by simp, HpLe.trim _ _, rfl, by rw [hL]⟩⟩
  · have hic : i = c := by omega
    subst hic
    rw [Nat.sub_self, rdRep, List.append_nil] at hI
    have hL := hEnd _ _ hI he0
    refine wp_sr (by simp [push_cast]; exact rfl) ?_
    refine wp_seq' (wp_cond_f (by simp [AS.ev]) (wp_exit' (if_hit rfl ?_)))
    refine ⟨(), trivial, Le.trans (Le.sealed (t := 8) (b := N + 33) (V := V) (els := klA acc) rfl (by simp only [AS.blk, g1]; rfl)) ?_⟩
    simp only [g2, hL]
    exact Le.cat (by simp [leT]) (by simp [leH])
end
def u32N (l : List Nat) : List AV := l.map fun n => .lit (wn n)
theorem u32N_len (l : List Nat) : (u32N l).length = l.length := by simp [u32N]
section
variable {H : List (Option Blk)} {R : Rr} {s0 s : RS}
set_option maxRecDepth 20000 in
set_option maxHeartbeats 8000000 in
theorem listN_call (hh : RdOk H R s) (hs : s.1.length < 1000000) (most : Nat) (hm : most < 1000000) : XCall Go.Proofs.Tryd.prog 65 [.ptr R.b R.l 0 [], .lit (jn most), .fnv (.func 52) [.ptr R.b R.l 0 []] []] H fun r H' => r = .sl 1 (u32N (rdList rdNum most s).1) ∧ H' = rdF H R (rdList rdNum most s).2 () := by
  have h849 := fc849_eq
  refine XCall.le ?_
  have hself := hh.self
  have hcal : callable Go.Proofs.Tryd.prog 52 = true := by kernel_rfl
  have cC := count_gk (s := s) hh hs most hm
  have cl := rdCount_le (most := most) s
  have cl' := rdCount_le' (most := most) s
  refine XCall.of h849 rfl ?_; show AC.wp _ fb849 ⟨H.length, [.ptr R.b R.l 0 [], .lit (jn most), .fnv (.func 52) [.ptr R.b R.l 0 []] []] ++ List.replicate (36 - 3) .any, H ++ List.replicate 36 none⟩ (fun x s => match x with | .exit _ => False | _ => ∃ s1, Le s s1 ∧ FinX [(.tmp 6)] s1 _); unfold fb849
  have hst : ∀ L, H ++ L = rdF H R s () ++ L := fun L => by rw [hself]
  rw [hst]
  generalize hN : H.length = N at *
  have G1 : ∀ i x, (rdF H R i x).length = N := fun i x => by rw [rdF_len, hN]
  have g1 : ∀ i x L k, (rdF H R i x ++ L)[N + k]? = L[k]? := fun i x L k => cat1 _ _ _ _ (G1 _ _)
  have g2 : ∀ i x L k z, (rdF H R i x ++ L).set (N + k) z = rdF H R i x ++ L.set k z := fun i x L k z => cat2 _ _ _ _ _ (G1 _ _)
  have db := fun t L => D_b hh t () L
  have ds := fun t L a e => D_sb' hh t () L a e
  have hEnd := fun (acc : List Nat) (st : RS) => rdRep_end (one := rdNum) most s (acc := acc) (st := st)
  have hErr := fun (acc : List Nat) (st : RS) => rdRep_err (one := rdNum) most s (acc := acc) (st := st)
  obtain ⟨c, hc⟩ : ∃ c, c = (rdCount most s).1 := ⟨_, rfl⟩
  obtain ⟨st0, hst0⟩ : ∃ st0, st0 = (rdCount most s).2 := ⟨_, rfl⟩
  rw [← hc, ← hst0] at cC hEnd hErr
  rw [← hc] at cl
  rw [← hst0] at cl'
  obtain ⟨Lr, hLr⟩ : ∃ Lr, Lr = rdList rdNum most s := ⟨_, rfl⟩
  rw [← hLr] at hEnd hErr ⊢
  refine wp_sr (by simp [push_cast]; exact rfl) ?_
  refine wp_sr (by simp [push_cast, db]; exact rfl) ?_
  refine wp_sr (by simp [push_cast]; exact rfl) ?_
  refine wp_seqM (fun _ : Unit => ⟨N, List.replicate 8 .any ++ [.sl 1 (u32N Lr.1)] ++ List.replicate 27 .any, rdF H R Lr.2 () ++ List.replicate 36 none⟩) (fun _ => True) (fun _ _ => ?_) ?_
  · refine wp_sr (by simp [push_cast]; exact rfl) (wp_ret' ?_)
    exact ⟨_, Le.refl _, finX1 (v := .sl 1 (u32N Lr.1)) (by simp [RVal, AS.ev, AS.coe]) (by simp) ⟨_, _, RelLe.refl _, by simp, HpLe.trim _ _, rfl, rfl⟩⟩
  refine wp_seq' (wp_rg ?_)
  refine areg_run 2 (by simp [push_cast]; exact rfl) ?_
  refine areg_gi cC (by simp [AS.ev, AS.put]) fun _ => ?_
  refine areg_end (by simp [push_cast]; exact rfl) ?_
  refine wp_block' (wp_loop_m (fun x : Nat × Value × List Nat × RS => ⟨N, [.ptr R.b R.l 0 [], .any, .fnv (.func 52) [.ptr R.b R.l 0 []] [], .any, .any, .any, .lit (.slice none 0 0), .lit (tx s.1), .own (N + 33) x.2.1] ++ List.replicate 7 .any ++ [.lit (jn c), .lit (jn x.1)] ++ List.replicate 18 .any, rdF H R x.2.2.2 () ++ (List.replicate 33 none ++ ([some (.row 22 x.2.1 1 (u32N x.2.2.1) 0)] ++ List.replicate 2 none))⟩) (fun x => c - x.1)
    (fun x => x.1 ≤ c ∧ x.2.2.1.length = x.1 ∧ (rdRep rdNum c st0 = (x.2.2.1 ++ (rdRep rdNum (c - x.1) x.2.2.2).1, (rdRep rdNum (c - x.1) x.2.2.2).2)) ∧ (x.2.2.2.2 = 0 ∨ x.1 = 0) ∧ x.2.2.2.1.length ≤ s.1.length) (0, .slice none 0 0, [], st0) ?_ ⟨by omega, rfl, by simp, .inr rfl, cl'⟩ ?_)
  · refine Le.trans (Le.nilRow (t := 8) (b := N + 33) rfl (by simp only [AS.blk, g1]; rfl) 22 1) ?_
    simp only [g2]
    exact Le.cat (by simp [leT]) (by simp [leH, u32N])
  rintro ⟨i, V, acc, st⟩ ⟨hi, ha, hI, he0, hsl⟩
  simp only at hi ha hI he0 hsl ⊢
  by_cases hlt : i < c
  · obtain ⟨m, hmm⟩ : ∃ m, c - i = m + 1 := ⟨c - i - 1, by omega⟩
    have hmm2 : c - (i + 1) = m := by omega
    have q1 : i + 1 < 9223372036854775808 := by omega
    have cO := Num_gk (s := st) hh (by omega)
    have hle := rdNum_le (s := st)
    rw [hmm, rdRep] at hI
    skip
    generalize hone : rdNum st = g at *
    obtain ⟨x, s2, e2⟩ := g
    simp only at cO hle hI
    have hl8 : (u32N acc).length = i := by rw [← ha]; exact u32N_len _
    have hap : u32N acc ++ [.lit (wn x)] = u32N (acc ++ [x]) := by simp [u32N]
    refine wp_sr (by simp [push_cast, hlt]; exact rfl) ?_
    refine wp_seq' (wp_cond_t (by simp [AS.ev]) (wp_skip' ?_))
    refine wp_seq' (wp_block' (wp_sg ?_))
    refine areg_run 1 (by simp [push_cast]; exact rfl) ?_
    refine areg_gk [.fnv (.func 52) [.ptr R.b R.l 0 []] []] G1 (by simp [AS.ev, AS.put]) (tgt_val hcal _ _) cO (by simp) (by simp) fun _ => ?_
    refine areg_end (by simp [push_cast, g1, g2]; exact rfl) ?_
    by_cases he : e2 = 0
    · subst he
      rw [if_neg (by simp)] at hI
      simp only at hI
      refine wp_seq' (wp_seq' (wp_r (by simp [push_cast, db]; exact rfl) (wp_cond_f (by simp [AS.ev]) (wp_skip' ?_))))
      refine wp_rg ?_
      refine areg_run 3 (by simp [push_cast, g1]; exact rfl) ?_
      refine areg_ap (b := N + 33) (V := V) (ys := [.lit (wn x)]) rfl (by simp only [AS.blk, AS.put, g1]; rfl) (by simp [AS.ev, AS.coe, AS.put]) (by simp [hl8, maxLen]; omega) (by simp [hl8]; omega) (fun V2 => ?_) (by intro t' ht' b hb; cases ht')
      rw [hap]
      refine areg_end (by simp [push_cast, g1, g2]; exact rfl) ?_
      refine wp_r (by simp [push_cast, q1]; exact rfl) ?_
      exact ⟨(i + 1, V2, acc ++ [x], (s2, 0)), ⟨by simp only; omega, by simp only [List.length_append, List.length_singleton]; omega, by simp only [hmm2]; rw [hI, List.append_assoc]; rfl, .inl rfl, by simp only; omega⟩, by simp only; omega, Le.cat (by simp [leT]) (by simp [leH])⟩
    · rw [if_pos he] at hI
      have hL := hErr _ _ hI he (by omega)
      refine wp_seq' (wp_seq' (wp_r (by simp [push_cast, db, he]; exact rfl) (wp_cond_t (by simp [AS.ev]) ?_)))
      refine wp_sr (by simp [push_cast, db, ds]; exact rfl) ?_
      refine wp_sr (by simp [push_cast]; exact rfl) (wp_ret' ?_)
      exact ⟨_, Le.refl _, finX1 (v := .lit (.slice none 0 0)) (by simp [RVal, AS.ev, AS.coe]) (by simp) ⟨.sl 1 (u32N Lr.1), _, by rw [hL]; exact RelLe.nil 1, by simp, HpLe.trim _ _, rfl, by rw [hL]⟩⟩
  · have hic : i = c := by omega
    subst hic
    rw [Nat.sub_self, rdRep, List.append_nil] at hI
    have hL := hEnd _ _ hI he0
    refine wp_sr (by simp [push_cast]; exact rfl) ?_
    refine wp_seq' (wp_cond_f (by simp [AS.ev]) (wp_exit' (if_hit rfl ?_)))
    refine ⟨(), trivial, Le.trans (Le.sealed (t := 8) (b := N + 33) (V := V) (els := u32N acc) rfl (by simp only [AS.blk, g1]; rfl)) ?_⟩
    simp only [g2, hL]
    exact Le.cat (by simp [leT]) (by simp [leH])
end
end Go.Cab
namespace Go.Cab
open Go.RowKit
open Classical
def fb819 : AC := (.seq (.reg [⟨some 1, none, .box 1 (.tmp 0), [], none⟩, ⟨some 2, none, .mov (.const (jn 0)), [], none⟩]) (.seq (.reg [⟨some 4, none, .faddr 0 0 (.tmp 1), [], none⟩, ⟨some 5, none, .load false 1 (.tmp 4), [], none⟩, ⟨some 6, none, .icall 52 (.tmp 5) [], [], none⟩, ⟨some 3, none, .mov (.tmp 6), [], none⟩]) (.seq (.seq (.reg [⟨some 7, none, .mov (.tmp 3), [], none⟩, ⟨some 8, none, .bin .gtr (.tmp 7) (.const (wn 1073741824)), [], none⟩]) (.cond (.tmp 8) (.seq (.reg [⟨some 2, none, .mov (.const (.int .i64 (-1))), [], none⟩]) .ret) .skip)) (.seq (.reg [⟨some 9, none, .mov (.tmp 3), [], none⟩, ⟨some 10, none, .cvt .i64 (.tmp 9), [], none⟩, ⟨some 2, none, .mov (.tmp 10), [], none⟩]) .ret))))
def fc819 : FC := ⟨1, 11, [(.tmp 2)], fb819⟩
theorem fc819_eq : compF Go.Proofs.Tryd.prog 31 = some fc819 := by kernel_rfl
attribute [local irreducible] AReg
theorem rdRep_le {α : Type} {one : RS → α × RS} (h : ∀ s, (one s).2.1.length ≤ s.1.length) : ∀ (n : Nat) (s : RS), (rdRep one n s).2.1.length ≤ s.1.length
  | 0, s => Nat.le_refl _
  | n + 1, s => by
    rw [rdRep]
    split
    · exact h s
    · exact Nat.le_trans (rdRep_le h n _) (h s)
theorem rdList_le {α : Type} {one : RS → α × RS} (h : ∀ s, (one s).2.1.length ≤ s.1.length) {most : Nat} (s : RS) : (rdList one most s).2.1.length ≤ s.1.length := by
  unfold rdList
  simp only
  split
  · exact Nat.le_trans (rdRep_le h _ _) (rdCount_le' s)
  · exact Nat.le_refl _
theorem rdText_le {most : Nat} (s : RS) : (rdText most s).2.1.length ≤ s.1.length := by
  unfold rdText
  simp only
  split
  · exact Nat.le_trans (rdTake_le _) (rdCount_le' s)
  · exact Nat.le_refl _
section
variable {H : List (Option Blk)} {R : Rr} {s0 s : RS}
theorem listK_gk (hh : RdOk H R s0) (hs : s.1.length < 1000000) (most : Nat) (hm : most < 1000000) : GC Go.Proofs.Tryd.prog 56 [.ptr R.b R.l 0 [], .lit (jn most), .fnv (.func 54) [.ptr R.b R.l 0 []] []] (rdF H R) s (.sl 32 (klA (rdList rdKey most s).1)) (rdList rdKey most s).2 := GC.ofD hh fun H h => listK_call h hs most hm
theorem listN_gk (hh : RdOk H R s0) (hs : s.1.length < 1000000) (most : Nat) (hm : most < 1000000) : GC Go.Proofs.Tryd.prog 65 [.ptr R.b R.l 0 [], .lit (jn most), .fnv (.func 52) [.ptr R.b R.l 0 []] []] (rdF H R) s (.sl 1 (u32N (rdList rdNum most s).1)) (rdList rdNum most s).2 := GC.ofD hh fun H h => listN_call h hs most hm
set_option maxHeartbeats 4000000 in
theorem KeyList_call (hh : RdOk H R s) (hs : s.1.length < 1000000) (most : Nat) (hm : most < 1000000) : XCall Go.Proofs.Tryd.prog 33 [.ptr R.b R.l 0 [], .lit (jn most)] H fun r H' => r = .sl 32 (klA (rdList rdKey most s).1) ∧ H' = rdF H R (rdList rdKey most s).2 () := by
  have h850 := fc850_eq
  refine XCall.le ?_
  have hself := hh.self
  have c := listK_gk (s := s) hh hs most hm
  have hcal : callable Go.Proofs.Tryd.prog 56 = true := by kernel_rfl
  refine XCall.of h850 rfl ?_; show AC.wp _ fb850 ⟨H.length, [.ptr R.b R.l 0 [], .lit (jn most)] ++ List.replicate (10 - 2) .any, H ++ List.replicate 10 none⟩ (fun x s => match x with | .exit _ => False | _ => ∃ s1, Le s s1 ∧ FinX [(.tmp 4)] s1 _); unfold fb850
  have hst : ∀ L, H ++ L = rdF H R s () ++ L := fun L => by rw [hself]
  rw [hst]
  generalize hN : H.length = N at *
  have G1 : ∀ i x, (rdF H R i x).length = N := fun i x => by rw [rdF_len, hN]
  refine wp_sr (by simp [push_cast]; exact rfl) ?_
  refine wp_sg ?_
  refine areg_run 4 (by simp [push_cast]; exact rfl) ?_
  refine areg_gk [.ptr R.b R.l 0 [], .lit (jn most), .fnv (.func 54) [.ptr R.b R.l 0 []] []] G1 (by simp [AS.ev, AS.put]) (tgt_dir hcal _) c (by simp) (by simp) fun _ => ?_
  refine areg_end (by simp [push_cast]; exact rfl) (wp_ret' ?_)
  exact ⟨_, Le.refl _, finX1 (v := .sl 32 (klA (rdList rdKey most s).1)) (by simp [RVal, AS.ev, AS.coe]) (by simp) ⟨_, _, RelLe.refl _, by simp, HpLe.trim _ _, rfl, rfl⟩⟩
set_option maxHeartbeats 4000000 in
theorem NumberList_call (hh : RdOk H R s) (hs : s.1.length < 1000000) (most : Nat) (hm : most < 1000000) : XCall Go.Proofs.Tryd.prog 53 [.ptr R.b R.l 0 [], .lit (jn most)] H fun r H' => r = .sl 1 (u32N (rdList rdNum most s).1) ∧ H' = rdF H R (rdList rdNum most s).2 () := by
  have h851 := fc851_eq
  refine XCall.le ?_
  have hself := hh.self
  have c := listN_gk (s := s) hh hs most hm
  have hcal : callable Go.Proofs.Tryd.prog 65 = true := by kernel_rfl
  refine XCall.of h851 rfl ?_; show AC.wp _ fb851 ⟨H.length, [.ptr R.b R.l 0 [], .lit (jn most)] ++ List.replicate (10 - 2) .any, H ++ List.replicate 10 none⟩ (fun x s => match x with | .exit _ => False | _ => ∃ s1, Le s s1 ∧ FinX [(.tmp 4)] s1 _); unfold fb851
  have hst : ∀ L, H ++ L = rdF H R s () ++ L := fun L => by rw [hself]
  rw [hst]
  generalize hN : H.length = N at *
  have G1 : ∀ i x, (rdF H R i x).length = N := fun i x => by rw [rdF_len, hN]
  refine wp_sr (by simp [push_cast]; exact rfl) ?_
  refine wp_sg ?_
  refine areg_run 4 (by simp [push_cast]; exact rfl) ?_
  refine areg_gk [.ptr R.b R.l 0 [], .lit (jn most), .fnv (.func 52) [.ptr R.b R.l 0 []] []] G1 (by simp [AS.ev, AS.put]) (tgt_dir hcal _) c (by simp) (by simp) fun _ => ?_
  refine areg_end (by simp [push_cast]; exact rfl) (wp_ret' ?_)
  exact ⟨_, Le.refl _, finX1 (v := .sl 1 (u32N (rdList rdNum most s).1)) (by simp [RVal, AS.ev, AS.coe]) (by simp) ⟨_, _, RelLe.refl _, by simp, HpLe.trim _ _, rfl, rfl⟩⟩
theorem KeyList_gk (hh : RdOk H R s0) (hs : s.1.length < 1000000) (most : Nat) (hm : most < 1000000) : GC Go.Proofs.Tryd.prog 33 [.ptr R.b R.l 0 [], .lit (jn most)] (rdF H R) s (.sl 32 (klA (rdList rdKey most s).1)) (rdList rdKey most s).2 := GC.ofD hh fun H h => KeyList_call h hs most hm
theorem NumberList_gk (hh : RdOk H R s0) (hs : s.1.length < 1000000) (most : Nat) (hm : most < 1000000) : GC Go.Proofs.Tryd.prog 53 [.ptr R.b R.l 0 [], .lit (jn most)] (rdF H R) s (.sl 1 (u32N (rdList rdNum most s).1)) (rdList rdNum most s).2 := GC.ofD hh fun H h => NumberList_call h hs most hm
set_option maxHeartbeats 4000000 in
theorem End_call (hh : RdOk H R s) : XCall Go.Proofs.Tryd.prog 34 [.ptr R.b R.l 0 []] H fun r H' => r = .lit (jn (endE s)) ∧ H' = H := by
  have h841 := fc841_eq
  refine XCall.le ?_
  refine XCall.of h841 rfl ?_; show AC.wp _ fb841 ⟨H.length, [.ptr R.b R.l 0 []] ++ List.replicate (20 - 1) .any, H ++ List.replicate 20 none⟩ (fun x s => match x with | .exit _ => False | _ => ∃ s1, Le s s1 ∧ FinX [(.tmp 2)] s1 _); unfold fb841
  generalize hN : H.length = N at *
  have wb : ∀ L, (H ++ L)[R.b]? = some (some (.box R.l 2 (.st [1, 1] [.lit (tx s.1), .lit (jn s.2)]))) := fun L => hh.app L
  have fin : ∀ (v : Nat) (a : AS) (L : List (Option Blk)), endE s = v → a.ev (.tmp 2) = .lit (jn v) → a.hp = H ++ L → ∃ s1, Le a s1 ∧ FinX [RV.tmp 2] s1 fun r H' => ∃ r' A, RelLe r r' ∧ r' ≠ .any ∧ HpLe H' A ∧ r' = .lit (jn (endE s)) ∧ A = H := fun v a L h1 h2 h3 =>
    ⟨a, Le.refl _, finX1 (v := .lit (jn v)) (by simp [RVal, AS.coe, h2]) (by simp) ⟨_, _, RelLe.refl _, by simp, by rw [h3]; exact HpLe.trim _ _, by rw [h1], rfl⟩⟩
  obtain ⟨s, e⟩ := s
  simp only at wb
  refine wp_sr (by simp [push_cast]; exact rfl) ?_
  by_cases he : e = 0
  · subst he
    by_cases hl : 0 < s.length
    · refine wp_seq' (wp_seq' (wp_r (by simp [push_cast, wb, hl]; exact rfl) (wp_cond_t (by simp [AS.ev, hl]) ?_)))
      refine wp_sr (by simp [push_cast]; exact rfl) (wp_ret' ?_)
      exact fin 6 _ _ (by simp [endE, hl]) rfl rfl
    · refine wp_seq' (wp_seq' (wp_r (by simp [push_cast, wb, hl]; exact rfl) (wp_cond_f (by simp [AS.ev, hl]) (wp_skip' ?_))))
      refine wp_sr (by simp [push_cast, wb]; exact rfl) (wp_ret' ?_)
      exact fin 0 _ _ (by simp [endE, hl]) rfl rfl
  · refine wp_seq' (wp_seq' (wp_r (by simp [push_cast, wb, he]; exact rfl) (wp_cond_f (by simp [AS.ev, he]) (wp_skip' ?_))))
    refine wp_sr (by simp [push_cast, wb]; exact rfl) (wp_ret' ?_)
    exact fin e _ _ (by simp [endE, he]) rfl rfl
theorem End_gk (hh : RdOk H R s0) : GC Go.Proofs.Tryd.prog 34 [.ptr R.b R.l 0 []] (rdF H R) s (.lit (jn (endE s))) s := GC.ofD hh fun H h => by
  refine XCall.mono (End_call h) ?_
  rintro r H' ⟨h1, h2⟩
  exact ⟨h1, by rw [h2, h.self]⟩
def rdV (R : Rr) : AV := .st [1] [.ptr R.b R.l 0 []]
theorem bin_gtrw' (a b : Nat) : binVal .gtr (wn a) (wn b) = some (.bool (decide (b < a))) := by simp [binVal, wn]
set_option maxHeartbeats 4000000 in
theorem small_rd (hh : RdOk H R s) (hs : s.1.length < 1000000) : XCall Go.Proofs.Tryd.prog 31 [rdV R] H fun r H' => r = .lit (ji (rdSmall s).1) ∧ H' = rdF H R (rdSmall s).2 () := by
  have h819 := fc819_eq
  refine XCall.le ?_
  have hself := hh.self
  have c := Num_gk (s := s) hh hs
  have hlt := rdNum_lt s
  unfold rdV
  refine XCall.of h819 rfl ?_; show AC.wp _ fb819 ⟨H.length, [.st [1] [.ptr R.b R.l 0 []]] ++ List.replicate (11 - 1) .any, H ++ List.replicate 11 none⟩ (fun x s => match x with | .exit _ => False | _ => ∃ s1, Le s s1 ∧ FinX [(.tmp 2)] s1 _); unfold fb819
  have hst : ∀ L, H ++ L = rdF H R s () ++ L := fun L => by rw [hself]
  rw [hst]
  generalize hN : H.length = N at *
  have G1 : ∀ i x, (rdF H R i x).length = N := fun i x => by rw [rdF_len, hN]
  have g1 : ∀ i x L k, (rdF H R i x ++ L)[N + k]? = L[k]? := fun i x L k => cat1 _ _ _ _ (G1 _ _)
  have g2 : ∀ i x L k z, (rdF H R i x ++ L).set (N + k) z = rdF H R i x ++ L.set k z := fun i x L k z => cat2 _ _ _ _ _ (G1 _ _)
  have hb := bin_gtrw' (rdNum s).1 1073741824
  have cj := cvt_wj _ hlt
  unfold rdSmall smallV
  simp only
  generalize rdNum s = g at *
  obtain ⟨n, st⟩ := g
  simp only at c hb cj ⊢
  refine wp_sg (areg_bx rfl rfl fun l1 => areg_end (by simp [push_cast, g2]; exact rfl) ?_)
  refine wp_sg ?_
  refine areg_run 2 (by simp [push_cast, g1]; exact rfl) ?_
  refine areg_gi c (by simp [AS.ev, AS.put]) fun _ => ?_
  refine areg_end (by simp [push_cast]; exact rfl) ?_
  by_cases h : 1073741824 < n
  · refine wp_seq' (wp_sr (by simp [push_cast, hb, h]; exact rfl) (wp_cond_t (by simp [AS.ev, h]) ?_))
    refine wp_sr (by simp [push_cast]; exact rfl) (wp_ret' ?_)
    rw [if_pos h]
    exact ⟨_, Le.refl _, finX1 (v := .lit (ji (-1))) (by simp [RVal, AS.ev, AS.coe, ji]) (by simp) ⟨_, _, RelLe.refl _, by simp, HpLe.trim _ _, rfl, rfl⟩⟩
  · refine wp_seq' (wp_sr (by simp [push_cast, hb, h]; exact rfl) (wp_cond_f (by simp [AS.ev, h]) (wp_skip' ?_)))
    refine wp_sr (by simp [push_cast, cj]; exact rfl) (wp_ret' ?_)
    rw [if_neg h]
    exact ⟨_, Le.refl _, finX1 (v := .lit (jn n)) (by simp [RVal, AS.ev, AS.coe]) (by simp) ⟨_, _, RelLe.refl _, by simp, HpLe.trim _ _, rfl, rfl⟩⟩
theorem small_gk (hh : RdOk H R s0) (hs : s.1.length < 1000000) : GC Go.Proofs.Tryd.prog 31 [rdV R] (rdF H R) s (.lit (ji (rdSmall s).1)) (rdSmall s).2 := GC.ofD hh fun H h => small_rd h hs
end
end Go.Cab
namespace Go.Cab
open Go.RowKit
open Classical
def isBoolT (o : Option TypeDesc) : Bool := match o with | some .bool => true | _ => false
def KLit (P : Program) (d : Nat) (t : TypeId) (v : AV) (l : List Lit) : Prop := v.isTup = false ∧ v.sz = P.cellsOf t ∧ ∀ (Imm : Nat → Nat → Prop) (w : World) (cs : List Value), R Imm w v cs → P.keyLits d t cs = some l
theorem mid_cut {α : Type} {pre c post : List α} {a n : Nat} (ha : pre.length = a) (hn : c.length = n) : ((pre ++ c ++ post).drop a).take n = c := by subst ha hn; simp [List.append_assoc]
theorem R.elemD {Imm : Nat → Nat → Prop} {w : World} {esz : Nat} {els : List AV} {cs : List Value} (h : R Imm w (.arr esz els) cs) (i : Nat) (f : AV) (hf : els[i]? = some f) : R Imm w f ((cs.drop (i * esz)).take esz) := by
  obtain ⟨pre, c, post, rfl, h1, h2, h3, _⟩ := R.elem h i f hf
  rw [mid_cut h1 h2]; exact h3
theorem R.fieldD {Imm : Nat → Nat → Prop} {w : World} {ns : List Nat} {fs : List AV} {cs : List Value} (h : R Imm w (.st ns fs) cs) (i n o : Nat) (f : AV) (hn : ns[i]? = some n) (hf : fs[i]? = some f) (ho : (ns.take i).sum = o) : R Imm w f ((cs.drop o).take n) := by
  obtain ⟨pre, c, post, rfl, h1, h2, h3, _⟩ := R.field h i n f hn hf
  rw [mid_cut (h1.trans ho) h2]; exact h3
theorem KLit.arr {P : Program} {d : Nat} {t e : TypeId} {n esz : Nat} {els : List AV} {ls : Nat → List Lit} (hu : P.underlying t = some (.array n e)) (hn : els.length = n) (hc : P.cellsOf t = n * esz) (he : P.cellsOf e = esz)
    (h : ∀ i v, els[i]? = some v → KLit P d e v (ls i)) : KLit P (d + 1) t (.arr esz els) ((List.range n).map ls).flatten := by
  refine ⟨rfl, by simp [AV.sz, hc, hn], fun Imm w cs hr => ?_⟩
  have hl := hr.len rfl
  unfold Program.keyLits
  simp only [hu]
  rw [if_pos (by rw [hl, hc]; simp [AV.sz, hn]), mapM_some (g := ls)]
  · rfl
  · intro i hi
    have hi' : i < n := by simpa using hi
    have hg : els[i]? = some els[i] := List.getElem?_eq_getElem (by omega)
    have := (h i _ hg).2.2 Imm w _ (hr.elemD i _ hg)
    rw [he]
    exact this
theorem KLit.bool {P : Program} {d : Nat} {t : TypeId} {b : Bool} (hu : isBoolT (P.underlying t) = true) (hc : P.cellsOf t = 1) : KLit P (d + 1) t (.lit (.bool b)) [.bool b] := by
  refine ⟨rfl, by simp [AV.sz, hc], fun Imm w cs hr => ?_⟩
  cases hr
  unfold Program.keyLits
  unfold isBoolT at hu
  split at hu
  · rename_i h; simp only [h]
  · cases hu
theorem KLit.key {d : Nat} {k : List UInt8} (hk : k.length = 32) : KLit Go.Proofs.Tryd.prog (d + 2) 26 (keyA k) ((List.range 32).map fun i => Lit.int .u8 (((k.getD i 0).toNat : Nat) : Int)) := by
  have hc : Go.Proofs.Tryd.prog.cellsOf 26 = 32 := by kernel_rfl
  refine ⟨rfl, by simp [keyA, AV.sz, bl_len, hk, hc], fun Imm w cs hr => ?_⟩
  have ex := R_bl hr
  rw [map_range, hk] at ex
  subst ex
  have lt : ∀ i, (k.getD i 0).toNat < 256 := fun i => (k.getD i 0).toNat_lt
  have hu : Go.Proofs.Tryd.prog.underlying 26 = some (.array 32 5) := by kernel_rfl
  have he : Go.Proofs.Tryd.prog.underlying 5 = some (.int .u8) := by kernel_rfl
  have h1 : Go.Proofs.Tryd.prog.cellsOf 5 = 1 := by kernel_rfl
  exact keyLits_row hu he hc h1 (fun i => (((k.getD i 0).toNat : Nat) : Int)) (fun i _ => wf_bn (lt i)) d
theorem KLit.eq {P : Program} {t : TypeId} {D : Nat} {v : AV} {l : List Lit} (h : KLit P D t v l) (hf : ∀ cs : List Value, cs.length = v.sz → (asVal v cs).formed P t = true) : EqAV P t v v true := fun Imm w cs cs' h1 h2 => by
  have e1 := h.2.2 Imm w cs h1
  have e2 := h.2.2 Imm w cs' h2
  exact ⟨D, D, l, l, hf _ (h1.len h.1), hf _ (h2.len h.1), e1, e2, by simp⟩
def litK (k : List UInt8) : List Lit := (List.range 32).map fun i => Lit.int .u8 (((k.getD i 0).toNat : Nat) : Int)
theorem KLit.int {P : Program} {d : Nat} {t : TypeId} {n : Int} (hu : P.underlying t = some (.int .i64)) (hc : P.cellsOf t = 1) (hn : -9223372036854775808 ≤ n ∧ n ≤ 9223372036854775807) : KLit P (d + 1) t (.lit (ji n)) [.int .i64 n] := by
  refine ⟨rfl, by simp [AV.sz, hc], fun Imm w cs hr => ?_⟩
  cases hr
  unfold Program.keyLits
  simp only [hu, ji]
  have hw : (Lit.int .i64 n).wf = true := by
    simp [Lit.wf, IntKind.min, IntKind.max, IntKind.signed, IntKind.bits]
    omega
  rw [if_pos ⟨trivial, hw⟩]
theorem KLit.u32 {P : Program} {d : Nat} {t : TypeId} {n : Nat} (hu : P.underlying t = some (.int .u32)) (hc : P.cellsOf t = 1) (hn : n < 4294967296) : KLit P (d + 1) t (.lit (wn n)) [.int .u32 n] := by
  refine ⟨rfl, by simp [AV.sz, hc], fun Imm w cs hr => ?_⟩
  cases hr
  unfold Program.keyLits
  simp only [hu, wn]
  have hw : (Lit.int .u32 (n : Int)).wf = true := by
    simp [Lit.wf, IntKind.min, IntKind.max, IntKind.signed, IntKind.bits]
    omega
  rw [if_pos ⟨trivial, hw⟩]
theorem KLit.text {P : Program} {d : Nat} {t : TypeId} {s : List UInt8} (hu : P.underlying t = some .string) (hc : P.cellsOf t = 1) (hn : s.length ≤ maxLen) : KLit P (d + 1) t (.lit (tx s)) [.string s] := by
  refine ⟨rfl, by simp [AV.sz, hc], fun Imm w cs hr => ?_⟩
  cases hr
  unfold Program.keyLits
  simp only [hu, tx]
  rw [if_pos (by show s.length ≤ _; exact hn)]
theorem KLit.st3 {P : Program} {d : Nat} {t : TypeId} {fs : Array Field} {f1 f2 f3 : Field} {n1 n2 n3 : Nat} {v1 v2 v3 : AV} {l1 l2 l3 : List Lit} (hu : P.underlying t = some (.struct fs)) (hl : fs.toList = [f1, f2, f3]) (hall : fs.all (·.name != "_") = true)
    (o1 : f1.offset = 0) (o2 : f2.offset = n1) (o3 : f3.offset = n1 + n2) (hc : P.cellsOf t = n1 + n2 + n3) (k1 : KLit P d f1.type v1 l1) (k2 : KLit P d f2.type v2 l2) (k3 : KLit P d f3.type v3 l3) (c1 : P.cellsOf f1.type = n1) (c2 : P.cellsOf f2.type = n2) (c3 : P.cellsOf f3.type = n3) :
    KLit P (d + 1) t (.st [n1, n2, n3] [v1, v2, v3]) (l1 ++ (l2 ++ l3)) := by
  refine ⟨rfl, by rw [hc]; simp [AV.sz, Nat.add_assoc], fun Imm w cs hr => ?_⟩
  have hlen := hr.len rfl
  have e1 := k1.2.2 Imm w _ (hr.fieldD 0 n1 0 _ rfl rfl (by simp))
  have e2 := k2.2.2 Imm w _ (hr.fieldD 1 n2 n1 _ rfl rfl (by simp))
  have e3 := k3.2.2 Imm w _ (hr.fieldD 2 n3 (n1 + n2) _ rfl rfl (by simp))
  unfold Program.keyLits
  simp only [hu]
  rw [if_pos ⟨by rw [hlen, hc]; simp [AV.sz, Nat.add_assoc], hall⟩, hl]
  simp only [List.mapM_cons, List.mapM_nil, o1, o2, o3, c1, c2, c3, e1, e2, e3]
  simp
end Go.Cab
namespace Go.Cab
open Go.RowKit
open Classical
def fb860 : AC := (.seq (.reg [⟨some 4, none, .mov (.const (.bool false)), [], none⟩]) (.seq (.seq (.reg [⟨some 6, none, .mov (.tmp 0), [], none⟩, ⟨some 7, none, .len false (.tmp 6), [], none⟩, ⟨some 8, none, .mov (.tmp 1), [], none⟩, ⟨some 9, none, .len false (.tmp 8), [], none⟩, ⟨some 10, none, .bin .neq (.tmp 7) (.tmp 9), [], none⟩]) (.cond (.tmp 10) (.seq (.reg [⟨some 4, none, .mov (.const (.bool false)), [], none⟩]) .ret) .skip)) (.seq (.seq (.reg [⟨some 11, none, .mov (.tmp 0), [], none⟩, ⟨some 12, none, .len false (.tmp 11), [], none⟩, ⟨some 13, none, .mov (.const (jn 0)), [], none⟩]) (.block 0 (.loop (.seq (.reg [⟨some 14, none, .bin .lss (.tmp 13) (.tmp 12), [], none⟩]) (.seq (.cond (.tmp 14) .skip (.exit 0)) (.seq (.block 1 (.seq (.reg [⟨some 15, none, .mov (.tmp 13), [], none⟩, ⟨some 5, none, .mov (.tmp 15), [], none⟩]) (.seq (.reg [⟨some 16, none, .mov (.tmp 0), [], none⟩, ⟨some 17, none, .mov (.tmp 5), [], none⟩, ⟨some 18, none, .iaddrS 32 (.tmp 16) (.tmp 17), [], none⟩, ⟨some 19, none, .load true 32 (.tmp 18), [], none⟩, ⟨some 20, none, .mov (.tmp 1), [], none⟩, ⟨some 21, none, .mov (.tmp 5), [], none⟩, ⟨some 22, none, .iaddrS 32 (.tmp 20) (.tmp 21), [], none⟩, ⟨some 23, none, .load true 32 (.tmp 22), [], none⟩, ⟨some 24, none, .eqv 26 true (.tmp 19) (.tmp 23), [], none⟩]) (.cond (.tmp 24) (.seq (.reg [⟨some 4, none, .mov (.const (.bool false)), [], none⟩]) .ret) .skip)))) (.reg [⟨some 25, none, .bin .add (.tmp 13) (.const (jn 1)), [], none⟩, ⟨some 13, none, .mov (.tmp 25), [], none⟩]))))))) (.seq (.reg [⟨some 4, none, .mov (.const (.bool true)), [], none⟩]) .ret))))
def fc860 : FC := ⟨2, 26, [(.tmp 4)], fb860⟩
theorem fc860_eq : compF Go.Proofs.Tryd.prog 36 = some fc860 := by kernel_rfl
def fb861 : AC := (.seq (.reg [⟨some 4, none, .mov (.const (.bool false)), [], none⟩]) (.seq (.seq (.reg [⟨some 6, none, .mov (.tmp 0), [], none⟩, ⟨some 7, none, .len false (.tmp 6), [], none⟩, ⟨some 8, none, .mov (.tmp 1), [], none⟩, ⟨some 9, none, .len false (.tmp 8), [], none⟩, ⟨some 10, none, .bin .neq (.tmp 7) (.tmp 9), [], none⟩]) (.cond (.tmp 10) (.seq (.reg [⟨some 4, none, .mov (.const (.bool false)), [], none⟩]) .ret) .skip)) (.seq (.seq (.reg [⟨some 11, none, .mov (.tmp 0), [], none⟩, ⟨some 12, none, .len false (.tmp 11), [], none⟩, ⟨some 13, none, .mov (.const (jn 0)), [], none⟩]) (.block 0 (.loop (.seq (.reg [⟨some 14, none, .bin .lss (.tmp 13) (.tmp 12), [], none⟩]) (.seq (.cond (.tmp 14) .skip (.exit 0)) (.seq (.block 1 (.seq (.reg [⟨some 15, none, .mov (.tmp 13), [], none⟩, ⟨some 5, none, .mov (.tmp 15), [], none⟩]) (.seq (.reg [⟨some 16, none, .mov (.tmp 0), [], none⟩, ⟨some 17, none, .mov (.tmp 5), [], none⟩, ⟨some 18, none, .iaddrS 1 (.tmp 16) (.tmp 17), [], none⟩, ⟨some 19, none, .load false 1 (.tmp 18), [], none⟩, ⟨some 20, none, .mov (.tmp 1), [], none⟩, ⟨some 21, none, .mov (.tmp 5), [], none⟩, ⟨some 22, none, .iaddrS 1 (.tmp 20) (.tmp 21), [], none⟩, ⟨some 23, none, .load false 1 (.tmp 22), [], none⟩, ⟨some 24, none, .bin .neq (.tmp 19) (.tmp 23), [], none⟩]) (.cond (.tmp 24) (.seq (.reg [⟨some 4, none, .mov (.const (.bool false)), [], none⟩]) .ret) .skip)))) (.reg [⟨some 25, none, .bin .add (.tmp 13) (.const (jn 1)), [], none⟩, ⟨some 13, none, .mov (.tmp 25), [], none⟩]))))))) (.seq (.reg [⟨some 4, none, .mov (.const (.bool true)), [], none⟩]) .ret))))
def fc861 : FC := ⟨2, 26, [(.tmp 4)], fb861⟩
theorem fc861_eq : compF Go.Proofs.Tryd.prog 57 = some fc861 := by kernel_rfl
def fb862 : AC := (.seq (.reg [⟨some 4, none, .mov (.const (.bool false)), [], none⟩]) (.seq (.seq (.reg [⟨some 6, none, .mov (.tmp 0), [], none⟩, ⟨some 7, none, .len false (.tmp 6), [], none⟩, ⟨some 8, none, .mov (.tmp 1), [], none⟩, ⟨some 9, none, .len false (.tmp 8), [], none⟩, ⟨some 10, none, .bin .neq (.tmp 7) (.tmp 9), [], none⟩]) (.cond (.tmp 10) (.seq (.reg [⟨some 4, none, .mov (.const (.bool false)), [], none⟩]) .ret) .skip)) (.seq (.seq (.reg [⟨some 11, none, .mov (.tmp 0), [], none⟩, ⟨some 12, none, .len false (.tmp 11), [], none⟩, ⟨some 13, none, .mov (.const (jn 0)), [], none⟩]) (.block 0 (.loop (.seq (.reg [⟨some 14, none, .bin .lss (.tmp 13) (.tmp 12), [], none⟩]) (.seq (.cond (.tmp 14) .skip (.exit 0)) (.seq (.block 1 (.seq (.reg [⟨some 15, none, .mov (.tmp 13), [], none⟩, ⟨some 5, none, .mov (.tmp 15), [], none⟩]) (.seq (.reg [⟨some 16, none, .mov (.tmp 0), [], none⟩, ⟨some 17, none, .mov (.tmp 5), [], none⟩, ⟨some 18, none, .iaddrS 36 (.tmp 16) (.tmp 17), [], none⟩, ⟨some 19, none, .load true 36 (.tmp 18), [], none⟩, ⟨some 20, none, .mov (.tmp 1), [], none⟩, ⟨some 21, none, .mov (.tmp 5), [], none⟩, ⟨some 22, none, .iaddrS 36 (.tmp 20) (.tmp 21), [], none⟩, ⟨some 23, none, .load true 36 (.tmp 22), [], none⟩, ⟨some 24, none, .eqv 51 true (.tmp 19) (.tmp 23), [], none⟩]) (.cond (.tmp 24) (.seq (.reg [⟨some 4, none, .mov (.const (.bool false)), [], none⟩]) .ret) .skip)))) (.reg [⟨some 25, none, .bin .add (.tmp 13) (.const (jn 1)), [], none⟩, ⟨some 13, none, .mov (.tmp 25), [], none⟩]))))))) (.seq (.reg [⟨some 4, none, .mov (.const (.bool true)), [], none⟩]) .ret))))
def fc862 : FC := ⟨2, 26, [(.tmp 4)], fb862⟩
theorem fc862_eq : compF Go.Proofs.Tryd.prog 58 = some fc862 := by kernel_rfl
def fb815 : AC := (.seq (.reg [⟨some 2, none, .box 71 (.tmp 0), [], none⟩, ⟨some 3, none, .box 71 (.tmp 1), [], none⟩, ⟨some 4, none, .mov (.const (.bool false)), [], none⟩]) (.seq (.reg [⟨some 5, none, .faddr 0 0 (.tmp 2), [], none⟩, ⟨some 6, none, .load false 1 (.tmp 5), [], none⟩, ⟨some 7, none, .faddr 0 0 (.tmp 3), [], none⟩, ⟨some 8, none, .load false 1 (.tmp 7), [], none⟩, ⟨some 9, none, .bin .eql (.tmp 6) (.tmp 8), [], none⟩, ⟨some 10, none, .mov (.tmp 9), [], none⟩, ⟨some 11, some (10, true), .faddr 1 1 (.tmp 2), [], none⟩, ⟨some 12, some (10, true), .load false 1 (.tmp 11), [], none⟩, ⟨some 13, some (10, true), .faddr 1 1 (.tmp 3), [], none⟩, ⟨some 14, some (10, true), .load false 1 (.tmp 13), [], none⟩, ⟨some 15, some (10, true), .bin .eql (.tmp 12) (.tmp 14), [], none⟩, ⟨some 16, none, .pick (.tmp 10) (.tmp 15) (.const (.bool false)), [], none⟩, ⟨some 17, none, .mov (.tmp 16), [], none⟩, ⟨some 18, some (17, true), .faddr 3 3 (.tmp 2), [], none⟩, ⟨some 19, some (17, true), .load false 1 (.tmp 18), [], none⟩, ⟨some 20, some (17, true), .faddr 3 3 (.tmp 3), [], none⟩, ⟨some 21, some (17, true), .load false 1 (.tmp 20), [], none⟩, ⟨some 22, some (17, true), .bin .eql (.tmp 19) (.tmp 21), [], none⟩, ⟨some 23, none, .pick (.tmp 17) (.tmp 22) (.const (.bool false)), [], none⟩, ⟨some 24, none, .mov (.tmp 23), [], none⟩, ⟨some 25, some (24, true), .faddr 5 5 (.tmp 2), [], none⟩, ⟨some 26, some (24, true), .load true 32 (.tmp 25), [], none⟩, ⟨some 27, some (24, true), .faddr 5 5 (.tmp 3), [], none⟩, ⟨some 28, some (24, true), .load true 32 (.tmp 27), [], none⟩, ⟨some 29, some (24, true), .eqv 26 false (.tmp 26) (.tmp 28), [], none⟩, ⟨some 30, none, .pick (.tmp 24) (.tmp 29) (.const (.bool false)), [], none⟩, ⟨some 31, none, .mov (.tmp 30), [], none⟩, ⟨some 32, some (31, true), .faddr 37 6 (.tmp 2), [], none⟩, ⟨some 33, some (31, true), .load true 32 (.tmp 32), [], none⟩, ⟨some 34, some (31, true), .faddr 37 6 (.tmp 3), [], none⟩, ⟨some 35, some (31, true), .load true 32 (.tmp 34), [], none⟩, ⟨some 36, some (31, true), .eqv 26 false (.tmp 33) (.tmp 35), [], none⟩, ⟨some 37, none, .pick (.tmp 31) (.tmp 36) (.const (.bool false)), [], none⟩, ⟨some 38, none, .mov (.tmp 37), [], none⟩, ⟨some 39, some (38, true), .faddr 69 7 (.tmp 2), [], none⟩, ⟨some 40, some (38, true), .load false 1 (.tmp 39), [], none⟩, ⟨some 41, some (38, true), .faddr 69 7 (.tmp 3), [], none⟩, ⟨some 42, some (38, true), .load false 1 (.tmp 41), [], none⟩, ⟨some 43, some (38, true), .bin .eql (.tmp 40) (.tmp 42), [], none⟩, ⟨some 44, none, .pick (.tmp 38) (.tmp 43) (.const (.bool false)), [], none⟩, ⟨some 45, none, .mov (.tmp 44), [], none⟩, ⟨some 46, some (45, true), .faddr 2 2 (.tmp 2), [], none⟩, ⟨some 47, some (45, true), .load false 1 (.tmp 46), [], none⟩, ⟨some 48, some (45, true), .faddr 2 2 (.tmp 3), [], none⟩, ⟨some 49, some (45, true), .load false 1 (.tmp 48), [], none⟩, ⟨some 50, some (45, true), .lcall 36 [.tmp 47, .tmp 49], [], none⟩, ⟨some 51, none, .pick (.tmp 45) (.tmp 50) (.const (.bool false)), [], none⟩, ⟨some 52, none, .mov (.tmp 51), [], none⟩, ⟨some 53, some (52, true), .faddr 4 4 (.tmp 2), [], none⟩, ⟨some 54, some (52, true), .load false 1 (.tmp 53), [], none⟩, ⟨some 55, some (52, true), .faddr 4 4 (.tmp 3), [], none⟩, ⟨some 56, some (52, true), .load false 1 (.tmp 55), [], none⟩, ⟨some 57, some (52, true), .lcall 57 [.tmp 54, .tmp 56], [], none⟩, ⟨some 58, none, .pick (.tmp 52) (.tmp 57) (.const (.bool false)), [], none⟩, ⟨some 59, none, .mov (.tmp 58), [], none⟩, ⟨some 60, some (59, true), .faddr 70 8 (.tmp 2), [], none⟩, ⟨some 61, some (59, true), .load false 1 (.tmp 60), [], none⟩, ⟨some 62, some (59, true), .faddr 70 8 (.tmp 3), [], none⟩, ⟨some 63, some (59, true), .load false 1 (.tmp 62), [], none⟩, ⟨some 64, some (59, true), .lcall 58 [.tmp 61, .tmp 63], [], none⟩, ⟨some 65, none, .pick (.tmp 59) (.tmp 64) (.const (.bool false)), [], none⟩, ⟨some 4, none, .mov (.tmp 65), [], none⟩]) .ret))
def fc815 : FC := ⟨2, 66, [(.tmp 4)], fb815⟩
theorem fc815_eq : compF Go.Proofs.Tryd.prog 35 = some fc815 := by kernel_rfl
def fb816 : AC := (.seq (.reg [⟨some 2, none, .box 74 (.tmp 0), [], none⟩, ⟨some 3, none, .box 74 (.tmp 1), [], none⟩, ⟨some 4, none, .mov (.const (.bool false)), [], none⟩]) (.seq (.reg [⟨some 5, none, .faddr 0 0 (.tmp 2), [], none⟩, ⟨some 6, none, .load false 1 (.tmp 5), [], none⟩, ⟨some 7, none, .faddr 0 0 (.tmp 3), [], none⟩, ⟨some 8, none, .load false 1 (.tmp 7), [], none⟩, ⟨some 9, none, .bin .eql (.tmp 6) (.tmp 8), [], none⟩, ⟨some 10, none, .mov (.tmp 9), [], none⟩, ⟨some 11, some (10, true), .faddr 1 1 (.tmp 2), [], none⟩, ⟨some 12, some (10, true), .load false 1 (.tmp 11), [], none⟩, ⟨some 13, some (10, true), .faddr 1 1 (.tmp 3), [], none⟩, ⟨some 14, some (10, true), .load false 1 (.tmp 13), [], none⟩, ⟨some 15, some (10, true), .bin .eql (.tmp 12) (.tmp 14), [], none⟩, ⟨some 16, none, .pick (.tmp 10) (.tmp 15) (.const (.bool false)), [], none⟩, ⟨some 17, none, .mov (.tmp 16), [], none⟩, ⟨some 18, some (17, true), .faddr 2 2 (.tmp 2), [], none⟩, ⟨some 19, some (17, true), .load true 71 (.tmp 18), [], none⟩, ⟨some 20, some (17, true), .faddr 2 2 (.tmp 3), [], none⟩, ⟨some 21, some (17, true), .load true 71 (.tmp 20), [], none⟩, ⟨some 22, some (17, true), .call 35 [.tmp 19, .tmp 21], [], none⟩, ⟨some 23, none, .pick (.tmp 17) (.tmp 22) (.const (.bool false)), [], none⟩, ⟨some 24, none, .mov (.tmp 23), [], none⟩, ⟨some 25, some (24, true), .faddr 73 3 (.tmp 2), [], none⟩, ⟨some 26, some (24, true), .load false 1 (.tmp 25), [], none⟩, ⟨some 27, some (24, true), .faddr 73 3 (.tmp 3), [], none⟩, ⟨some 28, some (24, true), .load false 1 (.tmp 27), [], none⟩, ⟨some 29, some (24, true), .lcall 36 [.tmp 26, .tmp 28], [], none⟩, ⟨some 30, none, .pick (.tmp 24) (.tmp 29) (.const (.bool false)), [], none⟩, ⟨some 4, none, .mov (.tmp 30), [], none⟩]) .ret))
def fc816 : FC := ⟨2, 31, [(.tmp 4)], fb816⟩
theorem fc816_eq : compF Go.Proofs.Tryd.prog 13 = some fc816 := by kernel_rfl
def fb814 : AC := (.seq (.reg [⟨some 1, none, .box 71 (.tmp 0), [], none⟩, ⟨some 2, none, .mov (.const (.bool false)), [], none⟩]) (.seq (.reg [⟨some 3, none, .load true 71 (.tmp 1), [], none⟩, ⟨some 4, none, .build (.st [1, 1, 1, 1, 1, 32, 32, 1, 1] [(.lit (jn 0)), (.lit (wn 0)), (.lit (.slice .none 0 0)), (.lit (jn 0)), (.lit (.slice .none 0 0)), (.arr 1 (List.replicate 32 (.lit (bn 0)))), (.arr 1 (List.replicate 32 (.lit (bn 0)))), (.lit (tx [])), (.lit (.slice .none 0 0))]) [], [], none⟩, ⟨some 5, none, .call 35 [.tmp 3, .tmp 4], [], none⟩, ⟨some 2, none, .mov (.tmp 5), [], none⟩]) .ret))
def fc814 : FC := ⟨1, 6, [(.tmp 2)], fb814⟩
theorem fc814_eq : compF Go.Proofs.Tryd.prog 48 = some fc814 := by kernel_rfl
def fb813 : AC := (.seq (.reg [⟨some 1, none, .box 74 (.tmp 0), [], none⟩, ⟨some 2, none, .mov (.const (.bool false)), [], none⟩]) (.seq (.block 0 (.seq (.reg [⟨some 4, none, .faddr 1 1 (.tmp 1), [], none⟩, ⟨some 5, none, .load false 1 (.tmp 4), [], none⟩, ⟨some 6, none, .call 16 [.tmp 5], [], none⟩, ⟨some 7, none, .un .not (.tmp 6), [], none⟩, ⟨some 3, none, .mov (.tmp 7), [], none⟩]) (.cond (.tmp 3) (.seq (.reg [⟨some 2, none, .mov (.const (.bool false)), [], none⟩]) .ret) (.seq (.reg [⟨some 9, none, .faddr 0 0 (.tmp 1), [], none⟩, ⟨some 10, none, .load false 1 (.tmp 9), [], none⟩, ⟨some 11, none, .bin .eql (.tmp 10) (.const (jn 1)), [], none⟩, ⟨some 8, none, .mov (.tmp 11), [], none⟩]) (.cond (.tmp 8) (.seq (.reg [⟨some 12, none, .faddr 2 2 (.tmp 1), [], none⟩, ⟨some 13, none, .load true 71 (.tmp 12), [], none⟩, ⟨some 14, none, .call 7 [.tmp 13], [], none⟩, ⟨some 15, none, .mov (.tmp 14), [], none⟩, ⟨some 16, some (15, true), .faddr 73 3 (.tmp 1), [], none⟩, ⟨some 17, some (15, true), .load false 1 (.tmp 16), [], none⟩, ⟨some 18, some (15, true), .len false (.tmp 17), [], none⟩, ⟨some 19, some (15, true), .bin .eql (.tmp 18) (.const (jn 0)), [], none⟩, ⟨some 20, none, .pick (.tmp 15) (.tmp 19) (.const (.bool false)), [], none⟩, ⟨some 2, none, .mov (.tmp 20), [], none⟩]) .ret) .skip))))) (.seq (.reg [⟨some 21, none, .faddr 0 0 (.tmp 1), [], none⟩, ⟨some 22, none, .load false 1 (.tmp 21), [], none⟩, ⟨some 23, none, .bin .eql (.tmp 22) (.const (jn 2)), [], none⟩, ⟨some 24, none, .mov (.tmp 23), [], none⟩, ⟨some 25, some (24, false), .faddr 0 0 (.tmp 1), [], none⟩, ⟨some 26, some (24, false), .load false 1 (.tmp 25), [], none⟩, ⟨some 27, some (24, false), .bin .eql (.tmp 26) (.const (jn 3)), [], none⟩, ⟨some 28, none, .pick (.tmp 24) (.const (.bool true)) (.tmp 27), [], none⟩, ⟨some 29, none, .mov (.tmp 28), [], none⟩, ⟨some 30, some (29, true), .faddr 2 2 (.tmp 1), [], none⟩, ⟨some 31, some (29, true), .load true 71 (.tmp 30), [], none⟩, ⟨some 32, some (29, true), .call 48 [.tmp 31], [], none⟩, ⟨some 33, none, .pick (.tmp 29) (.tmp 32) (.const (.bool false)), [], none⟩, ⟨some 34, none, .mov (.tmp 33), [], none⟩, ⟨some 35, some (34, true), .faddr 73 3 (.tmp 1), [], none⟩, ⟨some 36, some (34, true), .load false 1 (.tmp 35), [], none⟩, ⟨some 37, some (34, true), .len false (.tmp 36), [], none⟩, ⟨some 38, some (34, true), .bin .leq (.tmp 37) (.const (jn 16)), [], none⟩, ⟨some 39, none, .pick (.tmp 34) (.tmp 38) (.const (.bool false)), [], none⟩, ⟨some 2, none, .mov (.tmp 39), [], none⟩]) .ret)))
def fc813 : FC := ⟨1, 40, [(.tmp 2)], fb813⟩
theorem fc813_eq : compF Go.Proofs.Tryd.prog 24 = some fc813 := by kernel_rfl
attribute [local irreducible] AReg
theorem st3_of {o : Option TypeDesc} {t1 t2 t3 : TypeId} {n1 n2 : Nat} (h : (match o with | some (.struct fs) => (match fs.toList with | [a, b, c] => a.type == t1 && b.type == t2 && c.type == t3 && a.offset == 0 && b.offset == n1 && c.offset == n2 && fs.all (·.name != "_") | _ => false) | _ => false) = true) :
    ∃ (fs : Array Field) (a b c : Field), o = some (.struct fs) ∧ fs.toList = [a, b, c] ∧ fs.all (·.name != "_") = true ∧ a.type = t1 ∧ b.type = t2 ∧ c.type = t3 ∧ a.offset = 0 ∧ b.offset = n1 ∧ c.offset = n2 := by
  split at h
  · rename_i fs
    split at h
    · rename_i a b c e
      simp only [Bool.and_eq_true, beq_iff_eq] at h
      exact ⟨fs, a, b, c, rfl, e, h.2, h.1.1.1.1.1.1, h.1.1.1.1.1.2, h.1.1.1.1.2, h.1.1.1.2, h.1.1.2, h.1.2⟩
    · cases h
  · cases h
theorem KLit.box {d : Nat} {b : BoxV} (h : BoxW b) : ∃ l, KLit Go.Proofs.Tryd.prog (d + 4) 51 (boxA b) l := by
  obtain ⟨fs, f1, f2, f3, hu, hl, hall, t1, t2, t3, o1, o2, o3⟩ := st3_of (o := Go.Proofs.Tryd.prog.underlying 51) (t1 := 3) (t2 := 49) (t3 := 9) (n1 := 1) (n2 := 35) (by kernel_rfl)
  obtain ⟨gs, g1, g2, g3, hu', hl', hall', s1, s2, s3, p1, p2, p3⟩ := st3_of (o := Go.Proofs.Tryd.prog.underlying 49) (t1 := 26) (t2 := 22) (t3 := 22) (n1 := 32) (n2 := 33) (by kernel_rfl)
  have hm := h.to
  unfold memN at hm
  have c3 : Go.Proofs.Tryd.prog.cellsOf 3 = 1 := by kernel_rfl
  have c9 : Go.Proofs.Tryd.prog.cellsOf 9 = 1 := by kernel_rfl
  have cH : Go.Proofs.Tryd.prog.cellsOf 49 = 34 := by kernel_rfl
  have cU : Go.Proofs.Tryd.prog.cellsOf 22 = 1 := by kernel_rfl
  have cK : Go.Proofs.Tryd.prog.cellsOf 26 = 32 := by kernel_rfl
  have u3 : Go.Proofs.Tryd.prog.underlying 3 = some (.int .i64) := by kernel_rfl
  have u9 : Go.Proofs.Tryd.prog.underlying 9 = some .string := by kernel_rfl
  have uU : Go.Proofs.Tryd.prog.underlying 22 = some (.int .u32) := by kernel_rfl
  have k1 : KLit Go.Proofs.Tryd.prog (d + 2) g1.type (keyA b.pub) (litK b.pub) := by rw [s1]; exact KLit.key (d := d) h.pub
  have k2 : KLit Go.Proofs.Tryd.prog (d + 2) g2.type (.lit (wn b.n)) [.int .u32 b.n] := by rw [s2]; exact KLit.u32 (d := d + 1) uU cU h.n
  have k3 : KLit Go.Proofs.Tryd.prog (d + 2) g3.type (.lit (wn b.prev)) [.int .u32 b.prev] := by rw [s3]; exact KLit.u32 (d := d + 1) uU cU h.prev
  have kh := KLit.st3 (n1 := 32) (n2 := 1) (n3 := 1) hu' hl' hall' p1 p2 p3 cH k1 k2 k3 (by rw [s1]; exact cK) (by rw [s2]; exact cU) (by rw [s3]; exact cU)
  have cB : Go.Proofs.Tryd.prog.cellsOf 51 = 36 := by kernel_rfl
  have m1 : KLit Go.Proofs.Tryd.prog (d + 3) f1.type (.lit (ji b.to)) [.int .i64 b.to] := by rw [t1]; exact KLit.int (d := d + 2) u3 c3 (n := b.to) (by omega)
  have m3 : KLit Go.Proofs.Tryd.prog (d + 3) f3.type (.lit (tx b.body)) [.string b.body] := by rw [t3]; exact KLit.text (d := d + 2) u9 c9 (by have := h.body; unfold maxLen; omega)
  rw [← t2] at kh
  exact ⟨_, KLit.st3 (n1 := 1) (n2 := 34) (n3 := 1) hu hl hall o1 o2 o3 cB m1 kh m3 (by rw [t1]; exact c3) (by rw [t2]; exact cH) (by rw [t3]; exact c9)⟩
theorem eq_box {b : BoxV} (h : BoxW b) : EqAV Go.Proofs.Tryd.prog 51 (boxA b) (boxA b) true := by
  obtain ⟨l, hl⟩ := KLit.box (d := 0) h
  refine hl.eq fun cs hcs => ?_
  obtain ⟨fs, _, _, _, hu, _⟩ := st3_of (o := Go.Proofs.Tryd.prog.underlying 51) (t1 := 3) (t2 := 49) (t3 := 9) (n1 := 1) (n2 := 35) (by kernel_rfl)
  have hcr : Go.Proofs.Tryd.prog.cellsOf 51 = 36 := by kernel_rfl
  simp only [boxA, AV.sz] at hcs
  simp only [boxA, asVal, Value.formed, hu]
  simp [hcr, hcs]
set_option maxHeartbeats 4000000 in
theorem eqKeys_call (xs ys : List (List UInt8)) (hx : ∀ k ∈ xs, k.length = 32) (hy : ∀ k ∈ ys, k.length = 32) (hn : xs.length < 9223372036854775807) :
    PCall Go.Proofs.Tryd.prog 36 [.sl 32 (xs.map fun x => keyA x), .sl 32 (ys.map fun x => keyA x)] (.val (.lit (.bool (decide (xs = ys))))) := by
  have h860 := fc860_eq
  have lx : (xs.map fun x => keyA x).length = xs.length := List.length_map _
  have ly : (ys.map fun x => keyA x).length = ys.length := List.length_map _
  have gx : ∀ (i : Nat) (x : (List UInt8)), xs[i]? = some x → (xs.map fun x => keyA x)[i]? = some (keyA x) := fun i x h => by rw [List.getElem?_map, h]; rfl
  have gy : ∀ (i : Nat) (x : (List UInt8)), ys[i]? = some x → (ys.map fun x => keyA x)[i]? = some (keyA x) := fun i x h => by rw [List.getElem?_map, h]; rfl
  generalize (xs.map fun x => keyA x) = T at *
  generalize (ys.map fun x => keyA x) = U at *
  refine PCall.of h860 rfl ?_; show AC.wp _ fb860 (AS.init [.sl 32 T, .sl 32 U] 2 26) (fun x s => match x with | .exit _ => False | _ => Fin [(.tmp 4)] s _); unfold fb860 AS.init
  refine wp_sr (by simp [push_cast]; exact rfl) ?_
  by_cases hl : xs.length = ys.length
  · refine wp_seq' (wp_sr (by simp [push_cast, lx, ly, hl]; exact rfl) (wp_cond_f (by simp [AS.ev]) (wp_skip' ?_)))
    refine wp_seq' (wp_seq' (wp_r (by simp [push_cast, lx, ly, hl]; exact rfl) (wp_block' (wp_loop_m (fun i => ⟨0, [.sl 32 T, .sl 32 U] ++ List.replicate 10 .any ++ [.lit (jn ys.length), .lit (jn i)] ++ List.replicate 12 .any, List.replicate 26 none⟩) (fun i => ys.length - i) (fun i => i ≤ ys.length ∧ xs.take i = ys.take i) 0 ?_ (by simp) ?_))))
    · exact Le.mk rfl (by simp [leT]) (by simp [leH])
    rintro i ⟨hi, heq⟩
    simp only at hi heq ⊢
    by_cases hlt : i < ys.length
    · have hltx : i < xs.length := by omega
      obtain ⟨a, ha⟩ : ∃ a, xs[i]? = some a := ⟨_, List.getElem?_eq_getElem hltx⟩
      obtain ⟨b, hb⟩ : ∃ b, ys[i]? = some b := ⟨_, List.getElem?_eq_getElem hlt⟩
      have a32 := hx a (List.mem_of_getElem? ha)
      have b32 := hy b (List.mem_of_getElem? hb)
      have a1 := gx i a ha
      have a2 : ∀ h, T[i]'h = keyA a := fun h => by rw [List.getElem?_eq_getElem h] at a1; exact Option.some.inj a1
      have b1 := gy i b hb
      have b2 : ∀ h, U[i]'h = keyA b := fun h => by rw [List.getElem?_eq_getElem h] at b1; exact Option.some.inj b1
      have q1 : i + 1 < 9223372036854775808 := by omega
      skip
      refine wp_sr (by simp [push_cast, hlt]; exact rfl) ?_
      refine wp_seq' (wp_cond_t (by simp [AS.ev]) (wp_skip' ?_))
      refine wp_seq' (wp_block' (wp_seq' (wp_r (by simp [push_cast]; exact rfl) ?_)))
      refine wp_sg ?_
      refine areg_run 8 (by simp [push_cast, a1, a2, b1, b2, lx, ly, hlt, hltx, a32, b32]; exact rfl) ?_
      refine areg_eq rfl rfl (eq_key a32 b32) rfl rfl ?_
      by_cases hab : a = b
      · refine areg_end (by simp [push_cast, hab]; exact rfl) ?_
        refine wp_cond_f (by simp [AS.ev, AS.put, hab]) (wp_skip' ?_)
        refine wp_r (by simp [push_cast, q1]; exact rfl) ?_
        refine ⟨i + 1, ⟨by omega, ?_⟩, by omega, Le.mk rfl (by simp [leT]) (by simp [leH])⟩
        rw [List.take_add_one, List.take_add_one, heq, ha, hb, hab]
      · have hne : xs ≠ ys := fun e => by rw [e, hb] at ha; exact hab (Option.some.inj ha).symm
        refine areg_end (by simp [push_cast, hab]; exact rfl) ?_
        refine wp_cond_t (by simp [AS.ev, AS.put, hab]) ?_
        refine wp_sr (by simp [push_cast]; exact rfl) (wp_ret' ?_)
        exact fin_tmp (by simp [RVal, AS.ev, AS.coe, hne]) (by simp)
    · have : i = ys.length := by omega
      subst this
      have hxy : xs = ys := by
        rw [List.take_length, ← hl, List.take_length] at heq
        exact heq
      refine wp_sr (by simp [push_cast]; exact rfl) ?_
      refine wp_seq' (wp_cond_f (by simp [AS.ev]) (wp_exit' (if_hit rfl ?_)))
      refine wp_sr (by simp [push_cast]; exact rfl) (wp_ret' ?_)
      exact fin_tmp (by simp [RVal, AS.ev, AS.coe, hxy]) (by simp)
  · have hne : xs ≠ ys := fun e => hl (by rw [e])
    refine wp_seq' (wp_sr (by simp [push_cast, lx, ly, hl]; exact rfl) (wp_cond_t (by simp [AS.ev, hl]) ?_))
    refine wp_sr (by simp [push_cast]; exact rfl) (wp_ret' ?_)
    exact fin_tmp (by simp [RVal, AS.ev, AS.coe, hne]) (by simp)
theorem bin_neqii (a b : Int) : binVal .neq (ji a) (ji b) = some (.bool (decide (a ≠ b))) := by
  simp only [binVal, ji, ne_eq, not_true_eq_false, if_false, Option.some.injEq, Value.bool.injEq]
  rw [Bool.eq_iff_iff]
  simp
set_option maxHeartbeats 4000000 in
theorem eqInts_call (xs ys : List Int) (hn : xs.length < 9223372036854775807) :
    PCall Go.Proofs.Tryd.prog 57 [.sl 1 (xs.map fun x => AV.lit (ji x)), .sl 1 (ys.map fun x => AV.lit (ji x))] (.val (.lit (.bool (decide (xs = ys))))) := by
  have h861 := fc861_eq
  have lx : (xs.map fun x => AV.lit (ji x)).length = xs.length := List.length_map _
  have ly : (ys.map fun x => AV.lit (ji x)).length = ys.length := List.length_map _
  have gx : ∀ (i : Nat) (x : Int), xs[i]? = some x → (xs.map fun x => AV.lit (ji x))[i]? = some (AV.lit (ji x)) := fun i x h => by rw [List.getElem?_map, h]; rfl
  have gy : ∀ (i : Nat) (x : Int), ys[i]? = some x → (ys.map fun x => AV.lit (ji x))[i]? = some (AV.lit (ji x)) := fun i x h => by rw [List.getElem?_map, h]; rfl
  generalize (xs.map fun x => AV.lit (ji x)) = T at *
  generalize (ys.map fun x => AV.lit (ji x)) = U at *
  refine PCall.of h861 rfl ?_; show AC.wp _ fb861 (AS.init [.sl 1 T, .sl 1 U] 2 26) (fun x s => match x with | .exit _ => False | _ => Fin [(.tmp 4)] s _); unfold fb861 AS.init
  refine wp_sr (by simp [push_cast]; exact rfl) ?_
  by_cases hl : xs.length = ys.length
  · refine wp_seq' (wp_sr (by simp [push_cast, lx, ly, hl]; exact rfl) (wp_cond_f (by simp [AS.ev]) (wp_skip' ?_)))
    refine wp_seq' (wp_seq' (wp_r (by simp [push_cast, lx, ly, hl]; exact rfl) (wp_block' (wp_loop_m (fun i => ⟨0, [.sl 1 T, .sl 1 U] ++ List.replicate 10 .any ++ [.lit (jn ys.length), .lit (jn i)] ++ List.replicate 12 .any, List.replicate 26 none⟩) (fun i => ys.length - i) (fun i => i ≤ ys.length ∧ xs.take i = ys.take i) 0 ?_ (by simp) ?_))))
    · exact Le.mk rfl (by simp [leT]) (by simp [leH])
    rintro i ⟨hi, heq⟩
    simp only at hi heq ⊢
    by_cases hlt : i < ys.length
    · have hltx : i < xs.length := by omega
      obtain ⟨a, ha⟩ : ∃ a, xs[i]? = some a := ⟨_, List.getElem?_eq_getElem hltx⟩
      obtain ⟨b, hb⟩ : ∃ b, ys[i]? = some b := ⟨_, List.getElem?_eq_getElem hlt⟩
      skip
      have a1 := gx i a ha
      have a2 : ∀ h, T[i]'h = .lit (ji a) := fun h => by rw [List.getElem?_eq_getElem h] at a1; exact Option.some.inj a1
      have b1 := gy i b hb
      have b2 : ∀ h, U[i]'h = .lit (ji b) := fun h => by rw [List.getElem?_eq_getElem h] at b1; exact Option.some.inj b1
      have q1 : i + 1 < 9223372036854775808 := by omega
      skip
      refine wp_sr (by simp [push_cast, hlt]; exact rfl) ?_
      refine wp_seq' (wp_cond_t (by simp [AS.ev]) (wp_skip' ?_))
      refine wp_seq' (wp_block' (wp_seq' (wp_r (by simp [push_cast]; exact rfl) ?_)))
      refine wp_sg ?_
      refine areg_run 8 (by simp [push_cast, a1, a2, b1, b2, lx, ly, hlt, hltx]; exact rfl) ?_
      refine areg_run 1 (by simp [push_cast, bin_neqii]; exact rfl) ?_
      by_cases hab : a = b
      · refine areg_end (by simp [push_cast, hab]; exact rfl) ?_
        refine wp_cond_f (by simp [AS.ev, AS.put, hab]) (wp_skip' ?_)
        refine wp_r (by simp [push_cast, q1]; exact rfl) ?_
        refine ⟨i + 1, ⟨by omega, ?_⟩, by omega, Le.mk rfl (by simp [leT]) (by simp [leH])⟩
        rw [List.take_add_one, List.take_add_one, heq, ha, hb, hab]
      · have hne : xs ≠ ys := fun e => by rw [e, hb] at ha; exact hab (Option.some.inj ha).symm
        refine areg_end (by simp [push_cast, hab]; exact rfl) ?_
        refine wp_cond_t (by simp [AS.ev, AS.put, hab]) ?_
        refine wp_sr (by simp [push_cast]; exact rfl) (wp_ret' ?_)
        exact fin_tmp (by simp [RVal, AS.ev, AS.coe, hne]) (by simp)
    · have : i = ys.length := by omega
      subst this
      have hxy : xs = ys := by
        rw [List.take_length, ← hl, List.take_length] at heq
        exact heq
      refine wp_sr (by simp [push_cast]; exact rfl) ?_
      refine wp_seq' (wp_cond_f (by simp [AS.ev]) (wp_exit' (if_hit rfl ?_)))
      refine wp_sr (by simp [push_cast]; exact rfl) (wp_ret' ?_)
      exact fin_tmp (by simp [RVal, AS.ev, AS.coe, hxy]) (by simp)
  · have hne : xs ≠ ys := fun e => hl (by rw [e])
    refine wp_seq' (wp_sr (by simp [push_cast, lx, ly, hl]; exact rfl) (wp_cond_t (by simp [AS.ev, hl]) ?_))
    refine wp_sr (by simp [push_cast]; exact rfl) (wp_ret' ?_)
    exact fin_tmp (by simp [RVal, AS.ev, AS.coe, hne]) (by simp)
set_option maxHeartbeats 4000000 in
theorem eqBoxes_call (xs ys : List BoxV) (hx : xs = ys ∨ xs.length ≠ ys.length) (hW : ∀ b ∈ xs, BoxW b ∨ xs.length ≠ ys.length) (hn : xs.length < 9223372036854775807) :
    PCall Go.Proofs.Tryd.prog 58 [.sl 36 (xs.map fun x => boxA x), .sl 36 (ys.map fun x => boxA x)] (.val (.lit (.bool (decide (xs = ys))))) := by
  have h862 := fc862_eq
  have lx : (xs.map fun x => boxA x).length = xs.length := List.length_map _
  have ly : (ys.map fun x => boxA x).length = ys.length := List.length_map _
  have gx : ∀ (i : Nat) (x : BoxV), xs[i]? = some x → (xs.map fun x => boxA x)[i]? = some (boxA x) := fun i x h => by rw [List.getElem?_map, h]; rfl
  have gy : ∀ (i : Nat) (x : BoxV), ys[i]? = some x → (ys.map fun x => boxA x)[i]? = some (boxA x) := fun i x h => by rw [List.getElem?_map, h]; rfl
  generalize (xs.map fun x => boxA x) = T at *
  generalize (ys.map fun x => boxA x) = U at *
  refine PCall.of h862 rfl ?_; show AC.wp _ fb862 (AS.init [.sl 36 T, .sl 36 U] 2 26) (fun x s => match x with | .exit _ => False | _ => Fin [(.tmp 4)] s _); unfold fb862 AS.init
  refine wp_sr (by simp [push_cast]; exact rfl) ?_
  by_cases hl : xs.length = ys.length
  · refine wp_seq' (wp_sr (by simp [push_cast, lx, ly, hl]; exact rfl) (wp_cond_f (by simp [AS.ev]) (wp_skip' ?_)))
    refine wp_seq' (wp_seq' (wp_r (by simp [push_cast, lx, ly, hl]; exact rfl) (wp_block' (wp_loop_m (fun i => ⟨0, [.sl 36 T, .sl 36 U] ++ List.replicate 10 .any ++ [.lit (jn ys.length), .lit (jn i)] ++ List.replicate 12 .any, List.replicate 26 none⟩) (fun i => ys.length - i) (fun i => i ≤ ys.length ∧ xs.take i = ys.take i) 0 ?_ (by simp) ?_))))
    · exact Le.mk rfl (by simp [leT]) (by simp [leH])
    rintro i ⟨hi, heq⟩
    simp only at hi heq ⊢
    by_cases hlt : i < ys.length
    · have hltx : i < xs.length := by omega
      obtain ⟨a, ha⟩ : ∃ a, xs[i]? = some a := ⟨_, List.getElem?_eq_getElem hltx⟩
      obtain ⟨b, hb⟩ : ∃ b, ys[i]? = some b := ⟨_, List.getElem?_eq_getElem hlt⟩
      have hxy : xs = ys := hx.elim id fun h => absurd hl h
      have hab0 : a = b := by rw [hxy, hb] at ha; exact (Option.some.inj ha).symm
      have hbw : BoxW b := (hW b (by rw [hxy]; exact List.mem_of_getElem? hb)).elim id fun h => absurd hl h
      have bp := hbw.pub
      have ap : a.pub.length = 32 := by rw [hab0]; exact bp
      have a1 := gx i a ha
      have a2 : ∀ h, T[i]'h = boxA a := fun h => by rw [List.getElem?_eq_getElem h] at a1; exact Option.some.inj a1
      have b1 := gy i b hb
      have b2 : ∀ h, U[i]'h = boxA b := fun h => by rw [List.getElem?_eq_getElem h] at b1; exact Option.some.inj b1
      have q1 : i + 1 < 9223372036854775808 := by omega
      unfold boxA at a1 a2 b1 b2
      refine wp_sr (by simp [push_cast, hlt]; exact rfl) ?_
      refine wp_seq' (wp_cond_t (by simp [AS.ev]) (wp_skip' ?_))
      refine wp_seq' (wp_block' (wp_seq' (wp_r (by simp [push_cast]; exact rfl) ?_)))
      refine wp_sg ?_
      refine areg_run 8 (by simp [push_cast, a1, a2, b1, b2, lx, ly, hlt, hltx, bp, ap]; exact rfl) ?_
      refine areg_eq (u := boxA a) (v := boxA b) (by simp [AS.ev, AS.put, boxA, keyA]) (by simp [AS.ev, AS.put, boxA, keyA]) (b := true) (by rw [hab0]; exact eq_box hbw) rfl rfl ?_
      have hab := hab0
      refine areg_end (by simp [push_cast, hab]; exact rfl) ?_
      refine wp_cond_f (by simp [AS.ev, AS.put, hab]) (wp_skip' ?_)
      refine wp_r (by simp [push_cast, q1]; exact rfl) ?_
      refine ⟨i + 1, ⟨by omega, ?_⟩, by omega, Le.mk rfl (by simp [leT]) (by simp [leH])⟩
      rw [List.take_add_one, List.take_add_one, heq, ha, hb, hab]
    · have : i = ys.length := by omega
      subst this
      have hxy : xs = ys := by
        rw [List.take_length, ← hl, List.take_length] at heq
        exact heq
      refine wp_sr (by simp [push_cast]; exact rfl) ?_
      refine wp_seq' (wp_cond_f (by simp [AS.ev]) (wp_exit' (if_hit rfl ?_)))
      refine wp_sr (by simp [push_cast]; exact rfl) (wp_ret' ?_)
      exact fin_tmp (by simp [RVal, AS.ev, AS.coe, hxy]) (by simp)
  · have hne : xs ≠ ys := fun e => hl (by rw [e])
    refine wp_seq' (wp_sr (by simp [push_cast, lx, ly, hl]; exact rfl) (wp_cond_t (by simp [AS.ev, hl]) ?_))
    refine wp_sr (by simp [push_cast]; exact rfl) (wp_ret' ?_)
    exact fin_tmp (by simp [RVal, AS.ev, AS.coe, hne]) (by simp)
end Go.Cab
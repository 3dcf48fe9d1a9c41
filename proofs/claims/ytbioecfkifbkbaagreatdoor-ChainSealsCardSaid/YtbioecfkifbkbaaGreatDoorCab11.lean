/- Part 11 of what the proof stands on: V3, V5, V6. -/
import Derived.Test.YtbioecfkifbkbaaGreatDoorCab10
set_option linter.unusedSimpArgs false
set_option linter.unnecessarySimpa false
set_option linter.unusedVariables false
set_option linter.unusedSectionVars false
namespace Go.Cab
open Go.RowKit
open Classical
def fb708 : AC := (.seq (.reg [⟨some 6, none, .box 32 (.tmp 1), [], none⟩, ⟨some 7, none, .box 32 (.tmp 2), [], none⟩, ⟨some 10, none, .mov (.const (tx [])), [], none⟩]) (.seq (.reg [⟨some 11, none, .mov (.const (.slice .none 0 0)), [], none⟩]) (.seq (.reg [⟨some 13, none, .mov (.tmp 11), [], none⟩, ⟨some 14, none, .load true 32 (.tmp 6), [], none⟩, ⟨some 15, none, .load true 32 (.tmp 7), [], none⟩, ⟨some 16, none, .bslice 32 (.arr 1 (List.replicate 32 (.lit (bn 0)))) 2 [(0, (.tmp 14)), (1, (.tmp 15))], [], none⟩, ⟨some 17, none, .append 23 32 32 (.tmp 13) (.tmp 16), [], none⟩, ⟨some 11, none, .mov (.tmp 17), [], none⟩]) (.seq (.reg [⟨some 18, none, .mov (.tmp 11), [], none⟩, ⟨some 19, none, .mov (.tmp 4), [], none⟩, ⟨some 20, none, .append 23 32 32 (.tmp 18) (.tmp 19), [], none⟩, ⟨some 11, none, .mov (.tmp 20), [], none⟩]) (.seq (.reg [⟨some 21, none, .mov (.tmp 0), [], none⟩, ⟨some 22, none, .mov (.tmp 3), [], none⟩, ⟨some 23, none, .mov (.tmp 11), [], none⟩, ⟨some 24, none, .icall 56 (.tmp 21) [(.const (jn 6)), (.tmp 22), (.tmp 23)], [], none⟩, ⟨some 12, none, .alloc 32 (.arr 1 (List.replicate 32 (.lit (bn 0)))), [], none⟩, ⟨none, none, .store 32 (.tmp 12) (.tmp 24), [], none⟩]) (.seq (.reg [⟨some 25, none, .rdp (.vslice 1 32 false false) [.tmp 12], [], none⟩, ⟨some 26, none, .rd .b2sv [.tmp 25], [], none⟩, ⟨some 10, none, .mov (.tmp 26), [], none⟩]) .ret))))))
def fc708 : FC := ⟨5, 27, [(.tmp 10)], fb708⟩
theorem fc708_eq : compF Go.Proofs.Tryz.prog 54 = some fc708 := by kernel_rfl
def fb710 : AC := (.seq (.reg [⟨some 0, none, .alloc 1 (.st [1] [(.lit (.pointer .none))]), [], none⟩]) (.seq (.reg [⟨some 1, none, .build (.st [1, 1] [(.lit (.slice .none 0 0)), (.lit (.slice .none 0 0))]) [], [], none⟩, ⟨some 2, none, .box 2 (.tmp 1), [], none⟩, ⟨some 3, none, .build (.st [1] [(.lit (.pointer .none))]) [(0, (.tmp 2))], [], none⟩, ⟨none, none, .store 1 (.tmp 0) (.tmp 3), [], none⟩]) .ret))
def fc710 : FC := ⟨0, 4, [(.cell 0 .true 1)], fb710⟩
theorem fc710_eq : compF Go.Proofs.Tryz.prog 8 = some fc710 := by kernel_rfl
def fb711 : AC := (.seq (.reg [⟨some 1, none, .box 1 (.tmp 0), [], none⟩, ⟨some 2, none, .mov (.const (jn 0)), [], none⟩]) (.seq (.reg [⟨some 3, none, .faddr 0 0 (.tmp 1), [], none⟩, ⟨some 4, none, .load false 1 (.tmp 3), [], none⟩, ⟨some 5, none, .nilc (.tmp 4), [], none⟩, ⟨some 6, none, .faddr 0 0 (.tmp 5), [], none⟩, ⟨some 7, none, .load false 1 (.tmp 6), [], none⟩, ⟨some 8, none, .len false (.tmp 7), [], none⟩, ⟨some 2, none, .mov (.tmp 8), [], none⟩]) .ret))
def fc711 : FC := ⟨1, 9, [(.tmp 2)], fb711⟩
theorem fc711_eq : compF Go.Proofs.Tryz.prog 27 = some fc711 := by kernel_rfl
def fb712 : AC := (.seq (.reg [⟨some 3, none, .box 1 (.tmp 0), [], none⟩, ⟨some 6, none, .alloc 32 (.arr 1 (List.replicate 32 (.lit (bn 0)))), [], none⟩]) (.seq (.seq (.reg [⟨some 7, none, .faddr 0 0 (.tmp 3), [], none⟩, ⟨some 8, none, .load false 1 (.tmp 7), [], none⟩, ⟨some 9, none, .rdp (.pnil false) [.tmp 8], [], none⟩]) (.cond (.tmp 9) (.seq (.reg [⟨some 10, none, .mov (.tmp 1), [], none⟩, ⟨some 11, none, .mov (.tmp 2), [], none⟩, ⟨some 12, none, .lcall 55 [.tmp 10, .tmp 11], [], none⟩, ⟨none, none, .store 32 (.tmp 6) (.tmp 12), [], none⟩]) .ret) .skip)) (.seq (.reg [⟨some 13, none, .faddr 0 0 (.tmp 3), [], none⟩, ⟨some 14, none, .load false 1 (.tmp 13), [], none⟩, ⟨some 15, none, .mov (.tmp 1), [], none⟩, ⟨some 16, none, .mov (.tmp 2), [], none⟩, ⟨some 17, none, .icall 56 (.tmp 14) [(.const (jn 2)), (.tmp 15), (.tmp 16)], [], none⟩, ⟨none, none, .store 32 (.tmp 6) (.tmp 17), [], none⟩]) .ret)))
def fc712 : FC := ⟨3, 18, [(.cell 6 .true 32)], fb712⟩
theorem fc712_eq : compF Go.Proofs.Tryz.prog 39 = some fc712 := by kernel_rfl
def fb713 : AC := (.seq (.reg [⟨some 5, none, .box 1 (.tmp 0), [], none⟩, ⟨some 6, none, .box 32 (.tmp 1), [], none⟩, ⟨some 7, none, .box 32 (.tmp 2), [], none⟩, ⟨some 10, none, .mov (.const (tx [])), [], none⟩]) (.seq (.seq (.reg [⟨some 11, none, .faddr 0 0 (.tmp 5), [], none⟩, ⟨some 12, none, .load false 1 (.tmp 11), [], none⟩, ⟨some 13, none, .rdp (.pnil false) [.tmp 12], [], none⟩]) (.cond (.tmp 13) (.seq (.reg [⟨some 14, none, .load true 32 (.tmp 6), [], none⟩, ⟨some 15, none, .load true 32 (.tmp 7), [], none⟩, ⟨some 16, none, .mov (.tmp 3), [], none⟩, ⟨some 17, none, .mov (.tmp 4), [], none⟩, ⟨some 18, none, .call 53 [.tmp 14, .tmp 15, .tmp 16, .tmp 17], [], none⟩, ⟨some 10, none, .mov (.tmp 18), [], none⟩]) .ret) .skip)) (.seq (.reg [⟨some 19, none, .faddr 0 0 (.tmp 5), [], none⟩, ⟨some 20, none, .load false 1 (.tmp 19), [], none⟩, ⟨some 21, none, .load true 32 (.tmp 6), [], none⟩, ⟨some 22, none, .load true 32 (.tmp 7), [], none⟩, ⟨some 23, none, .mov (.tmp 3), [], none⟩, ⟨some 24, none, .mov (.tmp 4), [], none⟩, ⟨some 25, none, .icall 54 (.tmp 20) [.tmp 21, .tmp 22, .tmp 23, .tmp 24], [], none⟩, ⟨some 10, none, .mov (.tmp 25), [], none⟩]) .ret)))
def fc713 : FC := ⟨5, 26, [(.tmp 10)], fb713⟩
theorem fc713_eq : compF Go.Proofs.Tryz.prog 38 = some fc713 := by kernel_rfl
def fb730 : AC := (.seq (.reg [⟨some 3, none, .box 1 (.tmp 0), [], none⟩, ⟨some 6, none, .alloc 32 (.arr 1 (List.replicate 32 (.lit (bn 0)))), [], none⟩, ⟨some 7, none, .alloc 32 (.arr 1 (List.replicate 32 (.lit (bn 0)))), [], none⟩]) (.seq (.reg [⟨some 8, none, .load true 1 (.tmp 3), [], (.some 3)⟩, ⟨some 9, none, .mov (.tmp 1), [], none⟩, ⟨some 10, none, .bin .add (.tmp 9) (.const (tx [47, 49])), [], none⟩, ⟨some 11, none, .mov (.tmp 2), [], none⟩, ⟨some 12, none, .xc (.dir 39) [.tmp 8, .tmp 10, .tmp 11] [3] [], [], none⟩, ⟨some 13, none, .load true 1 (.tmp 3), [6], (.some 3)⟩, ⟨some 14, none, .mov (.tmp 1), [], none⟩, ⟨some 15, none, .bin .add (.tmp 14) (.const (tx [47, 50])), [], none⟩, ⟨some 16, none, .mov (.tmp 2), [], none⟩, ⟨some 17, none, .xc (.dir 39) [.tmp 13, .tmp 15, .tmp 16] [] [], [], none⟩, ⟨none, none, .store 32 (.tmp 6) (.tmp 12), [], (.some 6)⟩, ⟨none, none, .store 32 (.tmp 7) (.tmp 17), [], none⟩]) .ret))
def fc730 : FC := ⟨3, 18, [(.cell 6 .true 32), (.cell 7 .true 32)], fb730⟩
theorem fc730_eq : compF Go.Proofs.Tryz.prog 52 = some fc730 := by kernel_rfl
theorem areg_an {P : Program} {s : AS} {K : AS → Prop} {xs : List AOp} {d : Tmp} {e : TypeId} {esz bytes : Nat} {x y : Operand} {fo : List Tmp} {ow : Option Tmp} {ys : List AV} (hx : s.ev x = .lit (.slice none 0 0))
    (hy : s.coe (AOp.ro ⟨some d, none, .append e esz bytes x y, fo, ow⟩ s.nr) (s.ev y) = .sl esz ys) (h1 : ys.length ≤ maxLen) (h2 : ys.length * bytes ≤ 140737488355328)
    (h : ∀ V', AReg P xs ⟨s.nr, s.tm.set d (.own (s.nr + d) V'), s.hp.set (s.nr + d) (some (.row e V' esz ys 0))⟩ K) (hl : AOp.leaves ⟨some d, none, .append e esz bytes x y, fo, ow⟩ s (.lit (.slice none 0 0)) := by intro t ht; cases ht) : AReg P (⟨some d, none, .append e esz bytes x y, fo, ow⟩ :: xs) s K := by
  unfold AReg AOp.go AOp.mine
  simp only [AI.go, hx, AS.rowOf, hy, hpDrop, List.nil_append, List.length_nil, Nat.zero_add]
  exact ⟨by cases ow <;> exact hl, trivial, h1, h2, h⟩
theorem areg_ng {P : Program} {s : AS} {K : AS → Prop} {xs : List AOp} {d : Option Tmp} {t : Tmp} {b : Bool} {ai : AI} {fo : List Tmp} {ow : Option Tmp} (hg : s.ev (.tmp t) = .lit (.bool (!b))) (h : AReg P xs (s.put d (.tup [])) K) : AReg P (⟨d, some (t, b), ai, fo, ow⟩ :: xs) s K := by
  unfold AReg AOp.go
  simp only [hg]
  cases b <;> simpa using h
theorem GC.seal {I X : Type} {P : Program} {f : FuncId} {vs : List AV} {F : I → X → List (Option Blk)} {N : Nat} {a b : I} {r : AV} {c i e esz sl : Nat} {els : List AV} {V : Value} (hN : ∀ i x, (F i x).length = N) (h : GC P f (vs.set i (.sl esz els)) F a r b) {x : X} {L : List (Option Blk)} (hi : vs[i]? = some (.own (N + c) V)) (hc : L[c]? = some (some (.row e V esz els sl))) :
    XCall P f vs (F a x ++ L) fun r' H' => r' = r ∧ ∃ x', H' = F b x' ++ L.set c none := by
  have g1 := cat1 N (F a x) L c (hN _ _)
  have g2 := cat2 N (F a x) L c (none : Option Blk) (hN _ _)
  have hle := Le.sealed (s := ⟨0, vs, F a x ++ L⟩) (t := i) (b := N + c) (e := e) (V := V) (esz := esz) (els := els) (sl := sl) hi (by simp only [AS.blk, g1, hc]; rfl)
  simp only [g2] at hle
  exact XCall.ofLe hle (by simp) (h x (L.set c none))
theorem tgt_dir {P : Program} {f : FuncId} (h : callable P f = true) (us : List AV) : tgtA P (.dir f) us = some (f, us) := by simp [tgtA, tgtB, h]
def sealK (k b s : List UInt8) (ks : List (List UInt8)) : Term := ⟨6, s, k :: b :: ks⟩
theorem sealK_ok {k b s : List UInt8} {ks : List (List UInt8)} (hk : k.length = 32) (hb : b.length = 32) (hs : s.length < 100000) (hn : ks.length < 90000) (h32 : ∀ x ∈ ks, x.length = 32) : TermOk (sealK k b s ks) :=
  ⟨by simp [sealK], hs, by simp [sealK]; omega, by simp [sealK, hk, hb]; exact h32⟩
def kitA (b : Nat) (l : Nat × Nat) : AV := .st [1] [.ptr b l 0 []]
section
variable {H : List (Option Blk)} {t : Rt} {V U : Value} {ts : List Term}
set_option maxHeartbeats 8000000 in
theorem rseal_call (hh : RtOk H t V U ts) (hok : ∀ y ∈ ts, TermOk y) (hn : ts.length < 100000) {k b s : List UInt8} {ks : List (List UInt8)} (hk : k.length = 32) (hb : b.length = 32) (hs : s.length < 100000) (hks : ks.length < 90000) (h32 : ∀ x ∈ ks, x.length = 32) :
    XCall Go.Proofs.Tryz.prog 54 [.ptr t.b t.l 0 [], keyA k, keyA b, .lit (tx s), .sl 32 (klA ks)] H fun r H' => r = .lit (tx (nameK (putN ts (sealK k b s ks)))) ∧ ∃ V' U', H' = rtOf H t V' U' (putT ts (sealK k b s ks)) := by
  have h708 := fc708_eq
  refine XCall.le ?_
  have hput := make_gk hh hok hn _ (sealK_ok hk hb hs hks h32)
  have hself := hh.self
  have nl := nameK_len (putN ts (sealK k b s ks))
  have G1 : ∀ i y, (rF H t i y).length = H.length := fun i y => rtOf_len _ _ _ _ _
  have kl0 : (klA ks).length = ks.length := klA_len _
  unfold sealK at *
  simp only at hput
  refine XCall.of h708 rfl ?_; show AC.wp _ fb708 ⟨H.length, [.ptr t.b t.l 0 [], keyA k, keyA b, .lit (tx s), .sl 32 (klA ks)] ++ List.replicate (27 - 5) .any, H ++ List.replicate 27 none⟩ (fun x s => match x with | .exit _ => False | _ => ∃ s1, Le s s1 ∧ FinX [(.tmp 10)] s1 _); unfold fb708
  have hst : ∀ L, H ++ L = rF H t ts (V, U) ++ L := fun L => by unfold rF; rw [hself]
  rw [hst]
  generalize hN : H.length = N at *
  have g1 : ∀ i y L k, (rF H t i y ++ L)[N + k]? = L[k]? := fun i y L k => cat1 N _ L k (G1 i y)
  have g2 : ∀ i y L k z, (rF H t i y ++ L).set (N + k) z = rF H t i y ++ L.set k z := fun i y L k z => cat2 N _ L k z (G1 i y)
  refine wp_sg (areg_bx rfl (by simp [AS.ev, keyA, AV.sz, bl, hk]) fun l6 => areg_bx rfl (by simp [AS.ev, AS.put, keyA, AV.sz, bl, hb]) fun l7 => areg_end (by simp [push_cast, g2]; exact rfl) ?_)
  refine wp_sr (by simp [push_cast]; exact rfl) (wp_sg ?_)
  refine areg_run 3 (by simp [push_cast, g1, hk, hb]; exact rfl) ?_
  refine areg_bsl (els := [keyA k, keyA b]) (by simp [fillAV, AS.ev, AS.put, AV.sub, AV.isTup, AV.sz, AV.upd, keyA, bl_len, hk, hb] <;> rfl) ?_
  refine areg_an (ys := [keyA k, keyA b]) rfl (by simp [AS.ev, AS.put, AS.coe]) (by simp [maxLen]) (by simp) fun V1 => ?_
  refine areg_end (by simp [push_cast, g2]; exact rfl) ?_
  refine wp_sgL ?_
  refine areg_run 2 (by simp [push_cast]; exact rfl) ?_
  refine areg_ap (b := N + 17) (V := V1) (ys := klA ks) rfl (by simp only [AS.blk, AS.put, g1]; rfl) (by simp [AS.ev, AS.coe, AS.put]) (by simp [kl0, maxLen]; omega) (by simp [kl0]; omega) (fun V2 => ?_) (by intro t' ht' b hb; cases ht')
  refine areg_end (by simp [push_cast, g2]; exact rfl) ?_
  refine ⟨_, Le.sealed (t := 11) (b := N + 20) (e := 23) (esz := 32) (sl := 0) (V := V2) (els := klA (k :: b :: ks)) rfl (by simp only [AS.blk, AS.put, g1]; rfl), ?_⟩
  simp only [g2]
  refine wp_sg ?_
  refine areg_run 3 (by simp [push_cast]; exact rfl) ?_
  refine areg_gi hput (by simp [AS.ev, AS.put]) fun y => ?_
  generalize nameK (putN ts ⟨6, s, k :: b :: ks⟩) = nk at *
  refine areg_al' zk_eq.symm fun l11 => areg_end (by simp [push_cast, g1, g2, nl, zk_len]; exact rfl) ?_
  refine wp_sg ?_
  refine areg_run 1 (by simp [push_cast, g1, g2, nl]; exact rfl) ?_
  refine areg_b2sv (u := .view (N + 12) l11 0 [] 1 0 32 32) (a := nk) rfl (by rw [listB_key (b := N + 12) (lo := 0) (len := 32) (cap := 32) (k := nk) (l := l11) (n := 32) (by simp only [AS.blk, g1]; rfl) (by omega), List.drop_zero, List.take_of_length_le (by omega)]) rfl ?_
  refine areg_end (by simp [push_cast]; exact rfl) (wp_ret' ?_)
  exact ⟨_, Le.refl _, finX1 (v := .lit (tx nk)) (by simp [AS.seals, RVals, RVal, AS.ev, AS.coe]) (by simp) ⟨_, _, RelLe.refl _, by simp, HpLe.trim _ _, rfl, y.1, y.2, rfl⟩⟩
theorem putT_ok (hok : ∀ y ∈ ts, TermOk y) {x : Term} (hx : TermOk x) : ∀ y ∈ putT ts x, TermOk y := by
  unfold putT
  cases findT (shapeT x) ts 0 with
  | some n => exact hok
  | none =>
    intro y hy
    rcases List.mem_append.1 hy with h | h
    · exact hok y h
    · rw [List.mem_singleton.1 h]; exact hx
theorem rseal_gk (hh : RtOk H t V U ts) {ts1 : List Term} (hok : ∀ y ∈ ts1, TermOk y) (hn : ts1.length < 100000) {k b s : List UInt8} {ks : List (List UInt8)} (hk : k.length = 32) (hb : b.length = 32) (hs : s.length < 100000) (hks : ks.length < 90000) (h32 : ∀ x ∈ ks, x.length = 32) :
    GC Go.Proofs.Tryz.prog 54 [.ptr t.b t.l 0 [], keyA k, keyA b, .lit (tx s), .sl 32 (klA ks)] (rF H t) ts1 (.lit (tx (nameK (putN ts1 (sealK k b s ks))))) (putT ts1 (sealK k b s ks)) := GC.ofR hh fun H V U h => rseal_call h hok hn hk hb hs hks h32
theorem hashT_ok {s : List UInt8} {ks : List (List UInt8)} (hs : s.length < 100000) (hks : ks.length < 100000) (h32 : ∀ x ∈ ks, x.length = 32) : TermOk ⟨2, s, ks⟩ := ⟨by simp, hs, hks, h32⟩
theorem rhash_call (hh : RtOk H t V U ts) (hok : ∀ y ∈ ts, TermOk y) (hn : ts.length < 100000) {s : List UInt8} {ks : List (List UInt8)} (hs : s.length < 100000) (hks : ks.length < 100000) (h32 : ∀ x ∈ ks, x.length = 32) :
    XCall Go.Proofs.Tryz.prog 39 [kitA t.b t.l, .lit (tx s), .sl 32 (klA ks)] H fun r H' => r = keyA (nameK (putN ts ⟨2, s, ks⟩)) ∧ ∃ V' U', H' = rtOf H t V' U' (putT ts ⟨2, s, ks⟩) := by
  have h712 := fc712_eq
  refine XCall.le ?_
  have hput := make_gk hh hok hn _ (hashT_ok hs hks h32)
  have hself := hh.self
  have nl := nameK_len (putN ts ⟨2, s, ks⟩)
  have G1 : ∀ i y, (rF H t i y).length = H.length := fun i y => rtOf_len _ _ _ _ _
  refine XCall.of h712 rfl ?_; show AC.wp _ fb712 ⟨H.length, [kitA t.b t.l, .lit (tx s), .sl 32 (klA ks)] ++ List.replicate (18 - 3) .any, H ++ List.replicate 18 none⟩ (fun x s => match x with | .exit _ => False | _ => ∃ s1, Le s s1 ∧ FinX [(.cell 6 .true 32)] s1 _); unfold fb712
  have hst : ∀ L, H ++ L = rF H t ts (V, U) ++ L := fun L => by unfold rF; rw [hself]
  rw [hst]
  generalize hN : H.length = N at *
  have g1 : ∀ i y L k, (rF H t i y ++ L)[N + k]? = L[k]? := fun i y L k => cat1 N _ L k (G1 i y)
  have g2 : ∀ i y L k z, (rF H t i y ++ L).set (N + k) z = rF H t i y ++ L.set k z := fun i y L k z => cat2 N _ L k z (G1 i y)
  refine wp_sg (areg_bx rfl (by simp [AS.ev, kitA, AV.sz]) fun l3 => areg_al' zk_eq.symm fun l6 => areg_end (by simp [push_cast, g2]; exact rfl) ?_)
  refine wp_seq' (wp_seq' (wp_r (by simp [push_cast, g1, kitA]; exact rfl) (wp_cond_f (by simp [AS.ev]) (wp_skip' ?_))))
  refine wp_sg ?_
  refine areg_run 4 (by simp [push_cast, g1, kitA]; exact rfl) ?_
  refine areg_gi hput (by simp [AS.ev, AS.put]) fun y => ?_
  generalize nameK (putN ts ⟨2, s, ks⟩) = nk at *
  refine areg_end (by simp [push_cast, g1, g2, nl, zk_len]; exact rfl) (wp_ret' ?_)
  exact ⟨_, Le.refl _, [], _, ⟨by simp [AS.seals, RVals, RVal, AS.ev, AS.peek, AS.blk, g1, Blk.loc, Blk.cont, Blk.n, AV.nav, AV.isAgg, AV.isTup, AS.coe]; rfl, by simp [keyA]⟩, keyA nk, _, RelLe.refl _, by simp [keyA], HpLe.trim _ _, rfl, y.1, y.2, rfl⟩
theorem rhash_gk (hh : RtOk H t V U ts) {ts1 : List Term} (hok : ∀ y ∈ ts1, TermOk y) (hn : ts1.length < 100000) {s : List UInt8} {ks : List (List UInt8)} (hs : s.length < 100000) (hks : ks.length < 100000) (h32 : ∀ x ∈ ks, x.length = 32) :
    GC Go.Proofs.Tryz.prog 39 [kitA t.b t.l, .lit (tx s), .sl 32 (klA ks)] (rF H t) ts1 (keyA (nameK (putN ts1 ⟨2, s, ks⟩))) (putT ts1 ⟨2, s, ks⟩) := GC.ofR hh fun H V U h => rhash_call h hok hn hs hks h32
theorem rsealK_call (hh : RtOk H t V U ts) (hok : ∀ y ∈ ts, TermOk y) (hn : ts.length < 100000) {k b s : List UInt8} {ks : List (List UInt8)} (hk : k.length = 32) (hb : b.length = 32) (hs : s.length < 100000) (hks : ks.length < 90000) (h32 : ∀ x ∈ ks, x.length = 32) :
    XCall Go.Proofs.Tryz.prog 38 [kitA t.b t.l, keyA k, keyA b, .lit (tx s), .sl 32 (klA ks)] H fun r H' => r = .lit (tx (nameK (putN ts (sealK k b s ks)))) ∧ ∃ V' U', H' = rtOf H t V' U' (putT ts (sealK k b s ks)) := by
  have h713 := fc713_eq
  refine XCall.le ?_
  have hput := rseal_gk hh hok hn hk hb hs hks h32
  have hself := hh.self
  have G1 : ∀ i y, (rF H t i y).length = H.length := fun i y => rtOf_len _ _ _ _ _
  refine XCall.of h713 rfl ?_; show AC.wp _ fb713 ⟨H.length, [kitA t.b t.l, keyA k, keyA b, .lit (tx s), .sl 32 (klA ks)] ++ List.replicate (26 - 5) .any, H ++ List.replicate 26 none⟩ (fun x s => match x with | .exit _ => False | _ => ∃ s1, Le s s1 ∧ FinX [(.tmp 10)] s1 _); unfold fb713
  have hst : ∀ L, H ++ L = rF H t ts (V, U) ++ L := fun L => by unfold rF; rw [hself]
  rw [hst]
  generalize hN : H.length = N at *
  have g1 : ∀ i y L k, (rF H t i y ++ L)[N + k]? = L[k]? := fun i y L k => cat1 N _ L k (G1 i y)
  have g2 : ∀ i y L k z, (rF H t i y ++ L).set (N + k) z = rF H t i y ++ L.set k z := fun i y L k z => cat2 N _ L k z (G1 i y)
  refine wp_sg (areg_bx rfl (by simp [AS.ev, kitA, AV.sz]) fun l3 => areg_bx rfl (by simp [AS.ev, AS.put, keyA, AV.sz, bl, hk]) fun l4 => areg_bx rfl (by simp [AS.ev, AS.put, keyA, AV.sz, bl, hb]) fun l5 => areg_end (by simp [push_cast, g2]; exact rfl) ?_)
  refine wp_seq' (wp_seq' (wp_r (by simp [push_cast, g1, kitA]; exact rfl) (wp_cond_f (by simp [AS.ev]) (wp_skip' ?_))))
  refine wp_sg ?_
  refine areg_run 6 (by simp [push_cast, g1, kitA, hk, hb]; exact rfl) ?_
  refine areg_gi hput (by simp [AS.ev, AS.put, keyA]) fun y => ?_
  generalize nameK (putN ts (sealK k b s ks)) = nk at *
  refine areg_end (by simp [push_cast]; exact rfl) (wp_ret' ?_)
  exact ⟨_, Le.refl _, finX1 (v := .lit (tx nk)) (by simp [AS.seals, RVals, RVal, AS.ev, AS.coe]) (by simp) ⟨_, _, RelLe.refl _, by simp, HpLe.trim _ _, rfl, y.1, y.2, rfl⟩⟩
theorem rlen_call (hh : RtOk H t V U ts) (hn : ts.length < 100000) : XCall Go.Proofs.Tryz.prog 27 [kitA t.b t.l] H fun r H' => r = .lit (jn ts.length) ∧ H' = H := by
  have h711 := fc711_eq
  refine XCall.le ?_
  refine XCall.of h711 rfl ?_; show AC.wp _ fb711 ⟨H.length, [kitA t.b t.l] ++ List.replicate (9 - 1) .any, H ++ List.replicate 9 none⟩ (fun x s => match x with | .exit _ => False | _ => ∃ s1, Le s s1 ∧ FinX [(.tmp 2)] s1 _); unfold fb711
  generalize hN : H.length = N at *
  have p1 : ∀ L k, (H ++ L)[N + k]? = L[k]? := fun L k => cat1 N H L k hN
  have p2 : ∀ L k x, (H ++ L).set (N + k) x = H ++ L.set k x := fun L k x => cat2 N H L k x hN
  have pb : ∀ L, (H ++ L)[t.b]? = some (some (.box t.l 2 (.st [1, 1] [.own t.j V, .own t.m U]))) := fun L => by rw [cat4 N H L _ hN (hN ▸ hh.lb)]; exact hh.hb
  have pj : ∀ L, (H ++ L)[t.j]? = some (some (.row 78 V 3 (ts.map termA) 0)) := fun L => by rw [cat4 N H L _ hN (hN ▸ hh.lj)]; exact hh.hj
  refine wp_sg (areg_bx rfl (by simp [AS.ev, kitA, AV.sz]) fun l3 => areg_end (by simp [push_cast, p2]; exact rfl) ?_)
  refine wp_sr (by simp [push_cast, p1, pb, pj, kitA]; exact rfl) (wp_ret' ?_)
  exact ⟨_, Le.refl _, finX1 (v := .lit (jn ts.length)) (by simp [AS.seals, RVals, RVal, AS.ev, AS.coe]) (by simp) ⟨_, _, RelLe.refl _, by simp, HpLe.trim _ _, rfl, rfl⟩⟩
set_option maxHeartbeats 8000000 in
theorem rtwo_call (hh : RtOk H t V U ts) (hok : ∀ y ∈ ts, TermOk y) (hn : ts.length + 1 < 100000) {s : List UInt8} (hs : s.length < 90000) {ks : List (List UInt8)} (hk : ks.length < 100000) (h32 : ∀ k ∈ ks, k.length = 32) :
    XCall Go.Proofs.Tryz.prog 52 [kitA t.b t.l, .lit (tx s), .sl 32 (klA ks)] H fun r H' => r = .tup [keyA (twoV ts s ks).1.1, keyA (twoV ts s ks).1.2] ∧ ∃ V' U', H' = rtOf H t V' U' (twoV ts s ks).2 := by
  have h730 := fc730_eq
  refine XCall.le ?_
  have hself := hh.self
  have G1 : ∀ i y, (rF H t i y).length = H.length := fun i y => rtOf_len _ _ _ _ _
  have hb1 : binVal .add (tx s) (tx [47, 49]) = some (tx (s ++ [47, 49])) := bin_adds _ _ (by simp only [List.length_cons, List.length_nil]; omega)
  have hb2 : binVal .add (tx s) (tx [47, 50]) = some (tx (s ++ [47, 50])) := bin_adds _ _ (by simp only [List.length_cons, List.length_nil]; omega)
  have l1 : (s ++ [47, 49]).length < 100000 := by simp; omega
  have l2 : (s ++ [47, 50]).length < 100000 := by simp; omega
  have hln := putT_len ts ⟨2, s ++ [47, 49], ks⟩
  have hk1 := rhash_gk hh hok (by omega) l1 hk h32
  have hk2 := rhash_gk hh (putT_ok hok (hashT_ok l1 hk h32)) (by omega) l2 hk h32
  have n1 := nameK_len (putN ts ⟨2, s ++ [47, 49], ks⟩)
  have n2 := nameK_len (putN (putT ts ⟨2, s ++ [47, 49], ks⟩) ⟨2, s ++ [47, 50], ks⟩)
  unfold twoV
  simp only
  generalize nameK (putN ts ⟨2, s ++ [47, 49], ks⟩) = k1 at *
  generalize nameK (putN (putT ts ⟨2, s ++ [47, 49], ks⟩) ⟨2, s ++ [47, 50], ks⟩) = k2 at *
  generalize putT (putT ts ⟨2, s ++ [47, 49], ks⟩) ⟨2, s ++ [47, 50], ks⟩ = ts3 at *
  generalize putT ts ⟨2, s ++ [47, 49], ks⟩ = ts2 at *
  generalize s ++ [47, 49] = sa at *
  generalize s ++ [47, 50] = sb at *
  refine XCall.of h730 rfl ?_; show AC.wp _ fb730 ⟨H.length, [kitA t.b t.l, .lit (tx s), .sl 32 (klA ks)] ++ List.replicate (18 - 3) .any, H ++ List.replicate 18 none⟩ (fun x s => match x with | .exit _ => False | _ => ∃ s1, Le s s1 ∧ FinX [(.cell 6 .true 32), (.cell 7 .true 32)] s1 _); unfold fb730
  have hst : ∀ L, H ++ L = rF H t ts (V, U) ++ L := fun L => by unfold rF; rw [hself]
  rw [hst]
  generalize hN : H.length = N at *
  have g1 : ∀ i y L k, (rF H t i y ++ L)[N + k]? = L[k]? := fun i y L k => cat1 N _ L k (G1 i y)
  have g2 : ∀ i y L k z, (rF H t i y ++ L).set (N + k) z = rF H t i y ++ L.set k z := fun i y L k z => cat2 N _ L k z (G1 i y)
  refine wp_sg (areg_bx rfl (by simp [AS.ev, kitA, AV.sz]) fun l3 => areg_al' zk_eq.symm fun l6 => areg_al' zk_eq.symm fun l7 => areg_end (by simp [push_cast, g2]; exact rfl) ?_)
  refine wp_sg ?_
  refine areg_run 4 (by simp [push_cast, hb1, g1, kitA]; exact rfl) ?_
  refine areg_gk [kitA t.b t.l, .lit (tx sa), .sl 32 (klA ks)] G1 (by simp [AS.ev, AS.put, kitA]) (tgt_dir (by kernel_rfl) _) hk1 (by simp) (by simp [AS.ev, AV.place]) fun y => ?_
  refine areg_run 4 (by simp [push_cast, hb2, g1, kitA]; exact rfl) ?_
  refine areg_gk [kitA t.b t.l, .lit (tx sb), .sl 32 (klA ks)] G1 (by simp [AS.ev, AS.put, kitA]) (tgt_dir (by kernel_rfl) _) hk2 (by simp) (by simp [AS.ev, AV.place]) fun y2 => ?_
  refine areg_end (by simp [push_cast, g1, g2, n1, n2, zk_len]; exact rfl) (wp_ret' ?_)
  exact ⟨_, Le.refl _, [], _, ⟨_, rfl, by simp [AS.seals, RVals, RVal, AS.ev, AS.peek, AS.blk, g1, Blk.loc, Blk.cont, Blk.n, AV.nav, AV.isAgg, AV.isTup, AS.coe]; rfl, by simp [keyA]⟩, .tup [keyA k1, keyA k2], _, RelLe.refl _, by simp, HpLe.trim _ _, rfl, y2.1, y2.2, rfl⟩
end
def rtNew (N : Nat) (l : Nat × Nat) : Rt := ⟨N, N + 1, N + 2, l⟩
def rnewL (N : Nat) (l : Nat × Nat) : List (Option Blk) := [some (rbk l (N + 1) (N + 2) (.slice none 0 0) (.slice none 0 0)), some (rtk (.slice none 0 0) []), some (rsk (.slice none 0 0) [])]
theorem rnew_ok (H : List (Option Blk)) (l : Nat × Nat) : RtOk (H ++ rnewL H.length l) (rtNew H.length l) (.slice none 0 0) (.slice none 0 0) [] :=
  ⟨by simp [rtNew], by simp [rtNew], by simp [rtNew], by rw [List.getElem?_append_right (by simp [rtNew])]; simp [rtNew, rnewL], by rw [List.getElem?_append_right (by simp [rtNew])]; simp [rtNew, rnewL], by rw [List.getElem?_append_right (by simp [rtNew])]; simp [rtNew, rnewL]⟩
set_option maxHeartbeats 4000000 in
theorem rnew_call (H : List (Option Blk)) : XCall Go.Proofs.Tryz.prog 8 [] H fun r H' => ∃ l, r = kitA H.length l ∧ H' = H ++ rnewL H.length l := by
  have h710 := fc710_eq
  refine XCall.le ?_
  refine XCall.of h710 rfl ?_; show AC.wp _ fb710 ⟨H.length, [] ++ List.replicate (4 - 0) .any, H ++ List.replicate 4 none⟩ (fun x s => match x with | .exit _ => False | _ => ∃ s1, Le s s1 ∧ FinX [(.cell 0 .true 1)] s1 _); unfold fb710
  generalize hN : H.length = N at *
  have p1 : ∀ L k, (H ++ L)[N + k]? = L[k]? := fun L k => cat1 N H L k hN
  have p2 : ∀ L k x, (H ++ L).set (N + k) x = H ++ L.set k x := fun L k x => cat2 N H L k x hN
  have p10 : ∀ L, (H ++ L)[N]? = L[0]? := fun L => p1 L 0
  have p20 : ∀ L x, (H ++ L).set N x = H ++ L.set 0 x := fun L x => p2 L 0 x
  refine wp_sg (areg_al fun l0 => areg_end (by simp [push_cast, p20]; exact rfl) ?_)
  refine wp_sg ?_
  refine areg_run 1 (by simp [push_cast]; exact rfl) ?_
  refine areg_bx rfl rfl fun l => areg_end (by simp [push_cast, p1, p2, p10, p20]; exact rfl) (wp_ret' ?_)
  refine ⟨_, Le.trans (Le.nilField (b := N + 2) (j := N + 1) (l := l) (n := 2) (v := .st [1, 1] [.lit (.slice none 0 0), .lit (.slice none 0 0)]) (v' := .st [1, 1] [.own (N + 1) (.slice none 0 0), .lit (.slice none 0 0)]) (by simp only [AS.blk, p1]; rfl) (AVle.st1 (AVle.nil _) (AVle.refl _)) (by simp only [AS.blk, p1]; rfl) (by simp; omega) (by simp; omega) 78 3) (Le.nilField (b := N + 2) (j := N + 3) (l := l) (n := 2) (v := .st [1, 1] [.own (N + 1) (.slice none 0 0), .lit (.slice none 0 0)]) (v' := .st [1, 1] [.own (N + 1) (.slice none 0 0), .own (N + 3) (.slice none 0 0)]) (by simp only [AS.blk, p2, p1]; rfl) (AVle.st1 (AVle.refl _) (AVle.st1 (AVle.nil _) AVle.st0)) (by simp only [AS.blk, p2, p1]; rfl) (by simp; omega) (by simp; omega) 30 1), ?_⟩
  simp only [p2]
  refine ⟨[], _, ⟨by simp [AS.seals, RVals, RVal, AS.ev, AS.peek, AS.blk, p1, p10, Blk.loc, Blk.cont, Blk.n, AV.nav, AV.isAgg, AV.isTup, AS.coe]; rfl, by simp⟩, kitA N l, H ++ rnewL N l, RelLe.st (AVle.st1 (AVle.ptr _ _ _ _ _) AVle.st0), by simp [kitA], ?_, l, rfl, rfl⟩
  refine HpLe.gen (fun k => if k = N then N + 2 else if k = N + 1 then N + 1 else if k = N + 2 then N + 3 else k) (fun k k' x y hx hy e => ?_) (fun k x hx => ?_)
  · have hlt : ∀ (k : Nat) (x : Blk), ((H ++ rnewL N l)[k]?).join = some x → k < N + 3 := fun k x hx => by
      by_cases h : k < N + 3
      · exact h
      · rw [List.getElem?_eq_none (by simp [rnewL]; omega)] at hx; cases hx
    have := hlt k x hx
    have := hlt k' y hy
    try simp only at e
    split at e <;> split at e <;> (try split at e) <;> (try split at e) <;> (try split at e) <;> (try split at e) <;> omega
  · by_cases h1 : k < N
    · rw [cat4 N H _ k hN h1] at hx
      refine ⟨x, ?_, BlkLe.refl _⟩
      simp only [show k ≠ N by omega, show k ≠ N + 1 by omega, show k ≠ N + 2 by omega, if_false, AS.seals]
      rw [cat4 N H _ k hN h1]; exact hx
    · obtain ⟨i, rfl⟩ : ∃ i, k = N + i := ⟨k - N, by omega⟩
      rw [p1] at hx
      match i, hx with
      | 0, hx =>
        simp only [rnewL, List.getElem?_cons_zero, Option.join_some, Option.some.injEq] at hx
        subst hx
        refine ⟨.box l 2 (.st [1, 1] [.own (N + 1) (.slice none 0 0), .own (N + 3) (.slice none 0 0)]), ?_, BlkLe.box (AVle.st1 (AVle.own _ _ _) (AVle.st1 (AVle.own _ _ _) AVle.st0))⟩
        simp only [Nat.add_zero, if_true, AS.seals]
        rw [p1]; rfl
      | 1, hx =>
        simp only [rnewL, List.getElem?_cons_succ, List.getElem?_cons_zero, Option.join_some, Option.some.injEq] at hx
        subst hx
        refine ⟨_, ?_, BlkLe.refl _⟩
        simp only [show N + 1 ≠ N by omega, if_false, if_true, AS.seals]
        rw [p1]; rfl
      | 2, hx =>
        simp only [rnewL, List.getElem?_cons_succ, List.getElem?_cons_zero, Option.join_some, Option.some.injEq] at hx
        subst hx
        refine ⟨_, ?_, BlkLe.refl _⟩
        simp only [show N + 2 ≠ N by omega, show N + 2 ≠ N + 1 by omega, if_false, if_true, AS.seals]
        rw [p1]; rfl
      | i + 3, hx => simp [rnewL] at hx
end Go.Cab
namespace Go.Cab
open Go.RowKit
open Classical
def fb720 : AC := (.seq (.reg [⟨some 2, none, .mov (.const (.bool false)), [], none⟩]) (.seq (.reg [⟨some 3, none, .mov (.tmp 0), [], none⟩, ⟨some 4, none, .bin .geq (.tmp 3) (.const (jn 0)), [], none⟩, ⟨some 5, none, .mov (.tmp 4), [], none⟩, ⟨some 6, some (5, true), .mov (.tmp 0), [], none⟩, ⟨some 7, some (5, true), .bin .leq (.tmp 6) (.const (jn 7)), [], none⟩, ⟨some 8, none, .pick (.tmp 5) (.tmp 7) (.const (.bool false)), [], none⟩, ⟨some 2, none, .mov (.tmp 8), [], none⟩]) .ret))
def fc720 : FC := ⟨1, 9, [(.tmp 2)], fb720⟩
theorem fc720_eq : compF Go.Proofs.Tryz.prog 13 = some fc720 := by kernel_rfl
def fb721 : AC := (.seq (.reg [⟨some 2, none, .box 32 (.tmp 0), [], none⟩, ⟨some 3, none, .box 32 (.tmp 1), [], none⟩, ⟨some 4, none, .mov (.const (.bool false)), [], none⟩]) (.seq (.seq (.reg [⟨some 5, none, .mov (.const (jn 0)), [], none⟩]) (.block 0 (.loop (.seq (.seq (.reg [⟨some 6, none, .mov (.tmp 5), [], none⟩, ⟨some 7, none, .bin .lss (.tmp 6) (.const (jn 32)), [], none⟩]) (.cond (.tmp 7) .skip (.exit 0))) (.seq (.block 1 (.seq (.reg [⟨some 10, none, .mov (.tmp 5), [], none⟩, ⟨some 11, none, .iaddrA 32 1 (.tmp 2) (.tmp 10), [], none⟩, ⟨some 12, none, .load false 1 (.tmp 11), [], none⟩, ⟨some 13, none, .mov (.tmp 5), [], none⟩, ⟨some 14, none, .iaddrA 32 1 (.tmp 3) (.tmp 13), [], none⟩, ⟨some 15, none, .load false 1 (.tmp 14), [], none⟩, ⟨some 16, none, .bin .neq (.tmp 12) (.tmp 15), [], none⟩]) (.cond (.tmp 16) (.seq (.reg [⟨some 17, none, .mov (.tmp 5), [], none⟩, ⟨some 18, none, .iaddrA 32 1 (.tmp 2) (.tmp 17), [], none⟩, ⟨some 19, none, .load false 1 (.tmp 18), [], none⟩, ⟨some 20, none, .mov (.tmp 5), [], none⟩, ⟨some 21, none, .iaddrA 32 1 (.tmp 3) (.tmp 20), [], none⟩, ⟨some 22, none, .load false 1 (.tmp 21), [], none⟩, ⟨some 23, none, .bin .lss (.tmp 19) (.tmp 22), [], none⟩, ⟨some 4, none, .mov (.tmp 23), [], none⟩]) .ret) .skip))) (.reg [⟨some 8, none, .mov (.tmp 5), [], none⟩, ⟨some 9, none, .bin .add (.tmp 8) (.const (jn 1)), [], none⟩, ⟨some 5, none, .mov (.tmp 9), [], none⟩])))))) (.seq (.reg [⟨some 4, none, .mov (.const (.bool false)), [], none⟩]) .ret)))
def fc721 : FC := ⟨2, 24, [(.tmp 4)], fb721⟩
theorem fc721_eq : compF Go.Proofs.Tryz.prog 50 = some fc721 := by kernel_rfl
def fb723 : AC := (.seq (.reg [⟨some 2, none, .box 71 (.tmp 0), [], none⟩, ⟨some 4, none, .mov (.const (.bool false)), [], none⟩]) (.seq (.reg [⟨some 6, none, .build (.arr 1 (List.replicate 32 (.lit (bn 0)))) [], [], none⟩, ⟨some 5, none, .alloc 32 (.arr 1 (List.replicate 32 (.lit (bn 0)))), [], none⟩, ⟨none, none, .store 32 (.tmp 5) (.tmp 6), [], none⟩]) (.seq (.seq (.reg [⟨some 7, none, .faddr 3 3 (.tmp 2), [], none⟩, ⟨some 8, none, .load false 1 (.tmp 7), [], none⟩, ⟨some 9, none, .bin .eql (.tmp 8) (.const (jn 1)), [], none⟩, ⟨some 10, none, .mov (.tmp 9), [], none⟩, ⟨some 11, some (10, true), .mov (.tmp 1), [], none⟩, ⟨some 12, some (10, true), .un .not (.tmp 11), [], none⟩, ⟨some 13, some (10, true), .mov (.tmp 12), [], none⟩, ⟨some 14, some (13, false), .faddr 2 2 (.tmp 2), [], none⟩, ⟨some 15, some (13, false), .load false 1 (.tmp 14), [], none⟩, ⟨some 16, some (13, false), .len false (.tmp 15), [], none⟩, ⟨some 17, some (13, false), .bin .gtr (.tmp 16) (.const (jn 0)), [], none⟩, ⟨some 18, some (10, true), .pick (.tmp 13) (.const (.bool true)) (.tmp 17), [], none⟩, ⟨some 19, some (10, true), .mov (.tmp 18), [], none⟩, ⟨some 20, some (19, false), .faddr 1 1 (.tmp 2), [], none⟩, ⟨some 21, some (19, false), .load false 1 (.tmp 20), [], none⟩, ⟨some 22, some (19, false), .bin .neq (.tmp 21) (.const (wn 1)), [], none⟩, ⟨some 23, some (10, true), .pick (.tmp 19) (.const (.bool true)) (.tmp 22), [], none⟩, ⟨some 24, none, .pick (.tmp 10) (.tmp 23) (.const (.bool false)), [], none⟩, ⟨some 25, none, .mov (.tmp 24), [], none⟩, ⟨some 26, some (25, false), .faddr 3 3 (.tmp 2), [], none⟩, ⟨some 27, some (25, false), .load false 1 (.tmp 26), [], none⟩, ⟨some 28, some (25, false), .bin .neq (.tmp 27) (.const (jn 1)), [], none⟩, ⟨some 29, some (25, false), .mov (.tmp 28), [], none⟩, ⟨some 30, some (29, true), .faddr 2 2 (.tmp 2), [], none⟩, ⟨some 31, some (29, true), .load false 1 (.tmp 30), [], none⟩, ⟨some 32, some (29, true), .len false (.tmp 31), [], none⟩, ⟨some 33, some (29, true), .bin .eql (.tmp 32) (.const (jn 0)), [], none⟩, ⟨some 34, some (25, false), .pick (.tmp 29) (.tmp 33) (.const (.bool false)), [], none⟩, ⟨some 35, none, .pick (.tmp 25) (.const (.bool true)) (.tmp 34), [], none⟩]) (.cond (.tmp 35) (.seq (.reg [⟨some 4, none, .mov (.const (.bool false)), [], none⟩]) .ret) .skip)) (.seq (.seq (.reg [⟨some 36, none, .faddr 3 3 (.tmp 2), [], none⟩, ⟨some 37, none, .load false 1 (.tmp 36), [], none⟩, ⟨some 38, none, .bin .eql (.tmp 37) (.const (jn 2)), [], none⟩, ⟨some 39, none, .mov (.tmp 38), [], none⟩, ⟨some 40, some (39, false), .faddr 3 3 (.tmp 2), [], none⟩, ⟨some 41, some (39, false), .load false 1 (.tmp 40), [], none⟩, ⟨some 42, some (39, false), .bin .eql (.tmp 41) (.const (jn 3)), [], none⟩, ⟨some 43, none, .pick (.tmp 39) (.const (.bool true)) (.tmp 42), [], none⟩, ⟨some 44, none, .mov (.tmp 43), [], none⟩, ⟨some 45, some (44, true), .mov (.tmp 1), [], none⟩, ⟨some 46, some (44, true), .mov (.tmp 45), [], none⟩, ⟨some 47, some (46, false), .faddr 4 4 (.tmp 2), [], none⟩, ⟨some 48, some (46, false), .load false 1 (.tmp 47), [], none⟩, ⟨some 49, some (46, false), .len false (.tmp 48), [], none⟩, ⟨some 50, some (46, false), .bin .neq (.tmp 49) (.const (jn 1)), [], none⟩, ⟨some 51, some (44, true), .pick (.tmp 46) (.const (.bool true)) (.tmp 50), [], none⟩, ⟨some 52, none, .pick (.tmp 44) (.tmp 51) (.const (.bool false)), [], none⟩, ⟨some 53, none, .mov (.tmp 52), [], none⟩, ⟨some 54, some (53, false), .faddr 3 3 (.tmp 2), [], none⟩, ⟨some 55, some (53, false), .load false 1 (.tmp 54), [], none⟩, ⟨some 56, some (53, false), .bin .gtr (.tmp 55) (.const (jn 3)), [], none⟩, ⟨some 57, some (53, false), .mov (.tmp 56), [], none⟩, ⟨some 58, some (57, true), .faddr 4 4 (.tmp 2), [], none⟩, ⟨some 59, some (57, true), .load false 1 (.tmp 58), [], none⟩, ⟨some 60, some (57, true), .len false (.tmp 59), [], none⟩, ⟨some 61, some (57, true), .bin .gtr (.tmp 60) (.const (jn 0)), [], none⟩, ⟨some 62, some (53, false), .pick (.tmp 57) (.tmp 61) (.const (.bool false)), [], none⟩, ⟨some 63, none, .pick (.tmp 53) (.const (.bool true)) (.tmp 62), [], none⟩]) (.cond (.tmp 63) (.seq (.reg [⟨some 4, none, .mov (.const (.bool false)), [], none⟩]) .ret) .skip)) (.seq (.seq (.reg [⟨some 64, none, .faddr 3 3 (.tmp 2), [], none⟩, ⟨some 65, none, .load false 1 (.tmp 64), [], none⟩, ⟨some 66, none, .bin .eql (.tmp 65) (.const (jn 5)), [], none⟩, ⟨some 67, none, .mov (.tmp 66), [], none⟩, ⟨some 68, some (67, false), .faddr 3 3 (.tmp 2), [], none⟩, ⟨some 69, some (67, false), .load false 1 (.tmp 68), [], none⟩, ⟨some 70, some (67, false), .bin .eql (.tmp 69) (.const (jn 6)), [], none⟩, ⟨some 71, none, .pick (.tmp 67) (.const (.bool true)) (.tmp 70), [], none⟩, ⟨some 72, none, .faddr 5 5 (.tmp 2), [], none⟩, ⟨some 73, none, .load true 32 (.tmp 72), [], none⟩, ⟨some 74, none, .load true 32 (.tmp 5), [], none⟩, ⟨some 75, none, .eqv 23 false (.tmp 73) (.tmp 74), [], none⟩, ⟨some 76, none, .beq false (.tmp 71) (.tmp 75), [], none⟩]) (.cond (.tmp 76) (.seq (.reg [⟨some 4, none, .mov (.const (.bool false)), [], none⟩]) .ret) .skip)) (.seq (.seq (.reg [⟨some 77, none, .faddr 3 3 (.tmp 2), [], none⟩, ⟨some 78, none, .load false 1 (.tmp 77), [], none⟩, ⟨some 79, none, .bin .eql (.tmp 78) (.const (jn 7)), [], none⟩]) (.cond (.tmp 79) (.seq (.reg [⟨some 80, none, .faddr 37 6 (.tmp 2), [], none⟩, ⟨some 81, none, .load true 32 (.tmp 80), [], none⟩, ⟨some 82, none, .load true 32 (.tmp 5), [], none⟩, ⟨some 83, none, .eqv 23 false (.tmp 81) (.tmp 82), [], none⟩, ⟨some 84, none, .mov (.tmp 83), [], none⟩, ⟨some 85, some (84, true), .faddr 69 7 (.tmp 2), [], none⟩, ⟨some 86, some (84, true), .load false 1 (.tmp 85), [], none⟩, ⟨some 87, some (84, true), .len true (.tmp 86), [], none⟩, ⟨some 88, some (84, true), .bin .gtr (.tmp 87) (.const (jn 0)), [], none⟩, ⟨some 89, none, .pick (.tmp 84) (.tmp 88) (.const (.bool false)), [], none⟩, ⟨some 4, none, .mov (.tmp 89), [], none⟩]) .ret) .skip)) (.seq (.reg [⟨some 90, none, .faddr 37 6 (.tmp 2), [], none⟩, ⟨some 91, none, .load true 32 (.tmp 90), [], none⟩, ⟨some 92, none, .load true 32 (.tmp 5), [], none⟩, ⟨some 93, none, .eqv 23 true (.tmp 91) (.tmp 92), [], none⟩, ⟨some 94, none, .mov (.tmp 93), [], none⟩, ⟨some 95, some (94, true), .faddr 69 7 (.tmp 2), [], none⟩, ⟨some 96, some (94, true), .load false 1 (.tmp 95), [], none⟩, ⟨some 97, some (94, true), .len true (.tmp 96), [], none⟩, ⟨some 98, some (94, true), .bin .eql (.tmp 97) (.const (jn 0)), [], none⟩, ⟨some 99, none, .pick (.tmp 94) (.tmp 98) (.const (.bool false)), [], none⟩, ⟨some 4, none, .mov (.tmp 99), [], none⟩]) .ret)))))))
def fc723 : FC := ⟨2, 100, [(.tmp 4)], fb723⟩
theorem fc723_eq : compF Go.Proofs.Tryz.prog 51 = some fc723 := by kernel_rfl
def fb722 : AC := (.seq (.reg [⟨some 1, none, .box 71 (.tmp 0), [], none⟩, ⟨some 2, none, .mov (.const (.bool false)), [], none⟩]) (.seq (.seq (.reg [⟨some 8, none, .faddr 0 0 (.tmp 1), [], none⟩, ⟨some 9, none, .load false 1 (.tmp 8), [], none⟩, ⟨some 10, none, .call 13 [.tmp 9], [], none⟩, ⟨some 11, none, .un .not (.tmp 10), [], none⟩, ⟨some 12, none, .mov (.tmp 11), [], none⟩, ⟨some 13, some (12, false), .faddr 1 1 (.tmp 1), [], none⟩, ⟨some 14, some (12, false), .load false 1 (.tmp 13), [], none⟩, ⟨some 15, some (12, false), .bin .eql (.tmp 14) (.const (wn 0)), [], none⟩, ⟨some 16, none, .pick (.tmp 12) (.const (.bool true)) (.tmp 15), [], none⟩, ⟨some 17, none, .mov (.tmp 16), [], none⟩, ⟨some 18, some (17, false), .faddr 3 3 (.tmp 1), [], none⟩, ⟨some 19, some (17, false), .load false 1 (.tmp 18), [], none⟩, ⟨some 20, some (17, false), .bin .lss (.tmp 19) (.const (jn 1)), [], none⟩, ⟨some 21, none, .pick (.tmp 17) (.const (.bool true)) (.tmp 20), [], none⟩, ⟨some 22, none, .mov (.tmp 21), [], none⟩, ⟨some 23, some (22, false), .faddr 3 3 (.tmp 1), [], none⟩, ⟨some 24, some (22, false), .load false 1 (.tmp 23), [], none⟩, ⟨some 25, some (22, false), .bin .gtr (.tmp 24) (.const (jn 7)), [], none⟩, ⟨some 26, none, .pick (.tmp 22) (.const (.bool true)) (.tmp 25), [], none⟩, ⟨some 27, none, .mov (.tmp 26), [], none⟩, ⟨some 28, some (27, false), .faddr 2 2 (.tmp 1), [], none⟩, ⟨some 29, some (27, false), .load false 1 (.tmp 28), [], none⟩, ⟨some 30, some (27, false), .len false (.tmp 29), [], none⟩, ⟨some 31, some (27, false), .bin .gtr (.tmp 30) (.const (jn 8)), [], none⟩, ⟨some 32, none, .pick (.tmp 27) (.const (.bool true)) (.tmp 31), [], none⟩, ⟨some 33, none, .mov (.tmp 32), [], none⟩, ⟨some 34, some (33, false), .faddr 70 8 (.tmp 1), [], none⟩, ⟨some 35, some (33, false), .load false 1 (.tmp 34), [], none⟩, ⟨some 36, some (33, false), .len false (.tmp 35), [], none⟩, ⟨some 37, some (33, false), .bin .gtr (.tmp 36) (.const (jn 8)), [], none⟩, ⟨some 38, none, .pick (.tmp 33) (.const (.bool true)) (.tmp 37), [], none⟩, ⟨some 39, none, .mov (.tmp 38), [], none⟩, ⟨some 40, some (39, false), .faddr 69 7 (.tmp 1), [], none⟩, ⟨some 41, some (39, false), .load false 1 (.tmp 40), [], none⟩, ⟨some 42, some (39, false), .len true (.tmp 41), [], none⟩, ⟨some 43, some (39, false), .bin .gtr (.tmp 42) (.const (jn 256)), [], none⟩, ⟨some 44, none, .pick (.tmp 39) (.const (.bool true)) (.tmp 43), [], none⟩]) (.cond (.tmp 44) (.seq (.reg [⟨some 2, none, .mov (.const (.bool false)), [], none⟩]) .ret) .skip)) (.seq (.seq (.reg [⟨some 3, none, .mov (.const (jn 1)), [], none⟩]) (.block 0 (.loop (.seq (.seq (.reg [⟨some 45, none, .mov (.tmp 3), [], none⟩, ⟨some 46, none, .faddr 2 2 (.tmp 1), [], none⟩, ⟨some 47, none, .load false 1 (.tmp 46), [], none⟩, ⟨some 48, none, .len false (.tmp 47), [], none⟩, ⟨some 49, none, .bin .lss (.tmp 45) (.tmp 48), [], none⟩]) (.cond (.tmp 49) .skip (.exit 0))) (.seq (.block 1 (.seq (.reg [⟨some 52, none, .faddr 2 2 (.tmp 1), [], none⟩, ⟨some 53, none, .load false 1 (.tmp 52), [], none⟩, ⟨some 54, none, .mov (.tmp 3), [], none⟩, ⟨some 55, none, .bin .sub (.tmp 54) (.const (jn 1)), [], none⟩, ⟨some 56, none, .iaddrS 32 (.tmp 53) (.tmp 55), [], none⟩, ⟨some 57, none, .load true 32 (.tmp 56), [], none⟩, ⟨some 58, none, .faddr 2 2 (.tmp 1), [], none⟩, ⟨some 59, none, .load false 1 (.tmp 58), [], none⟩, ⟨some 60, none, .mov (.tmp 3), [], none⟩, ⟨some 61, none, .iaddrS 32 (.tmp 59) (.tmp 60), [], none⟩, ⟨some 62, none, .load true 32 (.tmp 61), [], none⟩, ⟨some 63, none, .callv 50 [.tmp 57, .tmp 62], [], none⟩, ⟨some 64, none, .un .not (.tmp 63), [], none⟩]) (.cond (.tmp 64) (.seq (.reg [⟨some 2, none, .mov (.const (.bool false)), [], none⟩]) .ret) .skip))) (.reg [⟨some 50, none, .mov (.tmp 3), [], none⟩, ⟨some 51, none, .bin .add (.tmp 50) (.const (jn 1)), [], none⟩, ⟨some 3, none, .mov (.tmp 51), [], none⟩])))))) (.seq (.reg [⟨some 4, none, .mov (.const (.bool false)), [], none⟩]) (.seq (.seq (.reg [⟨some 5, none, .mov (.const (jn 0)), [], none⟩]) (.block 2 (.loop (.seq (.seq (.reg [⟨some 65, none, .mov (.tmp 5), [], none⟩, ⟨some 66, none, .faddr 4 4 (.tmp 1), [], none⟩, ⟨some 67, none, .load false 1 (.tmp 66), [], none⟩, ⟨some 68, none, .len false (.tmp 67), [], none⟩, ⟨some 69, none, .bin .lss (.tmp 65) (.tmp 68), [], none⟩]) (.cond (.tmp 69) .skip (.exit 2))) (.seq (.block 3 (.seq (.seq (.reg [⟨some 72, none, .faddr 4 4 (.tmp 1), [], none⟩, ⟨some 73, none, .load false 1 (.tmp 72), [], none⟩, ⟨some 74, none, .mov (.tmp 5), [], none⟩, ⟨some 75, none, .iaddrS 1 (.tmp 73) (.tmp 74), [], none⟩, ⟨some 76, none, .load false 1 (.tmp 75), [], none⟩, ⟨some 77, none, .callv 13 [.tmp 76], [], none⟩, ⟨some 78, none, .un .not (.tmp 77), [], none⟩, ⟨some 79, none, .mov (.tmp 78), [], none⟩, ⟨some 80, some (79, false), .mov (.tmp 5), [], none⟩, ⟨some 81, some (79, false), .bin .gtr (.tmp 80) (.const (jn 0)), [], none⟩, ⟨some 82, some (79, false), .mov (.tmp 81), [], none⟩, ⟨some 83, some (82, true), .faddr 4 4 (.tmp 1), [], none⟩, ⟨some 84, some (82, true), .load false 1 (.tmp 83), [], none⟩, ⟨some 85, some (82, true), .mov (.tmp 5), [], none⟩, ⟨some 86, some (82, true), .bin .sub (.tmp 85) (.const (jn 1)), [], none⟩, ⟨some 87, some (82, true), .iaddrS 1 (.tmp 84) (.tmp 86), [], none⟩, ⟨some 88, some (82, true), .load false 1 (.tmp 87), [], none⟩, ⟨some 89, some (82, true), .faddr 4 4 (.tmp 1), [], none⟩, ⟨some 90, some (82, true), .load false 1 (.tmp 89), [], none⟩, ⟨some 91, some (82, true), .mov (.tmp 5), [], none⟩, ⟨some 92, some (82, true), .iaddrS 1 (.tmp 90) (.tmp 91), [], none⟩, ⟨some 93, some (82, true), .load false 1 (.tmp 92), [], none⟩, ⟨some 94, some (82, true), .bin .geq (.tmp 88) (.tmp 93), [], none⟩, ⟨some 95, some (79, false), .pick (.tmp 82) (.tmp 94) (.const (.bool false)), [], none⟩, ⟨some 96, none, .pick (.tmp 79) (.const (.bool true)) (.tmp 95), [], none⟩]) (.cond (.tmp 96) (.seq (.reg [⟨some 2, none, .mov (.const (.bool false)), [], none⟩]) .ret) .skip)) (.reg [⟨some 97, none, .mov (.tmp 4), [], none⟩, ⟨some 98, none, .mov (.tmp 97), [], none⟩, ⟨some 99, some (98, false), .faddr 4 4 (.tmp 1), [], none⟩, ⟨some 100, some (98, false), .load false 1 (.tmp 99), [], none⟩, ⟨some 101, some (98, false), .mov (.tmp 5), [], none⟩, ⟨some 102, some (98, false), .iaddrS 1 (.tmp 100) (.tmp 101), [], none⟩, ⟨some 103, some (98, false), .load false 1 (.tmp 102), [], none⟩, ⟨some 104, some (98, false), .faddr 0 0 (.tmp 1), [], none⟩, ⟨some 105, some (98, false), .load false 1 (.tmp 104), [], none⟩, ⟨some 106, some (98, false), .bin .eql (.tmp 103) (.tmp 105), [], none⟩, ⟨some 107, none, .pick (.tmp 98) (.const (.bool true)) (.tmp 106), [], none⟩, ⟨some 4, none, .mov (.tmp 107), [], none⟩]))) (.reg [⟨some 70, none, .mov (.tmp 5), [], none⟩, ⟨some 71, none, .bin .add (.tmp 70) (.const (jn 1)), [], none⟩, ⟨some 5, none, .mov (.tmp 71), [], none⟩])))))) (.seq (.seq (.reg [⟨some 6, none, .mov (.const (jn 0)), [], none⟩]) (.block 4 (.loop (.seq (.seq (.reg [⟨some 108, none, .mov (.tmp 6), [], none⟩, ⟨some 109, none, .faddr 70 8 (.tmp 1), [], none⟩, ⟨some 110, none, .load false 1 (.tmp 109), [], none⟩, ⟨some 111, none, .len false (.tmp 110), [], none⟩, ⟨some 112, none, .bin .lss (.tmp 108) (.tmp 111), [], none⟩]) (.cond (.tmp 112) .skip (.exit 4))) (.seq (.block 5 (.seq (.reg [⟨some 115, none, .faddr 70 8 (.tmp 1), [], none⟩, ⟨some 116, none, .load false 1 (.tmp 115), [], none⟩, ⟨some 117, none, .mov (.tmp 6), [], none⟩, ⟨some 118, none, .iaddrS 36 (.tmp 116) (.tmp 117), [], none⟩, ⟨some 119, none, .load true 36 (.tmp 118), [], none⟩, ⟨some 7, none, .alloc 36 (.st [1, 34, 1] [(.lit (jn 0)), (.st [32, 1, 1] [(.arr 1 (List.replicate 32 (.lit (bn 0)))), (.lit (wn 0)), (.lit (wn 0))]), (.lit (tx []))]), [], none⟩, ⟨none, none, .store 36 (.tmp 7) (.tmp 119), [], none⟩]) (.seq (.reg [⟨some 120, none, .faddr 0 0 (.tmp 7), [], none⟩, ⟨some 121, none, .load false 1 (.tmp 120), [], none⟩, ⟨some 122, none, .callv 13 [.tmp 121], [], none⟩, ⟨some 123, none, .un .not (.tmp 122), [], none⟩, ⟨some 124, none, .mov (.tmp 123), [], none⟩, ⟨some 125, some (124, false), .faddr 0 0 (.tmp 7), [], none⟩, ⟨some 126, some (124, false), .load false 1 (.tmp 125), [], none⟩, ⟨some 127, some (124, false), .faddr 0 0 (.tmp 1), [], none⟩, ⟨some 128, some (124, false), .load false 1 (.tmp 127), [], none⟩, ⟨some 129, some (124, false), .bin .eql (.tmp 126) (.tmp 128), [], none⟩, ⟨some 130, none, .pick (.tmp 124) (.const (.bool true)) (.tmp 129), [], none⟩, ⟨some 131, none, .mov (.tmp 130), [], none⟩, ⟨some 132, some (131, false), .faddr 35 2 (.tmp 7), [], none⟩, ⟨some 133, some (131, false), .load false 1 (.tmp 132), [], none⟩, ⟨some 134, some (131, false), .len true (.tmp 133), [], none⟩, ⟨some 135, some (131, false), .bin .gtr (.tmp 134) (.const (jn 256)), [], none⟩, ⟨some 136, none, .pick (.tmp 131) (.const (.bool true)) (.tmp 135), [], none⟩, ⟨some 137, none, .mov (.tmp 136), [], none⟩, ⟨some 138, some (137, false), .mov (.tmp 6), [], none⟩, ⟨some 139, some (137, false), .bin .gtr (.tmp 138) (.const (jn 0)), [], none⟩, ⟨some 140, some (137, false), .mov (.tmp 139), [], none⟩, ⟨some 141, some (140, true), .faddr 70 8 (.tmp 1), [], none⟩, ⟨some 142, some (140, true), .load false 1 (.tmp 141), [], none⟩, ⟨some 143, some (140, true), .mov (.tmp 6), [], none⟩, ⟨some 144, some (140, true), .bin .sub (.tmp 143) (.const (jn 1)), [], none⟩, ⟨some 145, some (140, true), .iaddrS 36 (.tmp 142) (.tmp 144), [], none⟩, ⟨some 146, some (140, true), .faddr 0 0 (.tmp 145), [], none⟩, ⟨some 147, some (140, true), .load false 1 (.tmp 146), [], none⟩, ⟨some 148, some (140, true), .faddr 0 0 (.tmp 7), [], none⟩, ⟨some 149, some (140, true), .load false 1 (.tmp 148), [], none⟩, ⟨some 150, some (140, true), .bin .geq (.tmp 147) (.tmp 149), [], none⟩, ⟨some 151, some (137, false), .pick (.tmp 140) (.tmp 150) (.const (.bool false)), [], none⟩, ⟨some 152, none, .pick (.tmp 137) (.const (.bool true)) (.tmp 151), [], none⟩]) (.cond (.tmp 152) (.seq (.reg [⟨some 2, none, .mov (.const (.bool false)), [], none⟩]) .ret) .skip)))) (.reg [⟨some 113, none, .mov (.tmp 6), [], none⟩, ⟨some 114, none, .bin .add (.tmp 113) (.const (jn 1)), [], none⟩, ⟨some 6, none, .mov (.tmp 114), [], none⟩])))))) (.seq (.reg [⟨some 153, none, .load true 71 (.tmp 1), [], none⟩, ⟨some 154, none, .mov (.tmp 4), [], none⟩, ⟨some 155, none, .call 51 [.tmp 153, .tmp 154], [], none⟩, ⟨some 2, none, .mov (.tmp 155), [], none⟩]) .ret)))))))
def fc722 : FC := ⟨1, 156, [(.tmp 2)], fb722⟩
theorem fc722_eq : compF Go.Proofs.Tryz.prog 36 = some fc722 := by kernel_rfl
theorem areg_op {P : Program} {s s' : AS} {K : AS → Prop} {x : AOp} {xs : List AOp} (h : x.ex s = some s') (k : AReg P xs s' K) : AReg P (x :: xs) s K := AOp.ex_go h k
theorem bin_leqij (a : Int) (n : Nat) : binVal .leq (ji a) (jn n) = some (.bool (decide (a ≤ n))) := by simp [binVal, ji, jn]
theorem bin_geqii (a b : Int) : binVal .geq (ji a) (ji b) = some (.bool (decide (b ≤ a))) := by simp [binVal, ji]
theorem bin_neqij (a : Int) (n : Nat) : binVal .neq (ji a) (jn n) = some (.bool (decide (a ≠ n))) := bin_neqi a n
attribute [push_cast] bin_leqij bin_geqii bin_neqij
theorem memR_call (a : Int) : PCall Go.Proofs.Tryz.prog 13 [.lit (ji a)] (.val (.lit (.bool (memB a)))) := by
  have h720 := fc720_eq
  refine PCall.of h720 rfl ?_; show AC.wp _ fb720 (AS.init [.lit (ji a)] 1 9) (fun x s => match x with | .exit _ => False | _ => Fin [(.tmp 2)] s _); unfold fb720 AS.init
  refine wp_sr (by simp [push_cast]; exact rfl) ?_
  unfold memB
  by_cases h0 : 0 ≤ a
  · refine wp_sg ?_
    (repeat (first | (with_reducible apply areg_ng); focus (simp [AS.ev, AS.put, h0]; done) | (with_reducible apply areg_op); focus (simp [push_cast, h0]; exact rfl)))
    refine areg_nil (wp_ret' ?_)
    have e : decide (a ≤ 7) = decide (0 ≤ a ∧ a < 8) := by rw [decide_eq_decide]; omega
    exact fin_tmp (by simp [RVal, AS.ev, AS.coe, AS.put, e]) (by simp)
  · refine wp_sg ?_
    (repeat (first | (with_reducible apply areg_ng); focus (simp [AS.ev, AS.put, h0]; done) | (with_reducible apply areg_op); focus (simp [push_cast, h0]; exact rfl)))
    refine areg_nil (wp_ret' ?_)
    have e : decide (0 ≤ a ∧ a < 8) = false := by rw [decide_eq_false_iff_not]; omega
    exact fin_tmp (by simp [RVal, AS.ev, AS.coe, AS.put, e]) (by simp)
set_option maxHeartbeats 4000000 in
theorem lessR_call {a b : List UInt8} (ha : a.length = 32) (hb : b.length = 32) : PCall Go.Proofs.Tryz.prog 50 [keyA a, keyA b] (.val (.lit (.bool (decide (Go.Lib.compareBytes a b < 0))))) := by
  have h721 := fc721_eq
  unfold keyA
  refine PCall.of h721 rfl ?_; show AC.wp _ fb721 (AS.init [.arr 1 (bl a), .arr 1 (bl b)] 2 24) (fun x s => match x with | .exit _ => False | _ => Fin [(.tmp 4)] s _); unfold fb721 AS.init
  refine wp_sg (areg_bx rfl (by simp [AS.ev, AV.sz, bl, ha]) fun l2 => areg_bx rfl (by simp [AS.ev, AS.put, AV.sz, bl, hb]) fun l3 => areg_end (by simp [push_cast]; exact rfl) ?_)
  refine wp_seq' (wp_seq' (wp_r (by simp [push_cast]; exact rfl) (wp_block' (wp_loop_ret 32 (fun i => ⟨0, [.any, .any, .ptr 2 l2 0 [], .ptr 3 l3 0 [], .any, .lit (jn i)] ++ List.replicate 18 .any, [none, none, some (.box l2 32 (.arr 1 (bl a))), some (.box l3 32 (.arr 1 (bl b)))] ++ List.replicate 20 none⟩) (fun i => Go.Lib.compareBytes (a.drop i) (b.drop i) = Go.Lib.compareBytes a b) ?_ rfl ?_))))
  · exact Le.mk rfl (by simp [leT]) (by simp [leH])
  · intro i hi hI
    by_cases hlt : i < 32
    · obtain ⟨x, hx⟩ : ∃ x, a[i]? = some x := ⟨_, List.getElem?_eq_getElem (by omega)⟩
      obtain ⟨y, hy⟩ : ∃ y, b[i]? = some y := ⟨_, List.getElem?_eq_getElem (by omega)⟩
      have hda : a.drop i = x :: a.drop (i + 1) := by rw [List.drop_eq_getElem_cons (by omega : i < a.length)]; rw [List.getElem?_eq_getElem (by omega)] at hx; rw [Option.some.inj hx]
      have hdb : b.drop i = y :: b.drop (i + 1) := by rw [List.drop_eq_getElem_cons (by omega : i < b.length)]; rw [List.getElem?_eq_getElem (by omega)] at hy; rw [Option.some.inj hy]
      rw [hda, hdb] at hI
      rw [show Go.Lib.compareBytes (x :: a.drop (i + 1)) (y :: b.drop (i + 1)) = (if x < y then -1 else if y < x then 1 else Go.Lib.compareBytes (a.drop (i + 1)) (b.drop (i + 1))) from rfl] at hI
      have kx : (bl a)[i]? = some (.lit (bn x.toNat)) := by simp [bl, hx]
      have ky : (bl b)[i]? = some (.lit (bn y.toNat)) := by simp [bl, hy]
      have ex : ∀ h, (bl a)[i]'h = .lit (bn x.toNat) := fun h => by rw [List.getElem?_eq_getElem h] at kx; exact Option.some.inj kx
      have ey : ∀ h, (bl b)[i]'h = .lit (bn y.toNat) := fun h => by rw [List.getElem?_eq_getElem h] at ky; exact Option.some.inj ky
      have q1 : i + 1 < 9223372036854775808 := by omega
      have hI' : (if x.toNat < y.toNat then -1 else if y.toNat < x.toNat then 1 else Go.Lib.compareBytes (a.drop (i + 1)) (b.drop (i + 1))) = Go.Lib.compareBytes a b := hI
      clear hI
      refine wp_seq' (wp_sr (by simp [push_cast, hlt]; exact rfl) (wp_cond_t (by simp [AS.ev]) (wp_skip' ?_)))
      refine wp_seq' (wp_block' (wp_seq' (wp_r (by simp [push_cast, hlt, kx, ky, ex, ey, ha, hb, bl_len]; exact rfl) ?_)))
      by_cases hxy : x.toNat = y.toNat
      · rw [if_neg (by omega), if_neg (by omega)] at hI'
        refine wp_cond_f (by simp [AS.ev, hxy]) (wp_skip' ?_)
        refine wp_r (by simp [push_cast, q1]; exact rfl) ?_
        exact ⟨hlt, hI', Le.mk rfl (by simp [leT]) (by simp [leH])⟩
      · refine wp_cond_t (by simp [AS.ev, hxy]) ?_
        refine wp_sr (by simp [push_cast, hlt, kx, ky, ex, ey, ha, hb, bl_len]; exact rfl) (wp_ret' ?_)
        have e : decide (Go.Lib.compareBytes a b < 0) = decide (x.toNat < y.toNat) := by
          rw [← hI']
          by_cases h1 : x.toNat < y.toNat
          · rw [if_pos h1]; simp [h1]
          · rw [if_neg h1, if_pos (by omega)]; simp [h1]
        exact fin_tmp (by simp [RVal, AS.ev, AS.coe, e]) (by simp)
    · have : i = 32 := by omega
      subst this
      rw [List.drop_eq_nil_of_le (by omega), List.drop_eq_nil_of_le (by omega)] at hI
      refine wp_seq' (wp_sr (by simp [push_cast]; exact rfl) (wp_cond_f (by simp [AS.ev]) (wp_exit' (if_hit rfl ?_))))
      refine wp_sr (by simp [push_cast]; exact rfl) (wp_ret' ?_)
      exact fin_tmp (by simp [RVal, AS.ev, AS.coe, ← hI, Go.Lib.compareBytes]) (by simp)
def k1V (kd : Int) (pn sq : Nat) (b : Bool) : Prop := (kd = 1 ∧ (b = false ∨ 0 < pn ∨ sq ≠ 1)) ∨ (kd ≠ 1 ∧ pn = 0)
def k2V (kd : Int) (wl : Nat) (b : Bool) : Prop := ((kd = 2 ∨ kd = 3) ∧ (b = true ∨ wl ≠ 1)) ∨ (3 < kd ∧ 0 < wl)
def k3V (kd : Int) (z : Bool) : Prop := (kd = 5 ∨ kd = 6) ↔ z = true
noncomputable def kindN (kd : Int) (pn sq wl tl : Nat) (zo zc b : Bool) : Bool :=
  if k1V kd pn sq b then false else if k2V kd wl b then false else if k3V kd zo then false else if kd = 7 then decide (zc = true ∧ 0 < tl) else decide (zc = false ∧ tl = 0)
noncomputable def kindV (o : OpV) (b : Bool) : Bool := kindN o.kind o.parents.length o.seq o.who.length o.text.length (decide (o.ofk = zk)) (decide (o.check = zk)) b
def kdS (A : AV) (l2 l5 : Nat × Nat) (b : Bool) : AS :=
  ⟨0, [.any, .lit (.bool b), .ptr 2 l2 0 [], .any, .lit (.bool false), .ptr 5 l5 0 []] ++ List.replicate 94 .any, [none, none, some (.box l2 71 A), none, none, some (.box l5 32 (keyA zk))] ++ List.replicate 94 none⟩
set_option maxHeartbeats 16000000 in
theorem kind_call {o : OpV} (ho : OpOk o) (b : Bool) : PCall Go.Proofs.Tryz.prog 51 [opA o, .lit (.bool b)] (.val (.lit (.bool (kindV o b)))) := by
  have h723 := fc723_eq
  have o5 := ho.ofk
  have o6 := ho.check
  have e5 := eq_key o5 zk_len
  have e6 := eq_key o6 zk_len
  have hpl : (klA o.parents).length = o.parents.length := klA_len _
  have hwl : (o.who.map fun x => AV.lit (ji x)).length = o.who.length := List.length_map _
  unfold opA kindV
  generalize hPP : klA o.parents = PP at *
  generalize hWW : (o.who.map fun x => AV.lit (ji x)) = WW at *
  generalize (o.boxes.map fun x => boxA x) = BB at *
  obtain ⟨au, sq, ps, kd, who, ofk, check, text, boxes⟩ := o
  have htl : text.length = text.length := rfl
  simp only at *
  generalize ps.length = pn at *
  generalize who.length = wl at *
  generalize decide (ofk = zk) = zo at *
  generalize decide (check = zk) = zc at *
  obtain ⟨tl, htl⟩ : ∃ tl, tl = text.length := ⟨_, rfl⟩
  rw [← htl]
  have htl' := htl.symm
  refine PCall.of h723 rfl ?_; show AC.wp _ fb723 (AS.init [.st [1, 1, 1, 1, 1, 32, 32, 1, 1] [.lit (ji au), .lit (wn sq), .sl 32 PP, .lit (ji kd), .sl 1 WW, keyA ofk, keyA check, .lit (tx text), .sl 36 BB], .lit (.bool b)] 2 100) (fun x s => match x with | .exit _ => False | _ => Fin [(.tmp 4)] s _); unfold fb723 AS.init
  have finT : ∀ (s : AS) (v : Bool), v = kindN kd pn sq wl tl zo zc b → RVal s (.tmp 4) = some (.lit (.bool v)) → Fin [.tmp 4] s (.val (.lit (.bool (kindN kd pn sq wl tl zo zc b)))) := fun s v h1 h2 => by subst h1; exact fin_tmp h2 (by simp)
  refine wp_sg (areg_bx rfl (by simp [AS.ev, AV.sz, o5, o6]) fun l2 => areg_end (by simp [push_cast]; exact rfl) ?_)
  refine wp_sg (areg_bz (areg_al' zk_eq.symm fun l5 => areg_end (by simp [push_cast, zk_len]; exact rfl) ?_))
  obtain ⟨A, hA⟩ : ∃ A : AV, A = .st [1, 1, 1, 1, 1, 32, 32, 1, 1] [.lit (ji au), .lit (wn sq), .sl 32 PP, .lit (ji kd), .sl 1 WW, keyA ofk, keyA check, .lit (tx text), .sl 36 BB] := ⟨_, rfl⟩
  refine wp_seqM (fun _ : Unit => kdS A l2 l5 b) (fun _ => ¬ k1V kd pn sq b) (fun _ hn1 => ?_) ?_
  · subst hA
    unfold kdS
    refine wp_seqM (fun _ : Unit => kdS (.st [1, 1, 1, 1, 1, 32, 32, 1, 1] [.lit (ji au), .lit (wn sq), .sl 32 PP, .lit (ji kd), .sl 1 WW, keyA ofk, keyA check, .lit (tx text), .sl 36 BB]) l2 l5 b) (fun _ => ¬ k2V kd wl b) (fun _ hn2 => ?_) ?_
    · unfold kdS
      refine wp_seqM (fun _ : Unit => kdS (.st [1, 1, 1, 1, 1, 32, 32, 1, 1] [.lit (ji au), .lit (wn sq), .sl 32 PP, .lit (ji kd), .sl 1 WW, keyA ofk, keyA check, .lit (tx text), .sl 36 BB]) l2 l5 b) (fun _ => ¬ k3V kd zo) (fun _ hn3 => ?_) ?_
      · have T4 : kindN kd pn sq wl tl zo zc b = (if kd = 7 then decide (zc = true ∧ 0 < tl) else decide (zc = false ∧ tl = 0)) := by unfold kindN; rw [if_neg hn1, if_neg hn2, if_neg hn3]
        unfold kdS
        by_cases h7 : kd = 7
        · refine wp_seq' (wp_seq' (wp_r (by simp [push_cast, h7]; exact rfl) (wp_cond_t (by simp [AS.ev]) ?_)))
          refine wp_sg ?_
          refine areg_run 3 (by simp [push_cast, o5, o6, zk_len]; exact rfl) ?_
          refine areg_eq (by simp [AS.ev, AS.put] <;> exact rfl) (by simp [AS.ev, AS.put] <;> exact rfl) e6 rfl rfl ?_
          cases zc with
          | false =>
            (repeat (first | (with_reducible apply areg_ng); focus (simp [AS.ev, AS.put]; done) | (with_reducible apply areg_op); focus (simp [push_cast]; exact rfl)))
            refine areg_nil (wp_ret' ?_)
            exact finT _ false (by rw [T4, if_pos h7]; simp) (by simp [RVal, AS.ev, AS.coe, AS.put])
          | true =>
            (repeat (first | (with_reducible apply areg_ng); focus (simp [AS.ev, AS.put, htl']; done) | (with_reducible apply areg_op); focus (simp [push_cast, htl']; exact rfl)))
            refine areg_nil (wp_ret' ?_)
            exact finT _ (decide (0 < tl)) (by rw [T4, if_pos h7]; simp) (by simp [RVal, AS.ev, AS.coe, AS.put])
        · refine wp_seq' (wp_seq' (wp_r (by simp [push_cast, h7]; exact rfl) (wp_cond_f (by simp [AS.ev, h7]) (wp_skip' ?_))))
          refine wp_sg ?_
          refine areg_run 3 (by simp [push_cast, o5, o6, zk_len]; exact rfl) ?_
          refine areg_eq (by simp [AS.ev, AS.put] <;> exact rfl) (by simp [AS.ev, AS.put] <;> exact rfl) e6 rfl rfl ?_
          cases zc with
          | true =>
            (repeat (first | (with_reducible apply areg_ng); focus (simp [AS.ev, AS.put]; done) | (with_reducible apply areg_op); focus (simp [push_cast]; exact rfl)))
            refine areg_nil (wp_ret' ?_)
            exact finT _ false (by rw [T4, if_neg h7]; simp) (by simp [RVal, AS.ev, AS.coe, AS.put])
          | false =>
            (repeat (first | (with_reducible apply areg_ng); focus (simp [AS.ev, AS.put, htl']; done) | (with_reducible apply areg_op); focus (simp [push_cast, htl']; exact rfl)))
            refine areg_nil (wp_ret' ?_)
            exact finT _ (decide (tl = 0)) (by rw [T4, if_neg h7]; simp) (by simp [RVal, AS.ev, AS.coe, AS.put])
      · have T3 : k3V kd zo → false = kindN kd pn sq wl tl zo zc b := fun h => by unfold kindN; rw [if_neg hn1, if_neg hn2, if_pos h]
        refine wp_seq' (wp_rg ?_)
        by_cases h5 : kd = 5
        · have h56 : kd = 5 ∨ kd = 6 := .inl h5
          (repeat (first | (with_reducible apply areg_ng); focus (simp [AS.ev, AS.put, o5, o6, zk_len, h5]; done) | (with_reducible apply areg_op); focus (simp [push_cast, o5, o6, zk_len, h5]; exact rfl)))
          refine areg_eq (by simp [AS.ev, AS.put] <;> exact rfl) (by simp [AS.ev, AS.put] <;> exact rfl) e5 rfl rfl ?_
          cases zo with
          | true =>
            (repeat (first | (with_reducible apply areg_ng); focus (simp [AS.ev, AS.put]; done) | (with_reducible apply areg_op); focus (simp [push_cast]; exact rfl)))
            refine areg_nil (wp_cond_t (by simp [AS.ev, AS.put]) ?_)
            refine wp_sr (by simp [push_cast]; exact rfl) (wp_ret' ?_)
            exact finT _ false (T3 (by unfold k3V; simp; omega)) (by simp [RVal, AS.ev, AS.coe])
          | false =>
            (repeat (first | (with_reducible apply areg_ng); focus (simp [AS.ev, AS.put]; done) | (with_reducible apply areg_op); focus (simp [push_cast]; exact rfl)))
            refine areg_nil (wp_cond_f (by simp [AS.ev, AS.put]) (wp_skip' ?_))
            exact ⟨(), by unfold k3V; simp; omega, Le.mk rfl (by simp [kdS, leT, AS.put, keyA, h5]) (by simp [kdS, leH, AS.put, keyA, h5])⟩
        · by_cases h6 : kd = 6
          · have h56 : kd = 5 ∨ kd = 6 := .inr h6
            (repeat (first | (with_reducible apply areg_ng); focus (simp [AS.ev, AS.put, o5, o6, zk_len, h5, h6]; done) | (with_reducible apply areg_op); focus (simp [push_cast, o5, o6, zk_len, h5, h6]; exact rfl)))
            refine areg_eq (by simp [AS.ev, AS.put] <;> exact rfl) (by simp [AS.ev, AS.put] <;> exact rfl) e5 rfl rfl ?_
            cases zo with
            | true =>
              (repeat (first | (with_reducible apply areg_ng); focus (simp [AS.ev, AS.put]; done) | (with_reducible apply areg_op); focus (simp [push_cast]; exact rfl)))
              refine areg_nil (wp_cond_t (by simp [AS.ev, AS.put]) ?_)
              refine wp_sr (by simp [push_cast]; exact rfl) (wp_ret' ?_)
              exact finT _ false (T3 (by unfold k3V; simp; omega)) (by simp [RVal, AS.ev, AS.coe])
            | false =>
              (repeat (first | (with_reducible apply areg_ng); focus (simp [AS.ev, AS.put]; done) | (with_reducible apply areg_op); focus (simp [push_cast]; exact rfl)))
              refine areg_nil (wp_cond_f (by simp [AS.ev, AS.put]) (wp_skip' ?_))
              exact ⟨(), by unfold k3V; simp; omega, Le.mk rfl (by simp [kdS, leT, AS.put, keyA, h5, h6]) (by simp [kdS, leH, AS.put, keyA, h5, h6])⟩
          · have h56 : ¬ (kd = 5 ∨ kd = 6) := by omega
            (repeat (first | (with_reducible apply areg_ng); focus (simp [AS.ev, AS.put, o5, o6, zk_len, h5, h6]; done) | (with_reducible apply areg_op); focus (simp [push_cast, o5, o6, zk_len, h5, h6]; exact rfl)))
            refine areg_eq (by simp [AS.ev, AS.put] <;> exact rfl) (by simp [AS.ev, AS.put] <;> exact rfl) e5 rfl rfl ?_
            cases zo with
            | true =>
              (repeat (first | (with_reducible apply areg_ng); focus (simp [AS.ev, AS.put]; done) | (with_reducible apply areg_op); focus (simp [push_cast]; exact rfl)))
              refine areg_nil (wp_cond_f (by simp [AS.ev, AS.put]) (wp_skip' ?_))
              exact ⟨(), by unfold k3V; simp; omega, Le.mk rfl (by simp [kdS, leT, AS.put, keyA, h5, h6]) (by simp [kdS, leH, AS.put, keyA, h5, h6])⟩
            | false =>
              (repeat (first | (with_reducible apply areg_ng); focus (simp [AS.ev, AS.put]; done) | (with_reducible apply areg_op); focus (simp [push_cast]; exact rfl)))
              refine areg_nil (wp_cond_t (by simp [AS.ev, AS.put]) ?_)
              refine wp_sr (by simp [push_cast]; exact rfl) (wp_ret' ?_)
              exact finT _ false (T3 (by unfold k3V; simp; omega)) (by simp [RVal, AS.ev, AS.coe])
    · refine wp_seq' (wp_rg ?_)
      have T2 : k2V kd wl b → false = kindN kd pn sq wl tl zo zc b := fun h => by unfold kindN; rw [if_neg hn1, if_pos h]
      by_cases h2 : kd = 2
      · have hg : ¬ 3 < kd := by omega
        cases b with
        | true =>
          (repeat (first | (with_reducible apply areg_ng); focus (simp [AS.ev, AS.put, hpl, hwl, o5, o6, h2]; done) | (with_reducible apply areg_op); focus (simp [push_cast, hpl, hwl, o5, o6, h2]; exact rfl)))
          refine areg_nil (wp_cond_t (by simp [AS.ev, AS.put]) ?_)
          refine wp_sr (by simp [push_cast]; exact rfl) (wp_ret' ?_)
          exact finT _ false (T2 (.inl ⟨.inl h2, .inl rfl⟩)) (by simp [RVal, AS.ev, AS.coe])
        | false =>
          by_cases hw : wl = 1
          · (repeat (first | (with_reducible apply areg_ng); focus (simp [AS.ev, AS.put, hpl, hwl, o5, o6, h2, hw]; done) | (with_reducible apply areg_op); focus (simp [push_cast, hpl, hwl, o5, o6, h2, hw]; exact rfl)))
            refine areg_nil (wp_cond_f (by simp [AS.ev, AS.put]) (wp_skip' ?_))
            exact ⟨(), by unfold k2V; simp; omega, Le.mk rfl (by simp [kdS, leT, AS.put, keyA, h2]) (by simp [kdS, leH, AS.put, keyA, h2])⟩
          · (repeat (first | (with_reducible apply areg_ng); focus (simp [AS.ev, AS.put, hpl, hwl, o5, o6, h2, hw]; done) | (with_reducible apply areg_op); focus (simp [push_cast, hpl, hwl, o5, o6, h2, hw]; exact rfl)))
            refine areg_nil (wp_cond_t (by simp [AS.ev, AS.put]) ?_)
            refine wp_sr (by simp [push_cast]; exact rfl) (wp_ret' ?_)
            exact finT _ false (T2 (.inl ⟨.inl h2, .inr hw⟩)) (by simp [RVal, AS.ev, AS.coe])
      · by_cases h3 : kd = 3
        · have hg : ¬ 3 < kd := by omega
          cases b with
          | true =>
            (repeat (first | (with_reducible apply areg_ng); focus (simp [AS.ev, AS.put, hpl, hwl, o5, o6, h2, h3]; done) | (with_reducible apply areg_op); focus (simp [push_cast, hpl, hwl, o5, o6, h2, h3]; exact rfl)))
            refine areg_nil (wp_cond_t (by simp [AS.ev, AS.put]) ?_)
            refine wp_sr (by simp [push_cast]; exact rfl) (wp_ret' ?_)
            exact finT _ false (T2 (.inl ⟨.inr h3, .inl rfl⟩)) (by simp [RVal, AS.ev, AS.coe])
          | false =>
            by_cases hw : wl = 1
            · (repeat (first | (with_reducible apply areg_ng); focus (simp [AS.ev, AS.put, hpl, hwl, o5, o6, h2, h3, hw]; done) | (with_reducible apply areg_op); focus (simp [push_cast, hpl, hwl, o5, o6, h2, h3, hw]; exact rfl)))
              refine areg_nil (wp_cond_f (by simp [AS.ev, AS.put]) (wp_skip' ?_))
              exact ⟨(), by unfold k2V; simp; omega, Le.mk rfl (by simp [kdS, leT, AS.put, keyA, h2, h3]) (by simp [kdS, leH, AS.put, keyA, h2, h3])⟩
            · (repeat (first | (with_reducible apply areg_ng); focus (simp [AS.ev, AS.put, hpl, hwl, o5, o6, h2, h3, hw]; done) | (with_reducible apply areg_op); focus (simp [push_cast, hpl, hwl, o5, o6, h2, h3, hw]; exact rfl)))
              refine areg_nil (wp_cond_t (by simp [AS.ev, AS.put]) ?_)
              refine wp_sr (by simp [push_cast]; exact rfl) (wp_ret' ?_)
              exact finT _ false (T2 (.inl ⟨.inr h3, .inr hw⟩)) (by simp [RVal, AS.ev, AS.coe])
        · by_cases h4 : 3 < kd
          · by_cases hw : 0 < wl
            · (repeat (first | (with_reducible apply areg_ng); focus (simp [AS.ev, AS.put, hpl, hwl, o5, o6, h2, h3, h4, hw]; done) | (with_reducible apply areg_op); focus (simp [push_cast, hpl, hwl, o5, o6, h2, h3, h4, hw]; exact rfl)))
              refine areg_nil (wp_cond_t (by simp [AS.ev, AS.put]) ?_)
              refine wp_sr (by simp [push_cast]; exact rfl) (wp_ret' ?_)
              exact finT _ false (T2 (.inr ⟨h4, hw⟩)) (by simp [RVal, AS.ev, AS.coe])
            · (repeat (first | (with_reducible apply areg_ng); focus (simp [AS.ev, AS.put, hpl, hwl, o5, o6, h2, h3, h4, hw]; done) | (with_reducible apply areg_op); focus (simp [push_cast, hpl, hwl, o5, o6, h2, h3, h4, hw]; exact rfl)))
              refine areg_nil (wp_cond_f (by simp [AS.ev, AS.put]) (wp_skip' ?_))
              exact ⟨(), by unfold k2V; omega, Le.mk rfl (by simp [kdS, leT, AS.put, keyA, h2, h3]) (by simp [kdS, leH, AS.put, keyA, h2, h3])⟩
          · (repeat (first | (with_reducible apply areg_ng); focus (simp [AS.ev, AS.put, hpl, hwl, o5, o6, h2, h3, h4]; done) | (with_reducible apply areg_op); focus (simp [push_cast, hpl, hwl, o5, o6, h2, h3, h4]; exact rfl)))
            refine areg_nil (wp_cond_f (by simp [AS.ev, AS.put]) (wp_skip' ?_))
            exact ⟨(), by unfold k2V; omega, Le.mk rfl (by simp [kdS, leT, AS.put, keyA, h2, h3]) (by simp [kdS, leH, AS.put, keyA, h2, h3])⟩
  · subst hA
    have T1 : k1V kd pn sq b → false = kindN kd pn sq wl tl zo zc b := fun h => by unfold kindN; rw [if_pos h]
    refine wp_seq' (wp_rg ?_)
    by_cases hk : kd = 1
    · subst hk
      cases b with
      | false =>
        (repeat (first | (with_reducible apply areg_ng); focus (simp [AS.ev, AS.put, hpl, hwl, o5, o6]; done) | (with_reducible apply areg_op); focus (simp [push_cast, hpl, hwl, o5, o6]; exact rfl)))
        refine areg_nil (wp_cond_t (by simp [AS.ev, AS.put]) ?_)
        refine wp_sr (by simp [push_cast]; exact rfl) (wp_ret' ?_)
        exact finT _ false (T1 (.inl ⟨rfl, .inl rfl⟩)) (by simp [RVal, AS.ev, AS.coe])
      | true =>
        by_cases hp : 0 < pn
        · (repeat (first | (with_reducible apply areg_ng); focus (simp [AS.ev, AS.put, hpl, hwl, o5, o6, hp]; done) | (with_reducible apply areg_op); focus (simp [push_cast, hpl, hwl, o5, o6, hp]; exact rfl)))
          refine areg_nil (wp_cond_t (by simp [AS.ev, AS.put]) ?_)
          refine wp_sr (by simp [push_cast]; exact rfl) (wp_ret' ?_)
          exact finT _ false (T1 (.inl ⟨rfl, .inr (.inl hp)⟩)) (by simp [RVal, AS.ev, AS.coe])
        · by_cases hs : sq = 1
          · (repeat (first | (with_reducible apply areg_ng); focus (simp [AS.ev, AS.put, hpl, hwl, o5, o6, hp, hs]; done) | (with_reducible apply areg_op); focus (simp [push_cast, hpl, hwl, o5, o6, hp, hs]; exact rfl)))
            refine areg_nil (wp_cond_f (by simp [AS.ev, AS.put]) (wp_skip' ?_))
            exact ⟨(), by unfold k1V; simp [hs]; omega, Le.mk rfl (by simp [kdS, leT, AS.put, keyA, hs]) (by simp [kdS, leH, AS.put, keyA, hs])⟩
          · (repeat (first | (with_reducible apply areg_ng); focus (simp [AS.ev, AS.put, hpl, hwl, o5, o6, hp, hs]; done) | (with_reducible apply areg_op); focus (simp [push_cast, hpl, hwl, o5, o6, hp, hs]; exact rfl)))
            refine areg_nil (wp_cond_t (by simp [AS.ev, AS.put]) ?_)
            refine wp_sr (by simp [push_cast]; exact rfl) (wp_ret' ?_)
            exact finT _ false (T1 (.inl ⟨rfl, .inr (.inr hs)⟩)) (by simp [RVal, AS.ev, AS.coe])
    · by_cases hp : pn = 0
      · (repeat (first | (with_reducible apply areg_ng); focus (simp [AS.ev, AS.put, hpl, hwl, o5, o6, hp, hk]; done) | (with_reducible apply areg_op); focus (simp [push_cast, hpl, hwl, o5, o6, hp, hk]; exact rfl)))
        refine areg_nil (wp_cond_t (by simp [AS.ev, AS.put]) ?_)
        refine wp_sr (by simp [push_cast]; exact rfl) (wp_ret' ?_)
        exact finT _ false (T1 (.inr ⟨hk, hp⟩)) (by simp [RVal, AS.ev, AS.coe])
      · (repeat (first | (with_reducible apply areg_ng); focus (simp [AS.ev, AS.put, hpl, hwl, o5, o6, hp, hk]; done) | (with_reducible apply areg_op); focus (simp [push_cast, hpl, hwl, o5, o6, hp, hk]; exact rfl)))
        refine areg_nil (wp_cond_f (by simp [AS.ev, AS.put]) (wp_skip' ?_))
        exact ⟨(), by unfold k1V; simp [hk, hp], Le.mk rfl (by simp [kdS, leT, AS.put, keyA]) (by simp [kdS, leH, AS.put, keyA])⟩
end Go.Cab
namespace Go.Cab
open Go.RowKit
open Classical
theorem areg_nt {P : Program} {s : AS} {K : AS → Prop} {xs : List AOp} {d : Option Tmp} {t : Tmp} {b : Bool} {ai : AI} {fo : List Tmp} {ow : Option Tmp} (hg : s.ev (.tmp t) = .tup []) (h : AReg P xs (s.put d (.tup [])) K) : AReg P (⟨d, some (t, b), ai, fo, ow⟩ :: xs) s K := by
  unfold AReg AOp.go
  simp only [hg]
  exact h
theorem areg_pkT {P : Program} {s : AS} {K : AS → Prop} {xs : List AOp} {d : Option Tmp} {c x y : Operand} {fo : List Tmp} {ow : Option Tmp} (hc : s.ev c = .lit (.bool true)) (h : AReg P xs (s.put d (s.ev x)) K) : AReg P (⟨d, none, .pick c x y, fo, ow⟩ :: xs) s K := by
  unfold AReg AOp.go AOp.mine
  simp only [AI.go, hc]
  exact ⟨by cases ow <;> trivial, h⟩
theorem areg_pkF {P : Program} {s : AS} {K : AS → Prop} {xs : List AOp} {d : Option Tmp} {c x y : Operand} {fo : List Tmp} {ow : Option Tmp} (hc : s.ev c = .lit (.bool false)) (h : AReg P xs (s.put d (s.ev y)) K) : AReg P (⟨d, none, .pick c x y, fo, ow⟩ :: xs) s K := by
  unfold AReg AOp.go AOp.mine
  simp only [AI.go, hc]
  exact ⟨by cases ow <;> trivial, h⟩
theorem areg_mv {P : Program} {s : AS} {K : AS → Prop} {xs : List AOp} {d : Option Tmp} {x : Operand} {fo : List Tmp} {ow : Option Tmp} (h : AReg P xs (s.put d (s.ev x)) K) : AReg P (⟨d, none, .mov x, fo, ow⟩ :: xs) s K := by
  unfold AReg AOp.go AOp.mine
  simp only [AI.go]
  exact ⟨by cases ow <;> trivial, h⟩
def c1R (o : OpV) : Prop := memB o.author = false ∨ o.seq = 0 ∨ o.kind < 1 ∨ 7 < o.kind ∨ 8 < o.parents.length ∨ 8 < o.boxes.length ∨ 256 < o.text.length
def inB (o : OpV) : Bool := o.who.any fun x => decide (x = o.author)
theorem rightV_eq (o : OpV) : rightV o = (!decide (c1R o) && risV Go.Lib.compareBytes o.parents && (risV cmpN o.who && !o.who.any fun n => !memB n) && (risV (fun a b => cmpN a.to b.to) o.boxes && !o.boxes.any (badBox o)) && kindV o (inB o)) := by
  have e1 : (o.who.any fun x => decide (o.author = x)) = inB o := by
    unfold inB
    congr 1
    funext x
    rw [decide_eq_decide]
    exact eq_comm
  have e2 : o.who.length = 1 → (inB o = true ↔ o.who.getD 0 0 = o.author) := fun h => by
    unfold inB
    match hw : o.who, h with
    | [a], _ => simp
  unfold rightV c1V c2V c3V whoV boxesV kindV kindN k1V k2V k3V c1R
  rw [e1]
  generalize inB o = ib at *
  generalize risV Go.Lib.compareBytes o.parents = r1 at *
  generalize risV cmpN o.who = r2 at *
  generalize risV (fun a b => cmpN a.to b.to) o.boxes = r3 at *
  generalize o.boxes.any (badBox o) = b1 at *
  generalize (o.who.any fun n => !memB n) = b2 at *
  generalize o.parents.length = pn at *
  generalize o.who.length = wl at *
  generalize o.boxes.length = bn at *
  generalize o.text.length = tl at *
  generalize memB o.author = mb at *
  generalize o.who.getD 0 0 = w0 at *
  obtain ⟨au, sq, ps, kd, who, ofk, check, text, boxes⟩ := o
  simp only at *
  generalize hzo : decide (ofk = zk) = zo at *
  generalize hzc : decide (check = zk) = zc at *
  have f1 : (ofk = zk) ↔ zo = true := by rw [← hzo]; simp
  have f2 : (check = zk) ↔ zc = true := by rw [← hzc]; simp
  rw [Bool.eq_iff_iff]
  cases mb <;> cases r1 <;> cases r2 <;> cases r3 <;> cases b1 <;> cases b2 <;> simp (config := { failIfUnchanged := false }) <;> try (simp only [f1, f2]; cases zo <;> cases zc <;> cases ib <;> simp (config := { failIfUnchanged := false }) at e2 ⊢ <;> omega)
  all_goals (grind)
end Go.Cab
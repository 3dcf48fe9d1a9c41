/- Part 15 of what the proof stands on: V18, V19, KU, KO, KP, V20, V21. -/
import Derived.Test.YtbioecfkifbkbaaGreatDoorCab14
import Derived.Test.YtbioecfkifbkbaaGreatDoorCab06
import Derived.OpenShut
import Derived.Test.YtbioecfkifbkbaaGreatDoorCab10
set_option linter.unusedSimpArgs false
set_option linter.unnecessarySimpa false
set_option linter.unusedVariables false
set_option linter.unusedSectionVars false
namespace Go.Cab
open Go.RowKit
open Classical
def fb735 : AC := (.seq (.reg [⟨some 2, none, .box 1 (.tmp 0), [], none⟩, ⟨some 3, none, .box 1 (.tmp 1), [], none⟩]) (.seq (.seq (.reg [⟨some 7, none, .load true 1 (.tmp 3), [], none⟩, ⟨some 8, none, .xc (.dir 27) [.tmp 7] [] [], [], none⟩, ⟨some 4, none, .mov (.tmp 8), [], none⟩]) (.block 0 (.loop (.seq (.seq (.reg [⟨some 9, none, .mov (.tmp 4), [], none⟩, ⟨some 10, none, .faddr 0 0 (.tmp 2), [], none⟩, ⟨some 11, none, .load false 1 (.tmp 10), [], none⟩, ⟨some 12, none, .icall 28 (.tmp 11) [], [], none⟩, ⟨some 13, none, .bin .lss (.tmp 9) (.tmp 12), [], none⟩]) (.cond (.tmp 13) .skip (.exit 0))) (.seq (.block 1 (.reg [⟨some 16, none, .faddr 0 0 (.tmp 3), [], none⟩, ⟨some 17, none, .load false 1 (.tmp 16), [], (.some 3)⟩, ⟨some 18, none, .faddr 0 0 (.tmp 2), [], none⟩, ⟨some 19, none, .load false 1 (.tmp 18), [], (.some 2)⟩, ⟨some 20, none, .mov (.tmp 4), [], none⟩, ⟨some 21, none, .callv 31 [.tmp 20], [], (.some 1000000)⟩, ⟨some 22, none, .xc (.dir 30) [.tmp 19, .tmp 21] [3] [], [], none⟩, ⟨some 23, none, .xc (.dir 29) [.tmp 17, .tmp 22] [] [], [], none⟩])) (.reg [⟨some 14, none, .mov (.tmp 4), [], none⟩, ⟨some 15, none, .bin .add (.tmp 14) (.const (jn 1)), [], none⟩, ⟨some 4, none, .mov (.tmp 15), [], none⟩])))))) (.seq (.reg [⟨some 24, none, .faddr 0 0 (.tmp 2), [], none⟩, ⟨some 25, none, .load false 1 (.tmp 24), [], none⟩, ⟨some 26, none, .icall 28 (.tmp 25) [], [], none⟩, ⟨some 5, none, .mov (.tmp 26), [], none⟩]) (.block 2 (.loop (.seq (.seq (.reg [⟨some 27, none, .mov (.tmp 5), [], none⟩, ⟨some 28, none, .load true 1 (.tmp 3), [], none⟩, ⟨some 29, none, .xc (.dir 27) [.tmp 28] [] [], [], none⟩, ⟨some 30, none, .bin .lss (.tmp 27) (.tmp 29), [], none⟩]) (.cond (.tmp 30) .skip (.exit 2))) (.seq (.block 3 (.seq (.reg [⟨some 33, none, .faddr 0 0 (.tmp 3), [], none⟩, ⟨some 34, none, .load false 1 (.tmp 33), [], none⟩, ⟨some 35, none, .nilc (.tmp 34), [], none⟩, ⟨some 36, none, .faddr 0 0 (.tmp 35), [], none⟩, ⟨some 37, none, .load false 1 (.tmp 36), [], none⟩, ⟨some 38, none, .mov (.tmp 5), [], none⟩, ⟨some 39, none, .iaddrS 3 (.tmp 37) (.tmp 38), [], none⟩, ⟨some 40, none, .load true 3 (.tmp 39), [], none⟩, ⟨some 6, none, .alloc 3 (.st [1, 1, 1] [(.lit (jn 0)), (.lit (tx [])), (.lit (.slice .none 0 0))]), [], none⟩, ⟨none, none, .store 3 (.tmp 6) (.tmp 40), [], none⟩]) (.seq (.seq (.reg [⟨some 41, none, .faddr 0 0 (.tmp 6), [], none⟩, ⟨some 42, none, .load false 1 (.tmp 41), [], none⟩]) (.block 4 (.seq (.reg [⟨some 44, none, .bin .eql (.tmp 42) (.const (jn 1)), [], none⟩, ⟨some 43, none, .mov (.tmp 44), [], none⟩]) (.cond (.tmp 43) (.reg [⟨some 45, none, .faddr 0 0 (.tmp 2), [], none⟩, ⟨some 46, none, .load false 1 (.tmp 45), [], none⟩, ⟨some 47, none, .faddr 1 1 (.tmp 6), [], none⟩, ⟨some 48, none, .load false 1 (.tmp 47), [], none⟩, ⟨some 49, none, .icall 20 (.tmp 46) [.tmp 48], [], none⟩]) (.seq (.reg [⟨some 51, none, .bin .eql (.tmp 42) (.const (jn 2)), [], none⟩, ⟨some 50, none, .mov (.tmp 51), [], none⟩]) (.cond (.tmp 50) (.reg [⟨some 52, none, .faddr 0 0 (.tmp 2), [], none⟩, ⟨some 53, none, .load false 1 (.tmp 52), [], none⟩, ⟨some 54, none, .faddr 1 1 (.tmp 6), [], none⟩, ⟨some 55, none, .load false 1 (.tmp 54), [], none⟩, ⟨some 56, none, .faddr 2 2 (.tmp 6), [], none⟩, ⟨some 57, none, .load false 1 (.tmp 56), [], none⟩, ⟨some 58, none, .icall 32 (.tmp 53) [.tmp 55, .tmp 57], [], none⟩]) (.seq (.reg [⟨some 60, none, .bin .eql (.tmp 42) (.const (jn 3)), [], none⟩, ⟨some 59, none, .mov (.tmp 60), [], none⟩]) (.cond (.tmp 59) (.reg [⟨some 61, none, .faddr 0 0 (.tmp 2), [], none⟩, ⟨some 62, none, .load false 1 (.tmp 61), [], none⟩, ⟨some 63, none, .faddr 2 2 (.tmp 6), [], none⟩, ⟨some 64, none, .load false 1 (.tmp 63), [], (.some 6)⟩, ⟨some 65, none, .iaddrS 32 (.tmp 64) (.const (jn 0)), [], (.some 1000000)⟩, ⟨some 66, none, .load true 32 (.tmp 65), [], none⟩, ⟨some 67, none, .xc (.dir 33) [.tmp 62, .tmp 66] [] [], [], none⟩]) (.seq (.reg [⟨some 69, none, .bin .eql (.tmp 42) (.const (jn 4)), [], none⟩, ⟨some 68, none, .mov (.tmp 69), [], none⟩]) (.cond (.tmp 68) (.reg [⟨some 70, none, .load true 1 (.tmp 2), [], none⟩, ⟨some 71, none, .faddr 2 2 (.tmp 6), [], none⟩, ⟨some 72, none, .load false 1 (.tmp 71), [], (.some 6)⟩, ⟨some 73, none, .iaddrS 32 (.tmp 72) (.const (jn 0)), [], (.some 1000000)⟩, ⟨some 74, none, .load true 32 (.tmp 73), [], none⟩, ⟨some 75, none, .faddr 2 2 (.tmp 6), [], none⟩, ⟨some 76, none, .load false 1 (.tmp 75), [], (.some 6)⟩, ⟨some 77, none, .iaddrS 32 (.tmp 76) (.const (jn 1)), [], (.some 1000000)⟩, ⟨some 78, none, .load true 32 (.tmp 77), [], none⟩, ⟨some 79, none, .xc (.dir 34) [.tmp 70, .tmp 74, .tmp 78] [] [], [], none⟩]) (.seq (.reg [⟨some 81, none, .bin .eql (.tmp 42) (.const (jn 5)), [], none⟩, ⟨some 80, none, .mov (.tmp 81), [], none⟩]) (.cond (.tmp 80) (.reg [⟨some 82, none, .faddr 0 0 (.tmp 2), [], none⟩, ⟨some 83, none, .load false 1 (.tmp 82), [], none⟩, ⟨some 84, none, .faddr 2 2 (.tmp 6), [], none⟩, ⟨some 85, none, .load false 1 (.tmp 84), [], (.some 6)⟩, ⟨some 86, none, .iaddrS 32 (.tmp 85) (.const (jn 0)), [], (.some 1000000)⟩, ⟨some 87, none, .load true 32 (.tmp 86), [], none⟩, ⟨some 88, none, .faddr 2 2 (.tmp 6), [], none⟩, ⟨some 89, none, .load false 1 (.tmp 88), [], (.some 6)⟩, ⟨some 90, none, .iaddrS 32 (.tmp 89) (.const (jn 1)), [], (.some 1000000)⟩, ⟨some 91, none, .load true 32 (.tmp 90), [], none⟩, ⟨some 92, none, .xc (.dir 35) [.tmp 83, .tmp 87, .tmp 91] [] [], [], none⟩]) (.seq (.reg [⟨some 94, none, .bin .eql (.tmp 42) (.const (jn 6)), [], none⟩, ⟨some 93, none, .mov (.tmp 94), [], none⟩]) (.cond (.tmp 93) (.reg [⟨some 95, none, .faddr 0 0 (.tmp 2), [], none⟩, ⟨some 96, none, .load false 1 (.tmp 95), [], none⟩, ⟨some 97, none, .faddr 2 2 (.tmp 6), [], none⟩, ⟨some 98, none, .load false 1 (.tmp 97), [], (.some 6)⟩, ⟨some 99, none, .iaddrS 32 (.tmp 98) (.const (jn 0)), [], (.some 1000000)⟩, ⟨some 100, none, .load true 32 (.tmp 99), [], none⟩, ⟨some 101, none, .faddr 2 2 (.tmp 6), [], none⟩, ⟨some 102, none, .load false 1 (.tmp 101), [], (.some 6)⟩, ⟨some 103, none, .iaddrS 32 (.tmp 102) (.const (jn 1)), [], (.some 1000000)⟩, ⟨some 104, none, .load true 32 (.tmp 103), [], none⟩, ⟨some 105, none, .faddr 1 1 (.tmp 6), [], none⟩, ⟨some 106, none, .load false 1 (.tmp 105), [], none⟩, ⟨some 107, none, .faddr 2 2 (.tmp 6), [], none⟩, ⟨some 108, none, .load false 1 (.tmp 107), [], (.some 6)⟩, ⟨some 109, none, .rdp (.sslice 32 true false) [(.tmp 108), (.const (jn 2))], [], none⟩, ⟨some 110, none, .xc (.dir 16) [.tmp 96, .tmp 100, .tmp 104, .tmp 106, .tmp 109] [] [], [], none⟩]) .skip)))))))))))))) (.seq (.reg [⟨some 111, none, .faddr 0 0 (.tmp 2), [], none⟩, ⟨some 112, none, .load false 1 (.tmp 111), [], none⟩, ⟨some 113, none, .icall 28 (.tmp 112) [], [], none⟩, ⟨some 114, none, .mov (.tmp 5), [], none⟩, ⟨some 115, none, .bin .leq (.tmp 113) (.tmp 114), [], none⟩]) (.cond (.tmp 115) .ret .skip))))) (.reg [⟨some 31, none, .mov (.tmp 5), [], none⟩, ⟨some 32, none, .bin .add (.tmp 31) (.const (jn 1)), [], none⟩, ⟨some 5, none, .mov (.tmp 32), [], none⟩]))))))))
def fc735 : FC := ⟨2, 116, [], fb735⟩
theorem fc735_eq : compF Go.Proofs.Tryz.prog 10 = some fc735 := by kernel_rfl
attribute [local irreducible] AReg
structure Two2 (H : List (Option Blk)) (t : Tb) (V : Value) (ts : List Term) (u : Rt) (U1 U2 : Value) (us : List Term) : Prop where
  p : TbOk H t V ts
  r : RtOk H u U1 U2 us
  bb : t.b ≠ u.b
  bj : t.b ≠ u.j
  bm : t.b ≠ u.m
  jb : t.j ≠ u.b
  jj : t.j ≠ u.j
  jm : t.j ≠ u.m
  mb : t.m ≠ u.b
  mj : t.m ≠ u.j
  mm : t.m ≠ u.m
def pF (H : List (Option Blk)) (t : Tb) (u : Rt) (i : List Term × List Term) (x : Value × Value × Value) : List (Option Blk) := rtOf (tbOf H t x.1 i.1) u x.2.1 x.2.2 i.2
section
variable {H : List (Option Blk)} {t : Tb} {V U1 U2 : Value} {u : Rt} {ts us : List Term}
theorem pF_len (i : List Term × List Term) (x : Value × Value × Value) : (pF H t u i x).length = H.length := by unfold pF; rw [rtOf_len, tbOf_len]
theorem tb_rt (h : Two2 H t V ts u U1 U2 us) (V' : Value) (ts' : List Term) : RtOk (tbOf H t V' ts') u U1 U2 us := by
  have hr := h.r
  refine ⟨hr.bj, hr.bm, hr.jm, ?_, ?_, ?_⟩
  · rw [h.p.other _ _ h.bb.symm h.jb.symm h.mb.symm]; exact hr.hb
  · rw [h.p.other _ _ h.bj.symm h.jj.symm h.mj.symm]; exact hr.hj
  · rw [h.p.other _ _ h.bm.symm h.jm.symm h.mm.symm]; exact hr.hm
theorem rt_comm (h : Two2 H t V ts u U1 U2 us) (G : List (Option Blk)) (V' U1' U2' : Value) (ts' us' : List Term) : tbOf (rtOf G u U1' U2' us') t V' ts' = rtOf (tbOf G t V' ts') u U1' U2' us' := by
  unfold rtOf tbOf
  have c1 := h.bb; have c2 := h.bj; have c3 := h.bm; have c4 := h.jb; have c5 := h.jj; have c6 := h.jm; have c7 := h.mb; have c8 := h.mj; have c9 := h.mm
  rw [List.set_comm _ _ c3.symm, List.set_comm _ _ c2.symm, List.set_comm _ _ c1.symm, List.set_comm _ _ c6.symm, List.set_comm _ _ c5.symm, List.set_comm _ _ c4.symm, List.set_comm _ _ c9.symm, List.set_comm _ _ c8.symm, List.set_comm _ _ c7.symm]
theorem rt_tb (h : Two2 H t V ts u U1 U2 us) (U1' U2' : Value) (us' : List Term) : TbOk (rtOf H u U1' U2' us') t V ts := by
  have hp := h.p
  have k : ∀ c, c ≠ u.b → c ≠ u.j → c ≠ u.m → (rtOf H u U1' U2' us')[c]? = H[c]? := fun c a b d => by
    unfold rtOf
    rw [List.getElem?_set_ne d.symm, List.getElem?_set_ne b.symm, List.getElem?_set_ne a.symm]
  exact ⟨hp.bj, hp.bm, hp.jm, by rw [k _ h.bb h.bj h.bm]; exact hp.hb, by rw [k _ h.jb h.jj h.jm]; exact hp.hj, by rw [k _ h.mb h.mj h.mm]; exact hp.hm⟩
theorem GC.ofP {P : Program} {f : FuncId} {vs : List AV} {r : AV} {ts1 ts2 us1 : List Term} (h : Two2 H t V ts u U1 U2 us)
    (hc : ∀ H V, TbOk H t V ts1 → XCall P f vs H fun r' H' => r' = r ∧ ∃ V', H' = tbOf H t V' ts2) : GC P f vs (pF H t u) (ts1, us1) r (ts2, us1) := fun x L => by
  have e : ∀ V' ts', tbOf (rtOf H u x.2.1 x.2.2 us1) t V' ts' = pF H t u (ts', us1) (V', x.2) := fun V' ts' => rt_comm h H V' _ _ ts' us1
  have hk := rt_tb h x.2.1 x.2.2 us1
  have hat := hk.at x.1 ts1 L
  rw [e x.1 ts1] at hat
  refine XCall.mono (hc _ x.1 hat) ?_
  rintro r' H' ⟨h1, V', h2⟩
  refine ⟨h1, (V', x.2), ?_⟩
  rw [h2]
  have := hk.at_of x.1 V' ts1 ts2 L
  rw [e x.1 ts1, e V' ts2] at this
  exact this
theorem GC.ofR2 {P : Program} {f : FuncId} {vs : List AV} {r : AV} {ts1 us1 us2 : List Term} (h : Two2 H t V ts u U1 U2 us)
    (hc : ∀ H V U, RtOk H u V U us1 → XCall P f vs H fun r' H' => r' = r ∧ ∃ V' U', H' = rtOf H u V' U' us2) : GC P f vs (pF H t u) (ts1, us1) r (ts1, us2) := fun x L => by
  have hk := tb_rt h x.1 ts1
  refine XCall.mono (hc _ x.2.1 x.2.2 (hk.at x.2.1 x.2.2 us1 L)) ?_
  rintro r' H' ⟨h1, V', U', h2⟩
  exact ⟨h1, (x.1, V', U'), by rw [h2]; exact hk.at_of _ _ _ _ _ _ _⟩
end
end Go.Cab
namespace Go.Cab
open Go.RowKit
open Classical
attribute [local irreducible] AReg
section
variable {H : List (Option Blk)} {t : Tb} {V U1 U2 : Value} {u : Rt} {ts us : List Term}
theorem len_pk (h : Two2 H t V ts u U1 U2 us) {ts1 us1 : List Term} (hn : ts1.length < 100000) : GC Go.Proofs.Tryz.prog 28 [.ptr t.b t.l 0 []] (pF H t u) (ts1, us1) (.lit (jn ts1.length)) (ts1, us1) :=
  GC.ofP h fun H V k => XCall.mono (len_call k hn) fun r H' ⟨h1, h2⟩ => ⟨h1, V, by rw [h2, k.self]⟩
theorem rlen_pk (h : Two2 H t V ts u U1 U2 us) {ts1 us1 : List Term} (hn : us1.length < 100000) : GC Go.Proofs.Tryz.prog 27 [kitA u.b u.l] (pF H t u) (ts1, us1) (.lit (jn us1.length)) (ts1, us1) :=
  GC.ofR2 h fun H V U k => XCall.mono (rlen_call k hn) fun r H' ⟨h1, h2⟩ => ⟨h1, V, U, by rw [h2, k.self]⟩
theorem look_pk (h : Two2 H t V ts u U1 U2 us) {ts1 us1 : List Term} (hok : ∀ y ∈ ts1, TermOk y) (hn : ts1.length < 100000) {k : List UInt8} (hk : k.length = 32) : GC Go.Proofs.Tryz.prog 30 [.ptr t.b t.l 0 [], keyA k] (pF H t u) (ts1, us1) (termA (lookV ts1 k)) (ts1, us1) :=
  GC.ofP h fun H V q => XCall.mono (look_call q hok hn hk) fun r H' ⟨h1, h2⟩ => ⟨h1, V, by rw [h2, q.self]⟩
theorem add_pk (h : Two2 H t V ts u U1 U2 us) {ts1 us1 : List Term} (hn : us1.length < 100000) (x : Term) (hx : TermOk x) : GC Go.Proofs.Tryz.prog 29 [.ptr u.b u.l 0 [], termA x] (pF H t u) (ts1, us1) (.tup []) (ts1, us1 ++ [x]) :=
  GC.ofR2 h fun H V U k => add_call k hn x hx
theorem lookV_name {ts : List Term} {i : Nat} {x : Term} (hx : ts[i]? = some x) (h : i < 4294967296) : lookV ts (nameK i) = x := by
  unfold lookV
  rw [be32_name h]
  have hi := (List.getElem?_eq_some_iff.1 hx).1
  rw [if_neg (by simp; omega), List.getD, hx]
  rfl
def syS (H : List (Option Blk)) (t : Tb) (u : Rt) (N : Nat) (l2 l3 : Nat × Nat) (i : List Term × List Term) (x : Value × Value × Value) (a : AV) : AS :=
  ⟨N, [.any, .any, .ptr (N + 2) l2 0 [], .ptr (N + 3) l3 0 [], a] ++ List.replicate 111 .any, pF H t u i x ++ ([none, none, some (.box l2 1 (freeS t.b t.l)), some (.box l3 1 (kitA u.b u.l))] ++ List.replicate 112 none)⟩
set_option maxRecDepth 20000 in
set_option maxHeartbeats 16000000 in
theorem sync_call (h : Two2 H t V ts u U1 U2 us) (hok : ∀ y ∈ ts, TermOk y) (hn : ts.length < 90000) {m : Nat} (hm : m ≤ ts.length) (hus : us = ts.take m) :
    XCall Go.Proofs.Tryz.prog 10 [freeS t.b t.l, kitA u.b u.l] H fun r H' => r = .tup [] ∧ ∃ x, H' = pF H t u (ts, ts) x := by
  have h735 := fc735_eq
  refine XCall.le ?_
  have hself : H = pF H t u (ts, us) (V, U1, U2) := by unfold pF; rw [h.p.self, h.r.self]
  have G1 : ∀ i x, (pF H t u i x).length = H.length := fun i x => pF_len i x
  refine XCall.of h735 rfl ?_; show AC.wp _ fb735 ⟨H.length, [freeS t.b t.l, kitA u.b u.l] ++ List.replicate (116 - 2) .any, H ++ List.replicate 116 none⟩ (fun x s => match x with | .exit _ => False | _ => ∃ s1, Le s s1 ∧ FinX [] s1 _); unfold fb735
  have hst : ∀ L, H ++ L = pF H t u (ts, us) (V, U1, U2) ++ L := fun L => by rw [← hself]
  rw [hst]
  generalize hN : H.length = N at *
  have g1 : ∀ i y L k, (pF H t u i y ++ L)[N + k]? = L[k]? := fun i y L k => cat1 N _ L k (G1 i y)
  have g2 : ∀ i y L k z, (pF H t u i y ++ L).set (N + k) z = pF H t u i y ++ L.set k z := fun i y L k z => cat2 N _ L k z (G1 i y)
  have hul : us.length = m := by rw [hus]; simp; omega
  refine wp_sg (areg_bx rfl (by simp [AS.ev, freeS, AV.sz]) fun l2 => areg_bx rfl (by simp [AS.ev, AS.put, kitA, AV.sz]) fun l3 => areg_end (by simp [push_cast, g2]; exact rfl) ?_)
  refine wp_seqM (fun x : Value × Value × Value => syS H t u N l2 l3 (ts, ts) x .any) (fun _ => True) (fun x _ => ?_) ?_
  · unfold syS freeS kitA
    have cl := len_pk h (ts1 := ts) (us1 := ts) (by omega)
    have cr := rlen_pk h (ts1 := ts) (us1 := ts) (by omega)
    unfold kitA at cr
    refine wp_sg ?_
    refine areg_run 2 (by simp [push_cast, g1]; exact rfl) ?_
    refine areg_gi cl (by simp [AS.ev, AS.put]) fun x1 => areg_end (by simp [push_cast]; exact rfl) ?_
    refine wp_block' (wp_loopN 1 (loopN_succ ?_))
    refine wp_seq' (wp_sg ?_)
    refine areg_run 2 (by simp [push_cast, g1]; exact rfl) ?_
    refine areg_gk [.st [1] [.ptr u.b u.l 0 []]] G1 (by simp [AS.ev, AS.put]) (tgt_dir (by kernel_rfl) _) cr (by simp) (by simp) fun x2 => ?_
    refine areg_end (by simp [push_cast]; exact rfl) ?_
    refine wp_cond_f (by simp [AS.ev]) (wp_exit' (if_hit rfl ?_))
    exact ⟨_, Le.refl _, [], .tup [], ⟨[], rfl, rfl, by simp⟩, .tup [], _, RelLe.refl _, by simp, HpLe.trim _ _, rfl, x2, rfl⟩
  · refine wp_sg ?_
    refine areg_run 1 (by simp [push_cast, g1, kitA]; exact rfl) ?_
    refine areg_gk [kitA u.b u.l] G1 (by simp [AS.ev, AS.put, kitA]) (tgt_dir (by kernel_rfl) _) (rlen_pk h (by omega)) (by simp) (by simp) fun x0 => ?_
    refine areg_end (by simp [push_cast]; exact rfl) ?_
    refine wp_block' (wp_loop_m (fun y : Nat × Value × Value × Value => syS H t u N l2 l3 (ts, ts.take y.1) y.2 (.lit (jn y.1))) (fun y => ts.length - y.1) (fun y => y.1 ≤ ts.length) (m, x0) (by rw [hul, hus]; exact Le.cat (by simp [syS, leT]) (by simp [syS, leH, freeS, kitA])) hm ?_)
    rintro ⟨i, x⟩ hi
    simp only at hi ⊢
    have cl := len_pk h (ts1 := ts) (us1 := ts.take i) (by omega)
    unfold syS freeS kitA
    refine wp_seq' (wp_sg ?_)
    refine areg_run 3 (by simp [push_cast, g1]; exact rfl) ?_
    refine areg_gi cl (by simp [AS.ev, AS.put]) fun x1 => ?_
    by_cases hlt : i < ts.length
    · refine areg_end (by simp [push_cast, hlt]; exact rfl) ?_
      refine wp_cond_t (by simp [AS.ev]) (wp_skip' ?_)
      obtain ⟨z, hz⟩ : ∃ z, ts[i]? = some z := ⟨_, List.getElem?_eq_getElem hlt⟩
      have hzo := hok z (List.mem_of_getElem? hz)
      have cn := nameR_call i (by omega)
      have nl := nameK_len i
      have cL := look_pk h (us1 := ts.take i) hok (by omega) nl
      rw [lookV_name hz (by omega)] at cL
      have cA := add_pk h (ts1 := ts) (us1 := ts.take i) (by simp; omega) z hzo
      have htk : ts.take (i + 1) = ts.take i ++ [z] := by rw [List.take_add_one, hz]; rfl
      have q1 : i + 1 < 9223372036854775808 := by omega
      refine wp_seq' (wp_block' (wp_rg ?_))
      refine areg_run 5 (by simp [push_cast, g1]; exact rfl) ?_
      refine areg_cv (by simp [AS.ev, AS.coe, AS.put] <;> exact rfl) cn ?_ (by intro p hp b V; simp at hp; subst hp; simp [AS.ev, AS.put])
      refine areg_gk [.ptr t.b t.l 0 [], keyA (nameK i)] G1 (by simp [AS.ev, AS.put]) (tgt_dir (by kernel_rfl) _) cL (by simp) (by simp [AS.ev, AS.put, AV.place]) fun x2 => ?_
      refine areg_gk [.ptr u.b u.l 0 [], termA z] G1 (by simp [AS.ev, AS.put]) (tgt_dir (by kernel_rfl) _) cA (by simp) (by simp) fun x3 => ?_
      refine areg_nil ?_
      refine wp_r (by simp [push_cast, q1]; exact rfl) ?_
      exact ⟨(i + 1, x3), by simp only; omega, by simp only; omega, by simp only [htk]; exact Le.cat (by simp [leT]) (by simp [leH])⟩
    · have : i = ts.length := by omega
      subst this
      refine areg_end (by simp [push_cast]; exact rfl) ?_
      refine wp_cond_f (by simp [AS.ev]) (wp_exit' (if_hit rfl ?_))
      refine ⟨x1, trivial, ?_⟩
      exact Le.cat (by simp [leT]) (by simp [leH])
end
end Go.Cab
namespace Go.Cab
open Go.ChangeShapes Go.WideShapes Go.RowKit Go.ChangeAt
section
variable {H : Type} {enc : TypeId × Value → H} {P : Program} {W : World} {base : Nat} {sp : Nat → Bool} {held : Bool}
theorem open_texts {t e : TypeId} (ht : P.underlying t = some (.slice e)) (he : P.underlying e = some .string) (h1 : P.cellsOf e = 1)
    {r : Reach} {b0 : Nat} {v : Value} (hval : Value.okWide P W r b0 t v) {d : DataW H} {ps : List MemPlace} (hd : DataW.Trod enc P W base sp held t v d ps) :
    ∃ bs : List (List UInt8), bs.length < 9223372036854775808 ∧ (∀ s ∈ bs, s.length < 9223372036854775808) ∧ Rel (StOf W ps) W (.sl 1 (bs.map fun s => .lit (tx s))) v := by
  obtain ⟨vs, g1, g2⟩ := open_sl ht h1 (fun u => ∃ n : {n : List UInt8 // n.length < 9223372036854775808}, u = .lit (tx n.1)) (fun n cs x hx hl => by
    obtain ⟨s, hc, hy, hs⟩ := DataW.trod_string he hx
    subst hc
    refine ⟨_, ⟨⟨s.data.toList, ?_⟩, rfl⟩, .lit _ rfl, fun y hy => by simp at hy; rw [hy]; rfl⟩
    have e : s.data.toList.length = s.size := by rw [Array.length_toList]; rfl
    rw [e]
    unfold maxLen at hs
    omega) hval hd
  obtain ⟨ks, rfl⟩ := map_of_each (f := fun n : {n : List UInt8 // n.length < 9223372036854775808} => AV.lit (tx n.1)) g1
  refine ⟨ks.map (·.1), ?_, fun n hn => ?_, by rw [List.map_map]; exact g2⟩
  · rcases R.slLen g2 with ⟨_, _, h⟩ | ⟨b, off, cap, cs, hv, hl, _⟩
    · rw [List.length_map, List.map_eq_nil_iff.1 h]; simp
    · subst hv
      simp only [Value.okWide, Cell.okWide, Cell.ok, ht] at hval
      obtain ⟨h2, h3, _⟩ := hval
      rw [List.length_map] at h2 ⊢
      simp [IntKind.max, IntKind.signed, IntKind.bits] at h3
      omega
  · obtain ⟨a, _, rfl⟩ := List.mem_map.1 hn
    exact a.2
end
end Go.Cab
namespace Go.Cab
open Go.ChangeShapes Go.WideShapes Go.RowKit Go.ChangeAt
section
variable {H : Type} {enc : TypeId × Value → H} {P : Program} {W : World} {base : Nat} {held : Bool}
def Opens (enc : TypeId × Value → H) (P : Program) (W : World) (base : Nat) (held : Bool) (t : TypeId) (c : Nat) (G : AV → Prop) : Prop :=
  P.cellsOf t = c ∧ ∀ (n : Nat) (cs : List Value) (x : DataW H × List MemPlace), DataW.trod enc P W base (fun _ => true) held n t cs = some x →
    ∃ v, G v ∧ R (StOf W x.2) W v cs ∧ cs.length = c ∧ ∀ y ∈ cs, sc y = true
theorem Opens.mono {t : TypeId} {c : Nat} {G G' : AV → Prop} (h : Opens enc P W base held t c G) (k : ∀ v, G v → G' v) : Opens enc P W base held t c G' :=
  ⟨h.1, fun n cs x hx => by obtain ⟨v, h1, h2⟩ := h.2 n cs x hx; exact ⟨v, k v h1, h2⟩⟩
theorem Opens.int {t : TypeId} {k : IntKind} (ht : P.underlying t = some (.int k)) (hc : P.cellsOf t = 1) : Opens enc P W base held t 1 fun v => ∃ n : Int, (Lit.int k n).wf = true ∧ v = .lit (.int k n) :=
  ⟨hc, fun n cs x hx => by
    obtain ⟨a, rfl, _, wa⟩ := DataW.trod_int ht hx
    exact ⟨_, ⟨a, wa, rfl⟩, .lit _ rfl, rfl, fun y hy => by simp at hy; rw [hy]; rfl⟩⟩
theorem Opens.bool {t : TypeId} (ht : P.underlying t = some .bool) (hc : P.cellsOf t = 1) : Opens enc P W base held t 1 fun v => ∃ b : Bool, v = .lit (.bool b) :=
  ⟨hc, fun n cs x hx => by
    obtain ⟨a, rfl, _⟩ := DataW.trod_bool ht hx
    exact ⟨_, ⟨a, rfl⟩, .lit _ rfl, rfl, fun y hy => by simp at hy; rw [hy]; rfl⟩⟩
theorem Opens.text {t : TypeId} (ht : P.underlying t = some .string) (hc : P.cellsOf t = 1) : Opens enc P W base held t 1 fun v => ∃ s : List UInt8, s.length < 9223372036854775808 ∧ v = .lit (tx s) :=
  ⟨hc, fun n cs x hx => by
    obtain ⟨s, rfl, _, hs⟩ := DataW.trod_string ht hx
    refine ⟨_, ⟨s.data.toList, ?_, rfl⟩, .lit _ rfl, rfl, fun y hy => by simp at hy; rw [hy]; rfl⟩
    have e : s.data.toList.length = s.size := by rw [Array.length_toList]; rfl
    rw [e]
    unfold maxLen at hs
    omega⟩
theorem stOf_sub {ps qs : List MemPlace} (h : ∀ p ∈ ps, p ∈ qs) {v : AV} {cs : List Value} (k : R (StOf W ps) W v cs) : R (StOf W qs) W v cs :=
  k.mono (fun _ _ hb => ⟨h _ hb.1, hb.2⟩) (fun _ _ _ => rfl)
theorem Opens.arr {t e : TypeId} {n c : Nat} {G : AV → Prop} (ht : P.underlying t = some (.array n e)) (hc : P.cellsOf t = n * c) (he : Opens enc P W base held e c G) :
    Opens enc P W base held t (n * c) fun v => ∃ vs : List AV, vs.length = n ∧ (∀ u ∈ vs, G u) ∧ v = .arr c vs := by
  refine ⟨hc, fun N cs x hx => ?_⟩
  obtain ⟨xs, m, _, rfl, hl, hxl, hel⟩ := DataW.trod_array ht hx
  rw [hc] at hl
  rw [he.1] at hel
  have key : ∀ q, q ≤ n → ∃ vs : List AV, vs.length = q ∧ (∀ u ∈ vs, G u) ∧ R (StOf W (xs.flatMap (·.2))) W (.arr c vs) (cs.drop ((n - q) * c)) ∧ ∀ y ∈ cs.drop ((n - q) * c), sc y = true := by
    intro q
    induction q with
    | zero => 
      intro _
      have e : cs.drop ((n - 0) * c) = [] := List.drop_eq_nil_of_le (by rw [hl]; exact Nat.le_refl _)
      rw [e]
      exact ⟨[], rfl, by simp, .arr0 c, by simp⟩
    | succ q ih =>
      intro hq
      obtain ⟨vs, g1, g2, g3, g4⟩ := ih (by omega)
      have hi : n - (q + 1) < n := by omega
      have h1 := hel _ hi
      rw [List.getElem?_eq_getElem (by omega)] at h1
      obtain ⟨u, u1, u2, u3, u4⟩ := he.2 _ _ _ h1
      have e1 : n - q = (n - (q + 1)) + 1 := by omega
      have e2 : cs.drop ((n - (q + 1)) * c) = (cs.drop ((n - (q + 1)) * c)).take c ++ cs.drop ((n - q) * c) := by
        rw [e1, Nat.succ_mul, ← List.drop_drop, List.take_append_drop]
      rw [e2]
      refine ⟨u :: vs, by simp [g1], fun y hy => ?_, .arr1 c u vs _ _ (stOf_sub (fun p hp => List.mem_flatMap.2 ⟨_, List.getElem_mem _, hp⟩) u2) u3 u4 g3, fun y hy => ?_⟩
      · rcases List.mem_cons.1 hy with rfl | hy
        · exact u1
        · exact g2 y hy
      · rcases List.mem_append.1 hy with hy | hy
        · exact u4 y hy
        · exact g4 y hy
  obtain ⟨vs, g1, g2, g3, g4⟩ := key n (Nat.le_refl _)
  rw [Nat.sub_self, Nat.zero_mul, List.drop_zero] at g3 g4
  exact ⟨_, ⟨vs, g1, g2, rfl⟩, g3, hl, g4⟩
theorem Opens.list {t e : TypeId} {c : Nat} {G : AV → Prop} (ht : P.underlying t = some (.slice e)) (hc : P.cellsOf t = 1) (h0 : 0 < c) (he : Opens enc P W base held e c G) :
    Opens enc P W base held t 1 fun v => ∃ vs : List AV, vs.length < 9223372036854775808 ∧ (∀ u ∈ vs, G u) ∧ v = .sl c vs := by
  refine ⟨hc, fun N cs x hx => ?_⟩
  rcases Go.Deep.open_slice ht hx with ⟨rfl, rfl⟩ | ⟨a, len, cap, m, n, D, Pl, rfl, _, hle, hcm, hm, rfl, hall⟩
  · exact ⟨_, ⟨[], by simp, by simp, rfl⟩, .slnil c, rfl, fun y hy => by simp at hy; rw [hy]; rfl⟩
  · simp only [if_true] at hm
    subst hm
    by_cases hcap : m = 0
    · subst hcap
      have : len = 0 := by omega
      subst this
      exact ⟨_, ⟨[], by simp, by simp, rfl⟩, .slnil c (some a), rfl, fun y hy => by simp at hy; rw [hy]; rfl⟩
    have hspot : a.spot = none := by
      obtain ⟨cs', k1, _⟩ := hall 0 (by omega)
      obtain ⟨_, hl', hget⟩ := World.cells?_some k1
      rw [he.1] at hl' hget
      have h1 := hget 0 h0
      rw [List.getElem?_eq_getElem (by omega)] at h1
      unfold World.cell? at h1
      split at h1
      · split at h1
        · cases h1
        · rename_i hs
          rw [Go.Deep.add_add, Nat.zero_mul] at hs
          unfold Addr.add at hs
          simpa using hs
      · cases h1
    rw [he.1] at hall
    have key : ∀ q, q ≤ len → ∃ (vs : List AV) (cs : List Value), (∀ u ∈ vs, G u) ∧ vs.length = q ∧ cs.length = q * c ∧ R (StOf W (MemPlace.row a (m * c) ++ (List.range m).flatMap Pl)) W (.arr c vs) cs ∧ At (StOf W (MemPlace.row a (m * c) ++ (List.range m).flatMap Pl)) W a.block (a.off + (len - q) * c) cs := by
      intro q
      induction q with
      | zero => exact fun _ => ⟨[], [], by simp, rfl, by simp, .arr0 c, fun i v hv => by simp at hv⟩
      | succ q ih =>
        intro hq
        obtain ⟨vs, cs, g1, g2, g3, g4, g5⟩ := ih (by omega)
        have hi : len - (q + 1) < m := by omega
        obtain ⟨cs', k1, k2⟩ := hall (len - (q + 1)) hi
        obtain ⟨_, hl', hget⟩ := World.cells?_some k1
        obtain ⟨u, u1, u2, _, u3⟩ := he.2 n cs' _ k2
        refine ⟨u :: vs, cs' ++ cs, ?_, by simp [g2], by rw [List.length_append, hl', g3, Nat.succ_mul]; omega, .arr1 c u vs cs' cs (stOf_sub (fun p hp => List.mem_append_right _ (List.mem_flatMap.2 ⟨_, List.mem_range.2 hi, hp⟩)) u2) hl' u3 g4, At.app ?_ ?_⟩
        · intro x hx
          rcases List.mem_cons.1 hx with rfl | hx
          · exact u1
          · exact g1 x hx
        · intro j y hy
          have hj : j < c := by rw [← hl']; exact (List.getElem?_eq_some_iff.1 hy).1
          have h3 := hget j hj
          rw [Go.Deep.add_add] at h3
          have e1 : a.add ((len - (q + 1)) * c + j) = ⟨a.block, a.off + (len - (q + 1)) * c + j, none⟩ := by
            unfold Addr.add
            split
            · rename_i h0
              obtain ⟨b, o, s⟩ := a
              simp only at hspot ⊢
              rw [hspot]; congr 1; omega
            · rw [Nat.add_assoc]
          rw [e1] at h3
          refine ⟨by rw [h3]; exact hy, ?_, by rw [h3, hy]; rfl⟩
          refine List.mem_append_left _ (MemPlace.mem_row.2 ⟨(len - (q + 1)) * c + j, ?_, by rw [Nat.add_assoc]⟩)
          have := Nat.mul_le_mul_right c (show len - (q + 1) + 1 ≤ m by omega)
          rw [Nat.succ_mul] at this
          omega
        · rw [hl']
          have e2 : a.off + (len - (q + 1)) * c + c = a.off + (len - q) * c := by
            have e3 : len - q = (len - (q + 1)) + 1 := by omega
            rw [e3, Nat.succ_mul]; omega
          rw [e2]
          exact g5
    obtain ⟨vs, cs, g1, g2, g3, g4, g5⟩ := key len (Nat.le_refl _)
    rw [Nat.sub_self, Nat.zero_mul, Nat.add_zero] at g5
    have ea : a = ⟨a.block, a.off, none⟩ := by obtain ⟨b, o, s⟩ := a; simp only at hspot; rw [hspot]
    refine ⟨_, ⟨vs, by unfold maxLen at hcm; omega, g1, rfl⟩, ?_, rfl, fun y hy => by simp at hy; rw [hy]; rfl⟩
    have := R.sl (Imm := StOf W (MemPlace.row a (m * c) ++ (List.range m).flatMap Pl)) (w := W) c vs cs a.block a.off m g4 g5 (by omega)
    rw [g2, ← ea] at this
    rw [he.1]
    exact this
def FieldsOk (enc : TypeId × Value → H) (P : Program) (W : World) (base : Nat) (held : Bool) : List Field → Nat → List (Nat × (AV → Prop)) → Prop
  | [], _, [] => True
  | f :: fs, o, l :: ls => f.offset = o ∧ Opens enc P W base held f.type l.1 l.2 ∧ FieldsOk enc P W base held fs (o + l.1) ls
  | _, _, _ => False
def FG : List (Nat × (AV → Prop)) → List AV → Prop
  | [], [] => True
  | l :: ls, v :: vs => l.2 v ∧ FG ls vs
  | _, _ => False
theorem fields_open {n : Nat} {cs : List Value} : ∀ (fs : List Field) (o : Nat) (ls : List (Nat × (AV → Prop))) (xs : List (DataW H × List MemPlace)), FieldsOk enc P W base held fs o ls → xs.length = fs.length →
    (∀ (i : Nat) (f : Field), fs[i]? = some f → DataW.trod enc P W base (fun _ => true) held n f.type ((cs.drop f.offset).take (P.cellsOf f.type)) = xs[i]?) →
    ∃ vs, FG ls vs ∧ R (StOf W (xs.flatMap (·.2))) W (.st (ls.map (·.1)) vs) ((cs.drop o).take (ls.map (·.1)).sum) ∧ ∀ y ∈ (cs.drop o).take (ls.map (·.1)).sum, sc y = true
  | [], o, [], xs, _, _, _ => ⟨[], trivial, by simpa using R.st0, by simp⟩
  | [], _, _ :: _, _, h, _, _ => h.elim
  | _ :: _, _, [], _, h, _, _ => h.elim
  | f :: fs, o, l :: ls, [], _, h, _ => by simp at h
  | f :: fs, o, l :: ls, x :: xs, ⟨h1, h2, h3⟩, hl, hx => by
    obtain ⟨vs, g1, g2, g3⟩ := fields_open fs (o + l.1) ls xs h3 (by simpa using hl) (fun i f' hf => hx (i + 1) f' hf)
    have h4 := hx 0 f rfl
    rw [h1, h2.1] at h4
    obtain ⟨v, u1, u2, u3, u4⟩ := h2.2 _ _ _ h4
    have e : (cs.drop o).take ((l :: ls).map (·.1)).sum = (cs.drop o).take l.1 ++ (cs.drop (o + l.1)).take (ls.map (·.1)).sum := by
      rw [List.map_cons, List.sum_cons, List.take_add, List.drop_drop]
    rw [e]
    refine ⟨v :: vs, ⟨u1, g1⟩, .st1 l.1 _ v vs _ _ (stOf_sub (fun p hp => List.mem_append_left _ hp) u2) u3 u4 (stOf_sub (fun p hp => List.mem_append_right _ hp) g2), fun y hy => ?_⟩
    rcases List.mem_append.1 hy with hy | hy
    · exact u4 y hy
    · exact g3 y hy
theorem Opens.struct {t : TypeId} {fs : Array Field} {c : Nat} {ls : List (Nat × (AV → Prop))} (ht : P.underlying t = some (.struct fs)) (hc : P.cellsOf t = c) (hs : (ls.map (·.1)).sum = c) (hF : FieldsOk enc P W base held fs.toList 0 ls) :
    Opens enc P W base held t c fun v => ∃ vs, FG ls vs ∧ v = .st (ls.map (·.1)) vs := by
  refine ⟨hc, fun N cs x hx => ?_⟩
  obtain ⟨xs, n, _, rfl, hl, hxl, hel⟩ := DataW.trod_struct ht hx
  obtain ⟨vs, g1, g2, g3⟩ := fields_open (n := n) (cs := cs) fs.toList 0 ls xs hF (by simpa using hxl) (fun i f hf => hel i f (by simpa using hf))
  have e : (cs.drop 0).take (ls.map (·.1)).sum = cs := by rw [List.drop_zero, hs, List.take_of_length_le (by omega)]
  rw [e] at g2 g3
  exact ⟨_, ⟨vs, g1, rfl⟩, g2, by omega, g3⟩
theorem Opens.agg {t : TypeId} {c : Nat} {G : AV → Prop} (h : Opens enc P W base held t c G) (hG : ∀ v, G v → v.isAgg = true) {r : Reach} {b0 : Nat} {v : Value} (hval : Value.okWide P W r b0 t v)
    (hu : (∃ fs, P.underlying t = some (.struct fs)) ∨ ∃ n e, P.underlying t = some (.array n e)) {d : DataW H} {ps : List MemPlace} (hd : DataW.Trod enc P W base (fun _ => true) held t v d ps) :
    ∃ u, G u ∧ Rel (StOf W ps) W u v := by
  obtain ⟨fuel, hf⟩ := hd
  obtain ⟨u, h1, h2, _⟩ := h.2 _ _ _ hf
  obtain ⟨cs, rfl⟩ : ∃ cs, v = .agg cs := by
    unfold Value.okWide at hval
    rcases hu with ⟨fs, hu⟩ | ⟨n, e, hu⟩ <;> rw [hu] at hval <;> obtain ⟨cs, rfl, _⟩ := hval <;> exact ⟨cs, rfl⟩
  refine ⟨u, h1, .inr ⟨_, h2, ?_⟩⟩
  have hg := hG u h1
  cases u <;> simp [AV.isAgg] at hg <;> rfl
theorem Opens.slice {t e : TypeId} {c : Nat} {G : AV → Prop} (h : Opens enc P W base held t 1 fun v => ∃ vs : List AV, vs.length < 9223372036854775808 ∧ (∀ u ∈ vs, G u) ∧ v = .sl c vs) (ht : P.underlying t = some (.slice e)) {r : Reach} {b0 : Nat} {v : Value} (hval : Value.okWide P W r b0 t v)
    {d : DataW H} {ps : List MemPlace} (hd : DataW.Trod enc P W base (fun _ => true) held t v d ps) :
    ∃ vs : List AV, vs.length < 9223372036854775808 ∧ (∀ u ∈ vs, G u) ∧ Rel (StOf W ps) W (.sl c vs) v := by
  obtain ⟨fuel, hf⟩ := hd
  obtain ⟨_, ⟨vs, h0, h1, rfl⟩, h2, _⟩ := h.2 _ _ _ hf
  have hv : (∃ a len cap, v = .slice a len cap) := by
    cases v <;> simp [Value.okWide, Cell.okWide, Cell.ok, ht] at hval ⊢
  obtain ⟨a0, len0, cap0, rfl⟩ := hv
  exact ⟨vs, h0, h1, .inr ⟨_, h2, rfl⟩⟩
end
section
variable {H : Type} {enc : TypeId × Value → H} {P : Program} {W : World}
theorem trodAll_five {t0 t1 t2 t3 t4 : TypeId} {args : Array Value} {ds : List (DataW H)} {ps : List MemPlace} {base : Nat} {spare : Nat → Bool} {held : Bool} (h : DataW.TrodAll enc P W base spare held [t0, t1, t2, t3, t4] args.toList ds ps) :
    ∃ v0 v1 v2 v3 v4 d0 d1 d2 d3 d4 p0 p1 p2 p3 p4, args = #[v0, v1, v2, v3, v4] ∧ ds = [d0, d1, d2, d3, d4] ∧ ps = p0 ++ p1 ++ p2 ++ p3 ++ p4 ∧ DataW.Trod enc P W base spare held t0 v0 d0 p0 ∧ DataW.Trod enc P W base spare held t1 v1 d1 p1 ∧ DataW.Trod enc P W base spare held t2 v2 d2 p2 ∧ DataW.Trod enc P W base spare held t3 v3 d3 p3 ∧ DataW.Trod enc P W base spare held t4 v4 d4 p4 := by
  obtain ⟨v0, vs0, d0, ds0, p0, q0, hargs, rfl, rfl, hd0, hr0⟩ := trodAll_cons h
  obtain ⟨v1, vs1, d1, ds1, p1, q1, rfl, rfl, rfl, hd1, hr1⟩ := trodAll_cons hr0
  obtain ⟨v2, vs2, d2, ds2, p2, q2, rfl, rfl, rfl, hd2, hr2⟩ := trodAll_cons hr1
  obtain ⟨v3, vs3, d3, ds3, p3, q3, rfl, rfl, rfl, hd3, hr3⟩ := trodAll_cons hr2
  obtain ⟨v4, vs4, d4, ds4, p4, q4, rfl, rfl, rfl, hd4, hr4⟩ := trodAll_cons hr3
  obtain ⟨rfl, rfl, rfl⟩ := trodAll_nil hr4
  exact ⟨v0, v1, v2, v3, v4, d0, d1, d2, d3, d4, p0, p1, p2, p3, p4, by cases args; simp_all, rfl, by simp, hd0, hd1, hd2, hd3, hd4⟩
theorem trodAll_mk5 {t0 t1 t2 t3 t4 : TypeId} {v0 v1 v2 v3 v4 : Value} {d0 d1 d2 d3 d4 : DataW H} {p0 p1 p2 p3 p4 : List MemPlace} {base : Nat} {spare : Nat → Bool} {held : Bool} (h0 : DataW.Trod enc P W base spare held t0 v0 d0 p0) (h1 : DataW.Trod enc P W base spare held t1 v1 d1 p1) (h2 : DataW.Trod enc P W base spare held t2 v2 d2 p2) (h3 : DataW.Trod enc P W base spare held t3 v3 d3 p3) (h4 : DataW.Trod enc P W base spare held t4 v4 d4 p4) : DataW.TrodAll enc P W base spare held [t0, t1, t2, t3, t4] [v0, v1, v2, v3, v4] [d0, d1, d2, d3, d4] (p0 ++ (p1 ++ (p2 ++ (p3 ++ (p4))))) := trodAll_cons_mk h0 (trodAll_mk4 h1 h2 h3 h4)
theorem trodAll_six {t0 t1 t2 t3 t4 t5 : TypeId} {args : Array Value} {ds : List (DataW H)} {ps : List MemPlace} {base : Nat} {spare : Nat → Bool} {held : Bool} (h : DataW.TrodAll enc P W base spare held [t0, t1, t2, t3, t4, t5] args.toList ds ps) :
    ∃ v0 v1 v2 v3 v4 v5 d0 d1 d2 d3 d4 d5 p0 p1 p2 p3 p4 p5, args = #[v0, v1, v2, v3, v4, v5] ∧ ds = [d0, d1, d2, d3, d4, d5] ∧ ps = p0 ++ p1 ++ p2 ++ p3 ++ p4 ++ p5 ∧ DataW.Trod enc P W base spare held t0 v0 d0 p0 ∧ DataW.Trod enc P W base spare held t1 v1 d1 p1 ∧ DataW.Trod enc P W base spare held t2 v2 d2 p2 ∧ DataW.Trod enc P W base spare held t3 v3 d3 p3 ∧ DataW.Trod enc P W base spare held t4 v4 d4 p4 ∧ DataW.Trod enc P W base spare held t5 v5 d5 p5 := by
  obtain ⟨v0, vs0, d0, ds0, p0, q0, hargs, rfl, rfl, hd0, hr0⟩ := trodAll_cons h
  obtain ⟨v1, vs1, d1, ds1, p1, q1, rfl, rfl, rfl, hd1, hr1⟩ := trodAll_cons hr0
  obtain ⟨v2, vs2, d2, ds2, p2, q2, rfl, rfl, rfl, hd2, hr2⟩ := trodAll_cons hr1
  obtain ⟨v3, vs3, d3, ds3, p3, q3, rfl, rfl, rfl, hd3, hr3⟩ := trodAll_cons hr2
  obtain ⟨v4, vs4, d4, ds4, p4, q4, rfl, rfl, rfl, hd4, hr4⟩ := trodAll_cons hr3
  obtain ⟨v5, vs5, d5, ds5, p5, q5, rfl, rfl, rfl, hd5, hr5⟩ := trodAll_cons hr4
  obtain ⟨rfl, rfl, rfl⟩ := trodAll_nil hr5
  exact ⟨v0, v1, v2, v3, v4, v5, d0, d1, d2, d3, d4, d5, p0, p1, p2, p3, p4, p5, by cases args; simp_all, rfl, by simp, hd0, hd1, hd2, hd3, hd4, hd5⟩
theorem trodAll_mk6 {t0 t1 t2 t3 t4 t5 : TypeId} {v0 v1 v2 v3 v4 v5 : Value} {d0 d1 d2 d3 d4 d5 : DataW H} {p0 p1 p2 p3 p4 p5 : List MemPlace} {base : Nat} {spare : Nat → Bool} {held : Bool} (h0 : DataW.Trod enc P W base spare held t0 v0 d0 p0) (h1 : DataW.Trod enc P W base spare held t1 v1 d1 p1) (h2 : DataW.Trod enc P W base spare held t2 v2 d2 p2) (h3 : DataW.Trod enc P W base spare held t3 v3 d3 p3) (h4 : DataW.Trod enc P W base spare held t4 v4 d4 p4) (h5 : DataW.Trod enc P W base spare held t5 v5 d5 p5) : DataW.TrodAll enc P W base spare held [t0, t1, t2, t3, t4, t5] [v0, v1, v2, v3, v4, v5] [d0, d1, d2, d3, d4, d5] (p0 ++ (p1 ++ (p2 ++ (p3 ++ (p4 ++ (p5)))))) := trodAll_cons_mk h0 (trodAll_mk5 h1 h2 h3 h4 h5)
end
end Go.Cab
namespace Go.Cab
open Go.ChangeShapes Go.WideShapes Go.RowKit Go.ChangeAt
def I64 (n : Int) : Prop := -9223372036854775808 ≤ n ∧ n < 9223372036854775808
theorem map_of_G {α : Type} {p : α → Prop} {f : α → AV} : ∀ {vs : List AV}, (∀ u ∈ vs, ∃ a, p a ∧ u = f a) → ∃ l : List α, (∀ a ∈ l, p a) ∧ l.length = vs.length ∧ vs = l.map f
  | [], _ => ⟨[], by simp, rfl, rfl⟩
  | u :: vs, h => by
    obtain ⟨a, ha, rfl⟩ := h u (by simp)
    obtain ⟨l, h1, h2, h3⟩ := map_of_G (vs := vs) (fun x hx => h x (List.mem_cons_of_mem _ hx))
    refine ⟨a :: l, fun x hx => ?_, by simp [h2], by rw [h3]; rfl⟩
    rcases List.mem_cons.1 hx with rfl | hx
    · exact ha
    · exact h1 x hx
theorem FG.cons {l : Nat × (AV → Prop)} {ls : List (Nat × (AV → Prop))} {vs : List AV} (h : FG (l :: ls) vs) : ∃ v vs', vs = v :: vs' ∧ l.2 v ∧ FG ls vs' := by
  cases vs with
  | nil => exact h.elim
  | cons v vs => exact ⟨v, vs, rfl, h.1, h.2⟩
theorem FG.nil {vs : List AV} (h : FG [] vs) : vs = [] := by
  cases vs with
  | nil => rfl
  | cons v vs => exact h.elim
structure RatW (r : Rat) : Prop where
  key : r.key.length = 32
  chain : r.chain.length = 32
structure WaitW (w : WaitV) : Prop where
  of_ : w.of_.length = 32
  key : w.key.length = 32
  who : -9223372036854775808 ≤ w.who ∧ w.who ≤ 9223372036854775807
structure OpRaw (o : OpV) : Prop where
  seq : o.seq < 4294967296
  parents : o.parents.length < 9223372036854775808
  p32 : ∀ k ∈ o.parents, k.length = 32
  who : o.who.length < 9223372036854775808
  ofk : o.ofk.length = 32
  check : o.check.length = 32
  text : o.text.length < 9223372036854775808
  boxes : o.boxes.length < 9223372036854775808
  bok : ∀ b ∈ o.boxes, BoxOk b ∧ b.body.length < 9223372036854775808
structure Ty (P : Program) : Prop where
  u5 : P.underlying 5 = some (.int .u8)
  c5 : P.cellsOf 5 = 1
  u3 : P.underlying 3 = some (.int .i64)
  c3 : P.cellsOf 3 = 1
  u4 : P.underlying 4 = some .bool
  c4 : P.cellsOf 4 = 1
  u9 : P.underlying 9 = some .string
  c9 : P.cellsOf 9 = 1
  u30 : P.underlying 30 = some (.int .u32)
  c30 : P.cellsOf 30 = 1
  u23 : P.underlying 23 = some (.array 32 5)
  c23 : P.cellsOf 23 = 32
  u25 : P.underlying 25 = some (.struct #[⟨"Known", 4, 0, false, "", "", 0⟩, ⟨"Lost", 4, 1, false, "", "", 1⟩, ⟨"Key", 23, 2, false, "", "", 2⟩, ⟨"Chain", 23, 34, false, "", "", 34⟩])
  c25 : P.cellsOf 25 = 66
  u89 : P.underlying 89 = some (.struct #[⟨"Of", 23, 0, false, "", "", 0⟩, ⟨"Who", 3, 32, false, "", "", 32⟩, ⟨"Key", 23, 33, false, "", "", 40⟩])
  c89 : P.cellsOf 89 = 65
  u26 : P.underlying 26 = some (.array 8 25)
  c26 : P.cellsOf 26 = 528
  u27 : P.underlying 27 = some (.slice 89)
  c27 : P.cellsOf 27 = 1
  u29 : P.underlying 29 = some (.struct #[⟨"Ratchets", 26, 0, false, "", "", 0⟩, ⟨"Waits", 27, 528, false, "", "", 528⟩])
  c29 : P.cellsOf 29 = 529
  u96 : P.underlying 96 = some (.struct #[⟨"Pub", 23, 0, false, "", "", 0⟩, ⟨"N", 30, 32, false, "", "", 32⟩, ⟨"Prev", 30, 33, false, "", "", 36⟩])
  c96 : P.cellsOf 96 = 34
  u98 : P.underlying 98 = some (.struct #[⟨"To", 3, 0, false, "", "", 0⟩, ⟨"Head", 96, 1, false, "", "", 8⟩, ⟨"Body", 9, 35, false, "", "", 48⟩])
  c98 : P.cellsOf 98 = 36
  u31 : P.underlying 31 = some (.slice 23)
  c31 : P.cellsOf 31 = 1
  u32 : P.underlying 32 = some (.slice 3)
  c32 : P.cellsOf 32 = 1
  u33 : P.underlying 33 = some (.slice 98)
  c33 : P.cellsOf 33 = 1
  u35 : P.underlying 35 = some (.struct #[⟨"Author", 3, 0, false, "", "", 0⟩, ⟨"Seq", 30, 1, false, "", "", 8⟩, ⟨"Parents", 31, 2, false, "", "", 16⟩, ⟨"Kind", 3, 3, false, "", "", 40⟩, ⟨"Who", 32, 4, false, "", "", 48⟩, ⟨"Of", 23, 5, false, "", "", 72⟩, ⟨"Check", 23, 37, false, "", "", 104⟩, ⟨"Text", 9, 69, false, "", "", 136⟩, ⟨"Boxes", 33, 70, false, "", "", 152⟩])
  c35 : P.cellsOf 35 = 71
section
variable {H : Type} {enc : TypeId × Value → H} {P : Program} {W : World} {base : Nat} {held : Bool}
theorem kp_u8 (T : Ty P) : Opens enc P W base held 5 1 fun v => ∃ b : UInt8, v = .lit (bn b.toNat) :=
  (Opens.int T.u5 T.c5).mono fun v h => by
    obtain ⟨n, hn, e⟩ := h
    simp [Lit.wf, IntKind.min, IntKind.max, IntKind.signed, IntKind.bits] at hn
    refine ⟨UInt8.ofNat n.toNat, ?_⟩
    subst e
    have : (UInt8.ofNat n.toNat).toNat = n.toNat := by rw [UInt8.toNat_ofNat']; omega
    rw [this]
    unfold bn
    rw [Int.toNat_of_nonneg (by omega)]
theorem kp_int (T : Ty P) : Opens enc P W base held 3 1 fun v => ∃ n : Int, I64 n ∧ v = .lit (ji n) :=
  (Opens.int T.u3 T.c3).mono fun v h => by
    obtain ⟨n, hn, e⟩ := h
    simp [Lit.wf, IntKind.min, IntKind.max, IntKind.signed, IntKind.bits] at hn
    exact ⟨n, by unfold I64; omega, e⟩
theorem kp_u32 (T : Ty P) : Opens enc P W base held 30 1 fun v => ∃ n : Nat, n < 4294967296 ∧ v = .lit (wn n) :=
  (Opens.int T.u30 T.c30).mono fun v h => by
    obtain ⟨n, hn, e⟩ := h
    simp [Lit.wf, IntKind.min, IntKind.max, IntKind.signed, IntKind.bits] at hn
    refine ⟨n.toNat, by omega, ?_⟩
    rw [e]
    unfold wn
    rw [Int.toNat_of_nonneg (by omega)]
theorem kp_bool (T : Ty P) : Opens enc P W base held 4 1 fun v => ∃ b : Bool, v = .lit (.bool b) := Opens.bool T.u4 T.c4
theorem kp_text (T : Ty P) : Opens enc P W base held 9 1 fun v => ∃ s : List UInt8, s.length < 9223372036854775808 ∧ v = .lit (tx s) := Opens.text T.u9 T.c9
theorem kp_key (T : Ty P) : Opens enc P W base held 23 32 fun v => ∃ k : List UInt8, k.length = 32 ∧ v = keyA k :=
  (Opens.arr (n := 32) (c := 1) T.u23 T.c23 (kp_u8 T)).mono fun v h => by
    obtain ⟨vs, h1, h2, e⟩ := h
    obtain ⟨l, _, g2, g3⟩ := map_of_G (p := fun _ => True) (f := fun b : UInt8 => AV.lit (bn b.toNat)) fun u hu => by obtain ⟨b, e⟩ := h2 u hu; exact ⟨b, trivial, e⟩
    exact ⟨l, by omega, by rw [e, g3]; rfl⟩
theorem kp_rat (T : Ty P) : Opens enc P W base held 25 66 fun v => ∃ r : Rat, RatW r ∧ v = ratA r :=
  (Opens.struct (ls := [(1, _), (1, _), (32, _), (32, _)]) T.u25 T.c25 rfl ⟨rfl, kp_bool T, rfl, kp_bool T, rfl, kp_key T, rfl, kp_key T, trivial⟩).mono fun v h => by
    obtain ⟨vs, h, e⟩ := h
    obtain ⟨_, vs, rfl, ⟨b, e1⟩, h⟩ := h.cons
    obtain ⟨_, vs, rfl, ⟨c, e2⟩, h⟩ := h.cons
    obtain ⟨_, vs, rfl, ⟨k, hk, e3⟩, h⟩ := h.cons
    obtain ⟨_, vs, rfl, ⟨l, hl, e4⟩, h⟩ := h.cons
    obtain rfl := h.nil
    subst e1 e2 e3 e4
    exact ⟨⟨b, c, k, l⟩, ⟨hk, hl⟩, e⟩
theorem kp_wait (T : Ty P) : Opens enc P W base held 89 65 fun v => ∃ x : WaitV, WaitW x ∧ v = waitA x :=
  (Opens.struct (ls := [(32, _), (1, _), (32, _)]) T.u89 T.c89 rfl ⟨rfl, kp_key T, rfl, kp_int T, rfl, kp_key T, trivial⟩).mono fun v h => by
    obtain ⟨vs, h, e⟩ := h
    obtain ⟨_, vs, rfl, ⟨k, hk, e1⟩, h⟩ := h.cons
    obtain ⟨_, vs, rfl, ⟨n, hn, e2⟩, h⟩ := h.cons
    obtain ⟨_, vs, rfl, ⟨l, hl, e3⟩, h⟩ := h.cons
    obtain rfl := h.nil
    subst e1 e2 e3
    exact ⟨⟨k, n, l⟩, ⟨hk, hl, by unfold I64 at hn; show _ ≤ n ∧ n ≤ _; omega⟩, e⟩
theorem kp_rats (T : Ty P) : Opens enc P W base held 26 528 fun v => ∃ vs : List AV, vs.length = 8 ∧ (∀ u ∈ vs, ∃ r : Rat, RatW r ∧ u = ratA r) ∧ v = .arr 66 vs := Opens.arr (n := 8) (c := 66) T.u26 T.c26 (kp_rat T)
theorem kp_waits (T : Ty P) : Opens enc P W base held 27 1 fun v => ∃ vs : List AV, vs.length < 9223372036854775808 ∧ (∀ u ∈ vs, ∃ x : WaitV, WaitW x ∧ u = waitA x) ∧ v = .sl 65 vs := Opens.list (c := 65) T.u27 T.c27 (by decide) (kp_wait T)
theorem kp_keys (T : Ty P) : Opens enc P W base held 29 529 fun v => ∃ (rs : List Rat) (ws : List WaitV), (rs.length = 8 ∧ (∀ r ∈ rs, RatW r) ∧ ws.length < 9223372036854775808 ∧ ∀ x ∈ ws, WaitW x) ∧ v = keysA rs (ws.map waitA) :=
  (Opens.struct (ls := [(528, _), (1, _)]) T.u29 T.c29 rfl ⟨rfl, kp_rats T, rfl, kp_waits T, trivial⟩).mono fun v h => by
    obtain ⟨vs, h, e⟩ := h
    obtain ⟨_, vs, rfl, ⟨rv, r1, r2, e1⟩, h⟩ := h.cons
    obtain ⟨_, vs, rfl, ⟨wv, w0, w1, e2⟩, h⟩ := h.cons
    obtain rfl := h.nil
    subst e1 e2
    obtain ⟨rs, g1, g2, rfl⟩ := map_of_G r2
    obtain ⟨ws, k1, k2, rfl⟩ := map_of_G w1
    exact ⟨rs, ws, ⟨by omega, g1, by omega, k1⟩, e⟩
theorem kp_head (T : Ty P) : Opens enc P W base held 96 34 fun v => ∃ (p : List UInt8) (n m : Nat), (p.length = 32 ∧ n < 4294967296 ∧ m < 4294967296) ∧ v = .st [32, 1, 1] [keyA p, .lit (wn n), .lit (wn m)] :=
  (Opens.struct (ls := [(32, _), (1, _), (1, _)]) T.u96 T.c96 rfl ⟨rfl, kp_key T, rfl, kp_u32 T, rfl, kp_u32 T, trivial⟩).mono fun v h => by
    obtain ⟨vs, h, e⟩ := h
    obtain ⟨_, vs, rfl, ⟨k, hk, e1⟩, h⟩ := h.cons
    obtain ⟨_, vs, rfl, ⟨n, hn, e2⟩, h⟩ := h.cons
    obtain ⟨_, vs, rfl, ⟨m, hm, e3⟩, h⟩ := h.cons
    obtain rfl := h.nil
    subst e1 e2 e3
    exact ⟨k, n, m, ⟨hk, hn, hm⟩, e⟩
theorem kp_box (T : Ty P) : Opens enc P W base held 98 36 fun v => ∃ b : BoxV, (BoxOk b ∧ b.body.length < 9223372036854775808) ∧ v = boxA b :=
  (Opens.struct (ls := [(1, _), (34, _), (1, _)]) T.u98 T.c98 rfl ⟨rfl, kp_int T, rfl, kp_head T, rfl, kp_text T, trivial⟩).mono fun v h => by
    obtain ⟨vs, h, e⟩ := h
    obtain ⟨_, vs, rfl, ⟨t, _, e1⟩, h⟩ := h.cons
    obtain ⟨_, vs, rfl, ⟨p, n, m, ⟨hp, hn, hm⟩, e2⟩, h⟩ := h.cons
    obtain ⟨_, vs, rfl, ⟨s, hs, e3⟩, h⟩ := h.cons
    obtain rfl := h.nil
    subst e1 e2 e3
    exact ⟨⟨t, p, n, m, s⟩, ⟨⟨hp, hn, hm⟩, hs⟩, e⟩
theorem kp_klist (T : Ty P) : Opens enc P W base held 31 1 fun v => ∃ vs : List AV, vs.length < 9223372036854775808 ∧ (∀ u ∈ vs, ∃ k : List UInt8, k.length = 32 ∧ u = keyA k) ∧ v = .sl 32 vs := Opens.list (c := 32) T.u31 T.c31 (by decide) (kp_key T)
theorem kp_ilist (T : Ty P) : Opens enc P W base held 32 1 fun v => ∃ vs : List AV, vs.length < 9223372036854775808 ∧ (∀ u ∈ vs, ∃ n : Int, I64 n ∧ u = .lit (ji n)) ∧ v = .sl 1 vs := Opens.list (c := 1) T.u32 T.c32 (by decide) (kp_int T)
theorem kp_blist (T : Ty P) : Opens enc P W base held 33 1 fun v => ∃ vs : List AV, vs.length < 9223372036854775808 ∧ (∀ u ∈ vs, ∃ b : BoxV, (BoxOk b ∧ b.body.length < 9223372036854775808) ∧ u = boxA b) ∧ v = .sl 36 vs := Opens.list (c := 36) T.u33 T.c33 (by decide) (kp_box T)
theorem kp_op (T : Ty P) : Opens enc P W base held 35 71 fun v => ∃ o : OpV, OpRaw o ∧ v = opA o :=
  (Opens.struct (ls := [(1, _), (1, _), (1, _), (1, _), (1, _), (32, _), (32, _), (1, _), (1, _)]) T.u35 T.c35 rfl
    ⟨rfl, kp_int T, rfl, kp_u32 T, rfl, kp_klist T, rfl, kp_int T, rfl, kp_ilist T, rfl, kp_key T, rfl, kp_key T, rfl, kp_text T, rfl, kp_blist T, trivial⟩).mono fun v h => by
    obtain ⟨vs, h, e⟩ := h
    obtain ⟨_, vs, rfl, ⟨a, _, e1⟩, h⟩ := h.cons
    obtain ⟨_, vs, rfl, ⟨s, hs, e2⟩, h⟩ := h.cons
    obtain ⟨_, vs, rfl, ⟨pv, p0, p1, e3⟩, h⟩ := h.cons
    obtain ⟨_, vs, rfl, ⟨k, _, e4⟩, h⟩ := h.cons
    obtain ⟨_, vs, rfl, ⟨wv, w0, w1, e5⟩, h⟩ := h.cons
    obtain ⟨_, vs, rfl, ⟨of_, ho, e6⟩, h⟩ := h.cons
    obtain ⟨_, vs, rfl, ⟨ck, hc, e7⟩, h⟩ := h.cons
    obtain ⟨_, vs, rfl, ⟨tx', ht, e8⟩, h⟩ := h.cons
    obtain ⟨_, vs, rfl, ⟨bv, b0, b1, e9⟩, h⟩ := h.cons
    obtain rfl := h.nil
    subst e1 e2 e3 e4 e5 e6 e7 e8 e9
    obtain ⟨ps, g1, g2, rfl⟩ := map_of_G p1
    obtain ⟨ws, k1, k2, rfl⟩ := map_of_G w1
    obtain ⟨bs, l1, l2, rfl⟩ := map_of_G b1
    exact ⟨⟨a, s, ps, k, ws, of_, ck, tx', bs⟩, ⟨hs, by simpa using p0, g1, by simpa using w0, ho, hc, ht, by simpa using b0, l1⟩, e⟩
variable {r : Reach} {b0 : Nat} {v : Value} {d : DataW H} {ps : List MemPlace}
theorem op_arg (T : Ty P) (hval : Value.okWide P W r b0 35 v) (hd : DataW.Trod enc P W base (fun _ => true) held 35 v d ps) : ∃ o : OpV, OpRaw o ∧ Rel (StOf W ps) W (opA o) v := by
  obtain ⟨u, ⟨o, h, rfl⟩, hr⟩ := (kp_op T).agg (fun u ⟨o, _, e⟩ => by rw [e]; rfl) hval (.inl ⟨_, T.u35⟩) hd
  exact ⟨o, h, hr⟩
theorem keys_arg (T : Ty P) (hval : Value.okWide P W r b0 29 v) (hd : DataW.Trod enc P W base (fun _ => true) held 29 v d ps) : ∃ (rs : List Rat) (ws : List WaitV), (rs.length = 8 ∧ (∀ r ∈ rs, RatW r) ∧ ws.length < 9223372036854775808 ∧ ∀ x ∈ ws, WaitW x) ∧ Rel (StOf W ps) W (keysA rs (ws.map waitA)) v := by
  obtain ⟨u, ⟨rs, ws, h, rfl⟩, hr⟩ := (kp_keys T).agg (fun u ⟨_, _, _, e⟩ => by rw [e]; rfl) hval (.inl ⟨_, T.u29⟩) hd
  exact ⟨rs, ws, h, hr⟩
theorem key_arg (T : Ty P) (hval : Value.okWide P W r b0 23 v) (hd : DataW.Trod enc P W base (fun _ => true) held 23 v d ps) : ∃ k : List UInt8, k.length = 32 ∧ Rel (StOf W ps) W (keyA k) v := by
  obtain ⟨u, ⟨k, h, rfl⟩, hr⟩ := (kp_key T).agg (fun u ⟨_, _, e⟩ => by rw [e]; rfl) hval (.inr ⟨32, 5, T.u23⟩) hd
  exact ⟨k, h, hr⟩
theorem klist_arg (T : Ty P) (hval : Value.okWide P W r b0 31 v) (hd : DataW.Trod enc P W base (fun _ => true) held 31 v d ps) : ∃ ks : List (List UInt8), ks.length < 9223372036854775808 ∧ (∀ k ∈ ks, k.length = 32) ∧ Rel (StOf W ps) W (.sl 32 (klA ks)) v := by
  obtain ⟨vs, h0, h1, hr⟩ := (kp_klist T).slice T.u31 hval hd
  obtain ⟨ks, g1, g2, rfl⟩ := map_of_G h1
  exact ⟨ks, by omega, g1, hr⟩
end
theorem ty_try : Ty Go.Proofs.Tryz.prog := ⟨by kernel_rfl, by kernel_rfl, by kernel_rfl, by kernel_rfl, by kernel_rfl, by kernel_rfl, by kernel_rfl, by kernel_rfl, by kernel_rfl, by kernel_rfl, by kernel_rfl, by kernel_rfl, by kernel_rfl, by kernel_rfl, by kernel_rfl, by kernel_rfl, by kernel_rfl, by kernel_rfl, by kernel_rfl, by kernel_rfl, by kernel_rfl, by kernel_rfl, by kernel_rfl, by kernel_rfl, by kernel_rfl, by kernel_rfl, by kernel_rfl, by kernel_rfl, by kernel_rfl, by kernel_rfl, by kernel_rfl, by kernel_rfl, by kernel_rfl, by kernel_rfl⟩
end Go.Cab
namespace Go.Cab
open Go.RowKit
open Classical
attribute [local irreducible] AReg
theorem msgV_again (it : Int → List UInt8) (ts : List Term) {o : OpV} (c s : List UInt8) (hr : rightV (bindO o) = true) :
    msgV it (msgV it ts o c s).2 o c s = ((msgV it ts o c s).1, (msgV it ts o c s).2) := by
  obtain ⟨a1, a2, a3⟩ := nextV_nm ts c
  obtain ⟨b1, b2⟩ := byV_nm (it := it) (ts := (nextV ts c).2) hr
  have hmv : msgV it ts o c s = (nameK (putN (byV it (nextV ts c).2 (bindO o)).2 (sealT (nextV ts c).1.1 (byV it (nextV ts c).2 (bindO o)).1 s)), putT (byV it (nextV ts c).2 (bindO o)).2 (sealT (nextV ts c).1.1 (byV it (nextV ts c).2 (bindO o)).1 s)) := rfl
  rw [hmv]
  generalize byV it (nextV ts c).2 (bindO o) = bv at *
  obtain ⟨bk, t2⟩ := bv
  simp only at b1 b2 ⊢
  generalize (nextV ts c).2 = t1 at *
  generalize (nextV ts c).1.1 = k1 at *
  generalize (nextV ts c).1.2 = k2 at *
  have c1 := Nm.put t2 (sealT k1 bk s)
  have c2 := put_pre t2 (sealT k1 bk s)
  have e1 := nextV_again ((a1.mono b2).mono c2) ((a2.mono b2).mono c2)
  have e2 := byV_again (it := it) (o := bindO o) hr (b1.mono c2)
  unfold msgV
  rw [e1]
  simp only
  rw [e2]
  simp only
  rw [c1.putN, c1.putT]
theorem bind_ok {o : OpV} (ho : OpOk o) : OpOk (bindO o) := ⟨ho.seq, ho.parents, ho.p32, ho.who, ho.ofk, ho.check, by simp [bindO, txX], ho.boxes, ho.bok⟩
theorem num_ok {o : OpV} (ho : OpOk o) (h : rightV o = true) : ∀ n ∈ numsV o, ∃ m : Nat, n = (m : Int) ∧ m < 4294967296 := by
  obtain ⟨kd, au, hr⟩ := rightN_of h
  intro n hn
  simp only [numsV, List.mem_cons] at hn
  rcases hn with rfl | rfl | rfl | hn
  · exact ⟨kd, hr.kind, by have := hr.k8; omega⟩
  · exact ⟨au, hr.author, by have := hr.a8; omega⟩
  · exact ⟨_, rfl, ho.seq⟩
  · obtain ⟨m, h1, h2⟩ := hr.who n hn
    exact ⟨m, h1, by omega⟩
theorem num_it {o : OpV} (ho : OpOk o) (h : rightV o = true) : (∀ n ∈ numsV o, PCall Go.Proofs.Tryz.prog 67 [.lit (ji n)] (.val (.lit (tx (Go.Lib.itoa n))))) ∧ ∀ n ∈ numsV o, (Go.Lib.itoa n).length ≤ 30 := by
  refine ⟨fun n hn => ?_, fun n hn => ?_⟩
  · obtain ⟨m, rfl, hm⟩ := num_ok ho h n hn
    exact itoaN_call _ ⟨by omega, by omega⟩
  · obtain ⟨m, rfl, hm⟩ := num_ok ho h n hn
    rw [digs_itoa]
    have := digs_short m (by omega)
    omega
theorem byT_okI {o : OpV} (ho : OpOk o) (h : rightV o = true) (hwo : o.who.length < 1000) (hp : o.parents.length < 1000) : TermOk (byT Go.Lib.itoa o) := by
  refine ⟨by simp [byT], labelT_len ho (num_it ho h).2 hwo, by simp [byT]; omega, fun k hk => ?_⟩
  simp only [byT, List.mem_append, List.mem_cons, List.not_mem_nil, or_false] at hk
  rcases hk with h | rfl | rfl
  · exact ho.p32 k h
  · exact ho.ofk
  · exact zk_len
theorem byV_okI {ts : List Term} (hok : ∀ y ∈ ts, TermOk y) {o : OpV} (ho : OpOk o) (hwo : o.who.length < 1000) (hp : o.parents.length < 1000) : ∀ y ∈ (byV Go.Lib.itoa ts o).2, TermOk y := by
  unfold byV
  split
  · exact putT_ok hok (byT_okI ho ‹_› hwo hp)
  · exact hok
theorem msgV_okI {ts : List Term} (hok : ∀ y ∈ ts, TermOk y) {o : OpV} (ho : OpOk o) (hwo : o.who.length < 1000) (hp : o.parents.length < 1000) {c s : List UInt8} (hc : c.length = 32) (hs : s.length < 100000) : ∀ y ∈ (msgV Go.Lib.itoa ts o c s).2, TermOk y :=
  putT_ok (byV_okI (nextV_okR hok hc) (bind_ok ho) hwo hp) (sealT_ok (nameK_len _) (byV_32 _ _ _) hs)
theorem msgV_len (it : Int → List UInt8) (ts : List Term) (o : OpV) (c s : List UInt8) : (msgV it ts o c s).2.length ≤ ts.length + 4 := by
  have a := nextV_len ts c
  have b := byV_len it (nextV ts c).2 (bindO o)
  have d := (putT_len (byV it (nextV ts c).2 (bindO o)).2 (sealT (nextV ts c).1.1 (byV it (nextV ts c).2 (bindO o)).1 s)).2
  show (putT (byV it (nextV ts c).2 (bindO o)).2 (sealT (nextV ts c).1.1 (byV it (nextV ts c).2 (bindO o)).1 s)).length ≤ _
  omega
structure ChIn (rats : List Rat) (ws : List WaitV) (o : OpV) : Prop where
  rl : rats.length = 8
  rk : ∀ r ∈ rats, RatW r
  w : ∀ w ∈ ws, WaitW w
  wl : ws.length ≤ 60
  ok : OpOk o
  bl : ∀ b ∈ o.boxes, b.body.length < 9223372036854775808
  wo : o.who.length < 1000
  pa : o.parents.length < 1000
structure ChOut (A : List AV) (ws : List WaitV) (ts : List Term) : Prop where
  al : A.length = 8
  ar : ∀ v ∈ A, RatOk v
  w : ∀ x ∈ ws, x.of_.length = 32 ∧ x.key.length = 32 ∧ I64' x.who
  wl : ws.length < 100000
  ok : ∀ y ∈ ts, TermOk y
  tl : ts.length < 100
def r0s : List AV := [r0A, r0A, r0A, r0A, r0A, r0A, r0A, r0A]
theorem ks0A_eq : ks0A = ksA r0s [] := rfl
theorem chOut0 : ChOut r0s [] [] := ⟨rfl, fun v hv => by
  simp only [r0s, List.mem_cons, List.not_mem_nil, or_false] at hv
  rcases hv with rfl | rfl | rfl | rfl | rfl | rfl | rfl | rfl <;> exact r0A_ok, by simp, by simp, by simp, by simp⟩
theorem ratA_ok {r : Rat} (h : RatW r) : RatOk (ratA r) := ⟨r.known, r.open_, r.key, r.chain, h.key, h.chain, rfl⟩
theorem chOutN {rats : List Rat} {ws : List WaitV} {o : OpV} (h : ChIn rats ws o) {w : Nat} {r : Rat} (hr : rats[w]? = some r) {c : List UInt8} (hc : c.length = 32) {ts : List Term} (hok : ∀ y ∈ ts, TermOk y) (hl : ts.length < 100) :
    ChOut ((rats.map ratA).set w (.st [1, 1, 32, 32] [.lit (.bool true), .lit (.bool r.open_), keyA r.key, keyA c])) ws ts := by
  refine ⟨by simp [h.rl], fun v hv => ?_, fun x hx => ⟨(h.w x hx).of_, (h.w x hx).key, (h.w x hx).who⟩, by have := h.wl; omega, hok, hl⟩
  rcases List.mem_or_eq_of_mem_set hv with hv | rfl
  · obtain ⟨r', h1, rfl⟩ := List.mem_map.1 hv
    exact ratA_ok (h.rk r' h1)
  · exact ⟨true, r.open_, r.key, c, (h.rk r (List.mem_of_getElem? hr)).key, hc, rfl⟩
theorem says_au {o : OpV} (h : saysV o = true) : ∃ w : Nat, o.author = (w : Int) ∧ w < 8 := by
  obtain ⟨kd, au, hr⟩ := rightN_of (says_right h)
  exact ⟨au, hr.author, hr.a8⟩
theorem seals_same {rats : List Rat} {ws : List WaitV} {o : OpV} (h : ChIn rats ws o) (s : List UInt8) (hs : s.length < 100000) :
    ∃ (A : List AV) (ws' : List WaitV) (m : List UInt8) (e : Nat) (ts : List Term), ChOut A ws' ts ∧ e < 100 ∧
      (∀ H t V, TbOk H t V [] → XCall Go.Proofs.Tryz.prog 9 [freeI t.b t.l, ksA (rats.map ratA) (ws.map waitA), opA o, .lit (tx s)] H fun r H' => r = .tup [ksA A (ws'.map waitA), .lit (tx m), .lit (jn e)] ∧ ∃ V', H' = tbOf H t V' ts) ∧
      (∀ H t V U, RtOk H t V U ts → XCall Go.Proofs.Tryz.prog 11 [kitA t.b t.l, ksA (rats.map ratA) (ws.map waitA), opA o, .lit (tx s)] H fun r H' => r = .tup [ksA A (ws'.map waitA), .lit (tx m), .lit (jn e)] ∧ ∃ V' U', H' = rtOf H t V' U' ts) := by
  have hA : (rats.map ratA).length = 8 := by rw [List.length_map]; exact h.rl
  by_cases hl : 64 < s.length
  · exact ⟨r0s, [], [], 1, [], chOut0, by decide, fun H t V hh => XCall.mono (cseal_long h.ok hA hl) fun r H' ⟨h1, h2⟩ => ⟨h1, V, by rw [h2, hh.self]⟩,
      fun H t V U hh => XCall.mono (rsealE_call h.ok h.bl hA (.inl hl)) fun r H' ⟨h1, h2⟩ => ⟨h1, V, U, by rw [h2, hh.self]⟩⟩
  by_cases hsay : saysV (bindO o) = true
  · obtain ⟨w, hau, hw⟩ := says_au hsay
    obtain ⟨r, hr⟩ : ∃ r, rats[w]? = some r := ⟨_, List.getElem?_eq_getElem (by rw [h.rl]; exact hw)⟩
    have hrw := h.rk r (List.mem_of_getElem? hr)
    have hwA : (rats.map ratA)[w]? = some (.st [1, 1, 32, 32] [.lit (.bool r.known), .lit (.bool r.open_), keyA r.key, keyA r.chain]) := by rw [List.getElem?_map, hr]; rfl
    have hau' : o.author = (w : Int) := hau
    cases hk : r.known with
    | false =>
      rw [hk] at hwA
      exact ⟨r0s, [], [], 18, [], chOut0, by decide, fun H t V hh => cseal_none hh h.ok h.bl hsay hau' hA hrw.key hrw.chain hwA (by omega),
        fun H t V U hh => XCall.mono (rsealN_call h.ok h.bl hsay hau' hA hrw.key hrw.chain hwA (by omega)) fun r H' ⟨h1, h2⟩ => ⟨h1, V, U, by rw [h2, hh.self]⟩⟩
    | true =>
      rw [hk] at hwA
      have hri := says_right hsay
      obtain ⟨i1, i2⟩ := num_it (bind_ok h.ok) hri
      have hok := msgV_okI (ts := []) (by simp) h.ok h.wo h.pa hrw.chain (s := s) hs
      have hln := msgV_len Go.Lib.itoa [] o r.chain s
      have hag := msgV_again Go.Lib.itoa [] r.chain s hri
      have hnx : (nextV (msgV Go.Lib.itoa [] o r.chain s).2 r.chain).1.2 = (nextV [] r.chain).1.2 := by
        obtain ⟨a1, a2, a3⟩ := nextV_nm [] r.chain
        have pre : (nextV [] r.chain).2 <+: (msgV Go.Lib.itoa [] o r.chain s).2 := ((byV_nm (it := Go.Lib.itoa) (ts := (nextV [] r.chain).2) hri).2).trans (put_pre _ _)
        rw [nextV_again (a1.mono pre) (a2.mono pre)]
      have hc := fun H t V (hh : TbOk H t V []) => cseal_call hh (by simp) h.ok h.bl h.wo h.pa i1 i2 hsay hau' hA hrw.key hrw.chain hwA (ws := ws.map waitA) (by have := h.wl; simp; omega) (s := s) (by omega)
      have hd := fun H t V U (hh : RtOk H t V U (msgV Go.Lib.itoa [] o r.chain s).2) => rsealC_call hh hok (by simp at hln; omega) h.ok h.bl h.wo h.pa hsay hau' hA hrw.key hrw.chain hwA (ws := ws.map waitA) (s := s) (by omega)
      rw [hag, hnx] at hd
      exact ⟨_, ws, (msgV Go.Lib.itoa [] o r.chain s).1, 0, (msgV Go.Lib.itoa [] o r.chain s).2, chOutN h hr (nameK_len _) hok (by simp at hln; omega), by decide, hc, hd⟩
  · have hsay' : saysV (bindO o) = false := by simpa using hsay
    exact ⟨r0s, [], [], 1, [], chOut0, by decide, fun H t V hh => XCall.mono (cseal_bad h.ok h.bl hA (by omega) hsay') fun r H' ⟨h1, h2⟩ => ⟨h1, V, by rw [h2, hh.self]⟩,
      fun H t V U hh => XCall.mono (rsealE_call h.ok h.bl hA (.inr hsay')) fun r H' ⟨h1, h2⟩ => ⟨h1, V, U, by rw [h2, hh.self]⟩⟩
theorem chIn_of {rats : List Rat} {ws : List WaitV} {o : OpV} {s : List UInt8} (hrl : rats.length = 8) (hrk : ∀ r ∈ rats, RatW r) (hw : ∀ w ∈ ws, WaitW w) (ho : OpRaw o)
    (hg : (decide (60 < ws.length) || (greatO o || decide (300 < s.length))) = false) : ChIn rats ws o ∧ s.length ≤ 300 := by
  simp only [Bool.or_eq_false_iff, decide_eq_false_iff_not] at hg
  obtain ⟨q1, q2, q3⟩ := hg
  unfold greatO at q2
  simp only [Bool.or_eq_false_iff, decide_eq_false_iff_not] at q2
  obtain ⟨h1, h2, h3, _, _⟩ := q2
  exact ⟨⟨hrl, hrk, hw, by omega, ⟨ho.seq, by omega, ho.p32, by omega, ho.ofk, ho.check, ho.text, by omega, fun b hb => (ho.bok b hb).1⟩, fun b hb => (ho.bok b hb).2, by omega, by omega⟩, by omega⟩
theorem kitA_sz (b : Nat) (l : Nat × Nat) : (kitA b l).sz = 1 := rfl
theorem kitA_agg (b : Nat) (l : Nat × Nat) : (kitA b l).isAgg = true := rfl
theorem kitA_tup (b : Nat) (l : Nat × Nat) : (kitA b l).isTup = false := rfl
theorem BlkLe.kitA' (l0 : Nat × Nat) (b b' : Nat) (l : Nat × Nat) : BlkLe (.box l0 1 (kitA b l)) (.box l0 1 (kitA b' l)) ↔ True := BlkLe.freeS' l0 b b' l
end Go.Cab
namespace Go.Cab
open Go.RowKit
open Classical
attribute [local irreducible] AReg
theorem Le.front2 {N : Nat} {tm tm' : List AV} {Lo Lo' : List (Option Blk)} {l l2 : Nat × Nat} {r : Nat} (hN : Lo.length = N) (ht : leA tm tm') (hb : leB Lo Lo') : Le ⟨0, tm, Lo ++ (newL N l r ++ rnewL (N + 3) l2)⟩ ⟨6, tm', (newL 0 l r ++ rnewL 3 l2) ++ Lo'⟩ := by
  obtain ⟨a1, a2⟩ := leA_get ht
  obtain ⟨b1, b2⟩ := leB_get hb
  have hlt : ∀ (k : Nat) (x : Blk), (((newL 0 l r ++ rnewL 3 l2) ++ Lo')[k]?).join = some x → k < N + 6 := fun k x hx => by
    by_cases h : k < N + 6
    · exact h
    · rw [List.getElem?_eq_none (by simp [newL, rnewL]; omega)] at hx; cases hx
  refine Le.genR a1 a2 (fun k => if k < 6 then N + k else k - 6) (fun k k' x y hx hy e => ?_) (fun k x hx => ?_)
  · have h1 := hlt k x hx
    have h2 := hlt k' y hy
    try simp only at e
    split at e <;> split at e <;> omega
  · have h1 := hlt k x hx
    simp only at hx ⊢
    by_cases h : k < 6
    · rw [if_pos h, cat1 N Lo _ k hN]
      rw [List.getElem?_append_left (by simp [newL, rnewL]; omega)] at hx
      match k, hx with
      | 0, hx =>
        simp only [newL, rnewL, List.cons_append, List.nil_append, List.getElem?_cons_zero, Option.join_some, Option.some.injEq] at hx
        subst hx
        exact ⟨_, rfl, BlkLe.box (AVle.st1 (AVle.own _ _ _) (AVle.st1 (AVle.own _ _ _) AVle.st0))⟩
      | 1, hx =>
        simp only [newL, rnewL, List.cons_append, List.nil_append, List.getElem?_cons_succ, List.getElem?_cons_zero, Option.join_some, Option.some.injEq] at hx
        subst hx
        exact ⟨_, rfl, BlkLe.refl _⟩
      | 2, hx =>
        simp only [newL, rnewL, List.cons_append, List.nil_append, List.getElem?_cons_succ, List.getElem?_cons_zero, Option.join_some, Option.some.injEq] at hx
        subst hx
        exact ⟨_, rfl, BlkLe.refl _⟩
      | 3, hx =>
        simp only [newL, rnewL, List.cons_append, List.nil_append, List.getElem?_cons_succ, List.getElem?_cons_zero, Option.join_some, Option.some.injEq] at hx
        subst hx
        exact ⟨_, rfl, BlkLe.box (AVle.st1 (AVle.own _ _ _) (AVle.st1 (AVle.own _ _ _) AVle.st0))⟩
      | 4, hx =>
        simp only [newL, rnewL, List.cons_append, List.nil_append, List.getElem?_cons_succ, List.getElem?_cons_zero, Option.join_some, Option.some.injEq] at hx
        subst hx
        exact ⟨_, rfl, BlkLe.refl _⟩
      | 5, hx =>
        simp only [newL, rnewL, List.cons_append, List.nil_append, List.getElem?_cons_succ, List.getElem?_cons_zero, Option.join_some, Option.some.injEq] at hx
        subst hx
        exact ⟨_, rfl, BlkLe.refl _⟩
      | k + 6, _ => omega
    · rw [if_neg h]
      obtain ⟨i, rfl⟩ : ∃ i, k = 6 + i := ⟨k - 6, by omega⟩
      rw [cat1 6 (newL 0 l r ++ rnewL 3 l2) _ i rfl] at hx
      obtain ⟨v, hv, hle⟩ := b2 i x hx
      have hi : i < Lo.length := by
        by_cases h : i < Lo.length
        · exact h
        · rw [List.getElem?_eq_none (by omega)] at hv; cases hv
      exact ⟨v, by rw [show 6 + i - 6 = i by omega, List.getElem?_append_left hi]; exact hv, hle⟩
theorem rnew_callN (H : List (Option Blk)) {n : Nat} (hn : H.length = n) : XCall Go.Proofs.Tryz.prog 8 [] H fun r H' => ∃ l, r = kitA n l ∧ H' = H ++ rnewL n l := by subst hn; exact rnew_call H
theorem two2_new (l l2 : Nat × Nat) (r : Nat) : Two2 (newL 0 l r ++ rnewL 3 l2) (tbNew 0 l r) (.slice none 0 0) [] (rtNew 3 l2) (.slice none 0 0) (.slice none 0 0) [] :=
  ⟨(new_ok [] l r).app _, rnew_ok (newL 0 l r) l2, by simp [tbNew, rtNew], by simp [tbNew, rtNew], by simp [tbNew, rtNew], by simp [tbNew, rtNew], by simp [tbNew, rtNew], by simp [tbNew, rtNew], by simp [tbNew, rtNew], by simp [tbNew, rtNew], by simp [tbNew, rtNew]⟩
theorem Two2.self {H : List (Option Blk)} {t : Tb} {V U1 U2 : Value} {u : Rt} {ts us : List Term} (h : Two2 H t V ts u U1 U2 us) : pF H t u (ts, us) (V, U1, U2) = H := by unfold pF; rw [h.p.self, h.r.self]
theorem wp_kit2 {P : Program} {b : AC} {Q : AX → AS → Prop} {n : Nat} {tm : List AV} {Lo : List (Option Blk)} {l l2 : Nat × Nat} {r : Nat} (tm' : Nat → Tb → Rt → List AV) (Lo' : Nat → Tb → Rt → List (Option Blk)) (hN : Lo.length = n) (ht : leA tm (tm' 6 (tbNew 0 l r) (rtNew 3 l2))) (hb : leB Lo (Lo' 6 (tbNew 0 l r) (rtNew 3 l2)))
    (k : ∀ N H t V u U1 U2, Two2 H t V [] u U1 U2 [] → H.length = N → b.wp P ⟨N, tm' N t u, pF H t u ([], []) (V, U1, U2) ++ Lo' N t u⟩ Q) : ∃ s0, Le ⟨0, tm, Lo ++ (newL n l r ++ rnewL (n + 3) l2)⟩ s0 ∧ b.wp P s0 Q := by
  have hok := two2_new l l2 r
  refine ⟨_, Le.front2 hN ht hb, ?_⟩
  have := k 6 (newL 0 l r ++ rnewL 3 l2) (tbNew 0 l r) (.slice none 0 0) (rtNew 3 l2) _ _ hok rfl
  rw [hok.self] at this
  exact this
section
variable {H : List (Option Blk)} {t : Tb} {V U1 U2 : Value} {u : Rt} {ts us : List Term}
theorem Two2.at (h : Two2 H t V ts u U1 U2 us) (i : List Term × List Term) (x : Value × Value × Value) (L : List (Option Blk)) : Two2 (pF H t u i x ++ L) t x.1 i.1 u x.2.1 x.2.2 i.2 := by
  have e : ∀ V' ts', tbOf (rtOf H u x.2.1 x.2.2 i.2) t V' ts' = pF H t u (ts', i.2) (V', x.2) := fun V' ts' => rt_comm h H V' _ _ ts' i.2
  have h1 := (rt_tb h x.2.1 x.2.2 i.2).at x.1 i.1 L
  rw [e x.1 i.1] at h1
  exact ⟨h1, (tb_rt h x.1 i.1).at x.2.1 x.2.2 i.2 L, h.bb, h.bj, h.bm, h.jb, h.jj, h.jm, h.mb, h.mj, h.mm⟩
theorem pF_at (h : Two2 H t V ts u U1 U2 us) (i j : List Term × List Term) (x y : Value × Value × Value) (L : List (Option Blk)) : pF (pF H t u i x ++ L) t u j y = pF H t u j y ++ L := by
  have e : ∀ V' ts', tbOf (rtOf H u x.2.1 x.2.2 i.2) t V' ts' = pF H t u (ts', i.2) (V', x.2) := fun V' ts' => rt_comm h H V' _ _ ts' i.2
  have h1 := (rt_tb h x.2.1 x.2.2 i.2).at_of x.1 y.1 i.1 j.1 L
  rw [e x.1 i.1, e y.1 j.1] at h1
  have h2 := (tb_rt h y.1 j.1).at_of x.2.1 x.2.2 y.2.1 y.2.2 i.2 j.2 L
  unfold pF at h1 h2 ⊢
  rw [h1]
  exact h2
theorem sync_gk (h : Two2 H t V ts u U1 U2 us) {ts1 us1 : List Term} (hok : ∀ y ∈ ts1, TermOk y) (hn : ts1.length < 90000) {m : Nat} (hm : m ≤ ts1.length) (hus : us1 = ts1.take m) :
    GC Go.Proofs.Tryz.prog 10 [freeS t.b t.l, kitA u.b u.l] (pF H t u) (ts1, us1) (.tup []) (ts1, ts1) := fun x L => by
  refine XCall.mono (sync_call (h.at (ts1, us1) x L) hok hn hm hus) ?_
  rintro r H' ⟨h1, y, h2⟩
  exact ⟨h1, y, by rw [h2, pF_at h]⟩
end
end Go.Cab
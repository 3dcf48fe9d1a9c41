/- Part 13 of what the proof stands on: Z23, Z14, Z15, KT, KL, KU, KO. -/
import Derived.Test.YtiikindmkllbiaaDoorCab12
import Derived.Test.YtiikindmkllbiaaDoorCab05
import Derived.ProofKit
import Derived.Deep.Slices
import Derived.Test.YtiikindmkllbiaaDoorProg
import Derived.LaidSub
import Derived.Lib.LaidTab
import Derived.Lib.ItoaNum
import Derived.Test.YtiikindmkllbiaaDoorCab06
import Derived.OpenShut
set_option linter.unusedSimpArgs false
set_option linter.unnecessarySimpa false
set_option linter.unusedVariables false
set_option linter.unusedSectionVars false
namespace Go.Cab
open Classical
def stp1 (c : List UInt8) : Term := ⟨2, txStep ++ [47, 49], [c]⟩
def stp2 (c : List UInt8) : Term := ⟨2, txStep ++ [47, 50], [c]⟩
def trn1 (r w : List UInt8) : Term := ⟨2, txTurn ++ [47, 49], [r, w]⟩
def trn2 (r w : List UInt8) : Term := ⟨2, txTurn ++ [47, 50], [r, w]⟩
theorem stp1_ok {c : List UInt8} (h : c.length = 32) : TermOk (stp1 c) := two_ok (by simp [txStep]) (by simp) (by simp [h]) [47, 49] rfl
theorem stp2_ok {c : List UInt8} (h : c.length = 32) : TermOk (stp2 c) := two_ok (by simp [txStep]) (by simp) (by simp [h]) [47, 50] rfl
theorem trn1_ok {r w : List UInt8} (h : r.length = 32) (hw : w.length = 32) : TermOk (trn1 r w) := two_ok (by simp [txTurn]) (by simp) (by simp [h, hw]) [47, 49] rfl
theorem trn2_ok {r w : List UInt8} (h : r.length = 32) (hw : w.length = 32) : TermOk (trn2 r w) := two_ok (by simp [txTurn]) (by simp) (by simp [h, hw]) [47, 50] rfl
theorem bind_ok {h : HeadV} {by_ : List UInt8} (hp : h.pub.length = 32) (hb : by_.length = 32) : TermOk (bindT h by_) := by
  have := dec2_len h.n; have := dec2_len h.prev
  exact ⟨by simp [bindT], by simp [bindT, bindX, txHead]; omega, by simp [bindT], by simp [bindT, hb, hp]⟩
structure Msg (us : List Term) (c mine by_ sec : List UInt8) (h : HeadV) (kk body : List UInt8) : Prop where
  key : Nm us (stp1 c) kk
  pub : Nm us (pubT mine) h.pub
  box : ∃ bd, Nm us (bindT h by_) bd ∧ Nm us (sealK kk bd [] [sec]) body
  b32 : by_.length = 32
  s32 : sec.length = 32
theorem Msg.mono {ts us : List Term} {c mine by_ sec : List UInt8} {h : HeadV} {key body : List UInt8} (m : Msg ts c mine by_ sec h key body) (p : ts <+: us) : Msg us c mine by_ sec h key body := by
  obtain ⟨h1, h2, ⟨bd, h3, h4⟩, h5, h6⟩ := m
  exact ⟨h1.mono p, h2.mono p, ⟨bd, h3.mono p, h4.mono p⟩, h5, h6⟩
theorem Msg.len {ts : List Term} {c mine by_ sec : List UInt8} {h : HeadV} {key body : List UInt8} (m : Msg ts c mine by_ sec h key body) : body.length = 32 := by
  obtain ⟨bd, _, h⟩ := m.box
  exact h.len
set_option maxHeartbeats 2000000 in
theorem send_ev {ts : List Term} (hts : TsOk ts) (hl : ts.length + 20 < 90000) {x : Ses} (hx : SeOk x) {sec by_ : List UInt8} (hs : sec.length = 32) (hb : by_.length = 32) :
    ∃ key next pub body us, sendS ts x by_ [sec] = (({ x with send := next, ns := x.ns + 1 }, ⟨pub, x.ns, x.pn⟩, body), us) ∧ TsOk us ∧ us.length ≤ ts.length + 5 ∧ ts <+: us ∧ Nm us (stp2 x.send) next ∧ Msg us x.send x.mine by_ sec ⟨pub, x.ns, x.pn⟩ key body := by
  have hc := hx.send
  obtain ⟨a1, a2⟩ := twoV_nm ts txStep [x.send]
  have a3 := twoV_pre ts txStep [x.send]
  have a4 := twoV_ok hts (by omega) (s := txStep) (by simp [txStep]) (ks := [x.send]) (by simp) (by simp [hc])
  have a5 := twoV_len ts txStep [x.send]
  unfold sendS
  generalize twoV ts txStep [x.send] = tv at *
  obtain ⟨⟨key, next⟩, t1⟩ := tv
  simp only at a1 a2 a3 a4 a5 ⊢
  have b1 := Nm.put t1 (pubT x.mine)
  have b2 := put_pre t1 (pubT x.mine)
  have b3 := a4.putPub hx.mine (by omega)
  have b4 := putT_len t1 (pubT x.mine)
  generalize nameK (putN t1 (pubT x.mine)) = pub at *
  generalize putT t1 (pubT x.mine) = t2 at *
  have hp := b1.len
  have ob := bind_ok (h := ⟨pub, x.ns, x.pn⟩) hp hb
  have c1 := Nm.put t2 (bindT ⟨pub, x.ns, x.pn⟩ by_)
  have c2 := put_pre t2 (bindT ⟨pub, x.ns, x.pn⟩ by_)
  have c3 := b3.put ob ⟨by simp [bindT], by simp [bindT]⟩ (by omega)
  have c4 := putT_len t2 (bindT ⟨pub, x.ns, x.pn⟩ by_)
  generalize nameK (putN t2 (bindT ⟨pub, x.ns, x.pn⟩ by_)) = bd at *
  generalize putT t2 (bindT ⟨pub, x.ns, x.pn⟩ by_) = t3 at *
  have os : TermOk (sealK key bd [] [sec]) := sealK_ok a1.len c1.len (by simp) (by simp) (by simp [hs])
  have d1 := Nm.put t3 (sealK key bd [] [sec])
  have d2 := put_pre t3 (sealK key bd [] [sec])
  have d3 := c3.put os ⟨by simp [sealK], by simp [sealK]⟩ (by omega)
  have d4 := putT_len t3 (sealK key bd [] [sec])
  generalize nameK (putN t3 (sealK key bd [] [sec])) = body at *
  generalize putT t3 (sealK key bd [] [sec]) = us at *
  have p1 := (b2.trans c2).trans d2
  exact ⟨key, next, pub, body, us, rfl, d3, by omega, a3.trans p1, a2.mono p1, a1.mono p1, (b1.mono c2).mono d2, ⟨bd, c1.mono d2, d1⟩, hb, hs⟩
theorem Msg.open {us : List Term} (hts : TsOk us) {c mine by_ sec : List UInt8} {h : HeadV} {key body : List UInt8} (m : Msg us c mine by_ sec h key body) (y0 y1 : Ses) (k : List UInt8) :
    rcvO us y0 y1 h by_ body k = (if key = k then (y1, [sec], 0) else (y0, [], 2), us) := by
  obtain ⟨h1, h2, ⟨bd, h3, h4⟩, h5, h6⟩ := m
  unfold rcvO
  rw [h3.putN, h3.putT, openX_nm hts (sealK_ok h1.len h3.len (by simp) (by simp) (by simp [h6])) h4]
  by_cases hk : key = k
  · simp [sealK, hk]
  · simp [sealK, hk]
set_option maxHeartbeats 2000000 in
theorem turn_ev {ts : List Term} (hts : TsOk ts) (hl : ts.length + 20 < 90000) {x : Ses} (hx : SeOk x) (ht : x.turn = true) {m s : List UInt8} (hm : m.length = 32) (px : Nm ts (pubT m) x.theirs) (hs : s.length < 1000) :
    ∃ mine w r c ts1, TurnOk ts x s (turnX x mine r c) ts1 ∧ TsOk ts1 ∧ ts1.length ≤ ts.length + 4 ∧ ts <+: ts1 ∧ Nm ts1 (drawT s) mine ∧ Nm ts1 (agr m mine) w ∧ Nm ts1 (trn1 x.root w) r ∧ Nm ts1 (trn2 x.root w) c := by
  have a1 := Nm.put ts (drawT s)
  have a2 := put_pre ts (drawT s)
  have a3 := hts.draw (s := s) hs (by omega)
  have a4 := putT_len ts (drawT s)
  have hT : ∀ y1 x1 ts1, agreeX (putT ts (drawT s)) (nameK (putN ts (drawT s))) x.theirs = some y1 →
      x1 = turnX x (nameK (putN ts (drawT s))) (twoV (putT (putT ts (drawT s)) y1) txTurn [x.root, nameK (putN (putT ts (drawT s)) y1)]).1.1 (twoV (putT (putT ts (drawT s)) y1) txTurn [x.root, nameK (putN (putT ts (drawT s)) y1)]).1.2 →
      ts1 = (twoV (putT (putT ts (drawT s)) y1) txTurn [x.root, nameK (putN (putT ts (drawT s)) y1)]).2 → TurnOk ts x s x1 ts1 := fun y1 x1 ts1 h1 h2 h3 => .inr ⟨ht, a3, y1, h1, h2, h3⟩
  generalize nameK (putN ts (drawT s)) = mine at *
  generalize putT ts (drawT s) = tA at *
  have hml := a1.len
  have ha := agreeX_pub a3 (a := mine) hm (px.mono a2)
  have hT2 := hT _ _ _ ha rfl rfl
  clear hT
  have oa : TermOk (agr mine m) := agr_ok hml hm
  have b1 := Nm.put tA (agr mine m)
  have b2 := put_pre tA (agr mine m)
  have b3 := a3.put oa (agr_wf _ _) (by omega)
  have b4 := putT_len tA (agr mine m)
  generalize nameK (putN tA (agr mine m)) = w at *
  generalize putT tA (agr mine m) = tB at *
  have hwl := b1.len
  obtain ⟨c1, c2⟩ := twoV_nm tB txTurn [x.root, w]
  have c3 := twoV_pre tB txTurn [x.root, w]
  have c4 := twoV_ok b3 (by omega) (s := txTurn) (by simp [txTurn]) (ks := [x.root, w]) (by simp) (by simp [hx.root, hwl])
  have c5 := twoV_len tB txTurn [x.root, w]
  generalize twoV tB txTurn [x.root, w] = tv at *
  obtain ⟨⟨r, c⟩, t1⟩ := tv
  simp only at c1 c2 c3 c4 c5 hT2
  exact ⟨mine, w, r, c, t1, hT2, c4, by omega, a2.trans (b2.trans c3), (a1.mono b2).mono c3, by rw [agr_comm]; exact b1.mono c3, c1, c2⟩
theorem alive_law {ts : List Term} (hts : TsOk ts) (hl : ts.length + 40 < 90000) {W : List (List UInt8)} {x y : Ses} (L : Lk ts W 0 x y) (ht : x.turn = true) {sec by_ : List UInt8} (hs : sec.length = 32) (hb : by_.length = 32) :
    ∃ x1 ts1 x2 h body us y2, TurnOk ts x [110, 101, 119] x1 ts1 ∧ SeOk x1 ∧ ts1.length ≤ ts.length + 4 ∧ x1.ns = 0 ∧ x1.pn = 0 ∧
      sendS ts1 x1 by_ [sec] = ((x2, h, body), us) ∧ TsOk us ∧ us.length ≤ ts.length + 9 ∧ h.pub.length = 32 ∧ h.pub ≠ zk ∧ h.n = 0 ∧ h.prev = 0 ∧ body.length = 32 ∧
      rcvV us y h by_ body = ((y2, [sec], 0), us) ∧ rcvV us y2 h by_ body = ((y2, [], 10), us) ∧ SeOk x2 ∧ SeOk y2 ∧ x2.ns = 1 ∧ y2.nr = 1 ∧ y2.turn = true ∧ h.pub ≠ y.theirs ∧ y.skips = [] ∧ y2.skips = [] := by
  obtain ⟨L, px, py, ox, oy, ⟨b1, b2, b3⟩, b4, b5, b6⟩ := L
  have hm : x.mine.length = 32 := ox.mine
  have hmy : y.mine.length = 32 := oy.mine
  have hidx : ∀ p n, idxQ (skP p n) y.skips 0 = none := fun p n => by rw [L.sky]; rfl
  obtain ⟨mine, w, r, c, t1, d1, d2, d3, d4, d5, d6, d7, d8⟩ := turn_ev hts (by omega) ox ht hmy px (s := [110, 101, 119]) (by decide)
  have hml := d5.len
  have o1 : SeOk (turnX x mine r c) := by
    obtain ⟨o1, o2, o3, o4, o5, o6, o7, o8, o9, o10⟩ := ox
    exact ⟨hml, o2, d7.len, d8.len, o5, by simp [turnX], o7, by simp only [turnX]; exact o6, o9, o10⟩
  obtain ⟨key, next, pub, body, us, c1, c2, c3, c4, c5, c6⟩ := send_ev d2 (by omega) o1 (sec := sec) (by_ := by_) hs hb
  have hp0 := d4.trans c4
  have hpub : Nm us (pubT mine) pub := c6.pub
  have hmn : mine ≠ x.mine := fun e => by
    subst e
    obtain ⟨s, s1, s2, s3⟩ := L.mx
    have := (s2.mono d4).inj d5 d2 s1 (drawT_ok (by decide))
    simp only [drawT, Term.mk.injEq, true_and, and_true] at this
    subst this
    rcases s3 with h | h | ⟨j, h, _⟩
    · cases h
    · cases h
    · omega
  have hpne : pub ≠ y.theirs := fun e => by
    subst e
    have := hpub.inj (py.mono hp0) c2 (pubT_ok hml) (pubT_ok hm)
    simp only [pubT, Term.mk.injEq, List.cons.injEq, and_true, true_and] at this
    exact hmn this
  have hag := agreeX_pub c2 (a := y.mine) hml hpub
  have hyt : y.turn = false := by have := L.turn; rw [ht] at this; simpa using this.symm
  have hw := d6.mono c4
  have hns : x.ns = 0 := by omega
  have hnr : y.nr = 0 := by omega
  have h0 : (turnX x mine r c).ns = 0 := rfl
  have h1 : (turnX x mine r c).pn = 0 := hns
  have h2 : (turnX x mine r c).send = c := rfl
  rw [h0, h1] at c6
  rw [h0, h1] at c1
  have hrc : rcvT us y ⟨pub, 0, 0⟩ w = (turnR y r c pub, us) := by
    unfold rcvT
    simp only [hnr, Nat.sub_self, skipG]
    rw [twoV_again (a := r) (b := c) (by rw [← L.root]; exact d7.mono c4) (by rw [← L.root]; exact d8.mono c4)]
  have hrq : rcvQ us (turnR y r c pub) ⟨pub, 0, 0⟩ = .inr ({ turnR y r c pub with recv := next, nr := 1 }, key, us) := by
    unfold rcvQ
    rw [if_neg (by simp [turnR])]
    simp only [turnR, Nat.sub_self, skipG]
    rw [twoV_again (a := key) (b := next) (by rw [h2] at c6; exact c6.key) (by rw [h2] at c5; exact c5)]
  have oy2 : SeOk { turnR y r c pub with recv := next, nr := 1 } := by
    obtain ⟨o1, o2, o3, o4, o5, o6, o7, o8, o9, o10⟩ := oy
    exact ⟨o1, hpub.len, d7.len, o4, c5.len, o6, by simp, o8, o9, o10⟩
  refine ⟨turnX x mine r c, t1, _, _, body, us, { turnR y r c pub with recv := next, nr := 1 }, d1, o1, d3, h0, h1, c1, c2, by omega, hpub.len, hpub.nz, rfl, rfl, c6.len, ?_, ?_, ?_, oy2, by simp [turnX], rfl, rfl, hpne, L.sky, L.sky⟩
  · unfold rcvV rcvP
    rw [hidx]
    simp only [if_neg hpne, hag]
    rw [if_neg (by simp [hyt]; omega), if_neg (by simp [L.sky]), hw.putN, hw.putT, hrc]
    simp only
    rw [hrq]
    simp only
    rw [c6.open c2]
    simp
  · unfold rcvV rcvP
    have : idxQ (skP pub 0) ({ turnR y r c pub with recv := next, nr := 1 } : Ses).skips 0 = none := by
      show idxQ (skP pub 0) y.skips 0 = none
      rw [L.sky]; rfl
    simp only [this]
    rw [if_pos (by simp [turnR])]
    unfold rcvQ
    rw [if_pos (by simp)]
  · obtain ⟨o1, o2, o3, o4, o5, o6, o7, o8, o9, o10⟩ := o1
    exact ⟨o1, o2, o3, c5.len, o5, by simp, o7, by simp, o9, o10⟩
end Go.Cab
namespace Go.Cab
open Go.RowKit
open Classical
def fb902 : AC := (.seq (.reg [⟨some 0, none, .mov (.const (.bool false)), [], none⟩]) (.seq (.reg [⟨some 15, none, .xc (.dir 6) [] [] [], [], none⟩, ⟨some 1, none, .alloc 1 (.st [1] [(.lit (.pointer .none))]), [], none⟩, ⟨none, none, .store 1 (.tmp 1) (.tmp 15), [], none⟩]) (.seq (.reg [⟨some 17, none, .load true 1 (.tmp 1), [], none⟩, ⟨some 18, none, .rdp (.mkifc 26) [.tmp 17], [], none⟩, ⟨some 19, none, .xc (.dir 7) [.tmp 18] [] [], [], none⟩, ⟨some 16, none, .mov (.tmp 19), [], none⟩, ⟨some 20, none, .ext (.tmp 16) 0, [], none⟩, ⟨some 21, none, .ext (.tmp 16) 1, [], none⟩, ⟨some 22, none, .ext (.tmp 16) 2, [], none⟩, ⟨some 2, none, .alloc 165 (.st [32, 32, 32, 32, 32, 1, 1, 1, 1, 1] [(.arr 1 (List.replicate 32 (.lit (bn 0)))), (.arr 1 (List.replicate 32 (.lit (bn 0)))), (.arr 1 (List.replicate 32 (.lit (bn 0)))), (.arr 1 (List.replicate 32 (.lit (bn 0)))), (.arr 1 (List.replicate 32 (.lit (bn 0)))), (.lit (wn 0)), (.lit (wn 0)), (.lit (wn 0)), (.lit (.bool false)), (.lit (.slice .none 0 0))]), [], none⟩, ⟨some 3, none, .alloc 165 (.st [32, 32, 32, 32, 32, 1, 1, 1, 1, 1] [(.arr 1 (List.replicate 32 (.lit (bn 0)))), (.arr 1 (List.replicate 32 (.lit (bn 0)))), (.arr 1 (List.replicate 32 (.lit (bn 0)))), (.arr 1 (List.replicate 32 (.lit (bn 0)))), (.arr 1 (List.replicate 32 (.lit (bn 0)))), (.lit (wn 0)), (.lit (wn 0)), (.lit (wn 0)), (.lit (.bool false)), (.lit (.slice .none 0 0))]), [], none⟩, ⟨none, none, .store 165 (.tmp 2) (.tmp 20), [], none⟩, ⟨none, none, .store 165 (.tmp 3) (.tmp 21), [], none⟩, ⟨some 4, none, .mov (.tmp 22), [], none⟩]) (.seq (.reg [⟨some 24, none, .load true 1 (.tmp 1), [], none⟩, ⟨some 25, none, .rdp (.mkifc 26) [.tmp 24], [], none⟩, ⟨some 26, none, .load true 165 (.tmp 2), [], none⟩, ⟨some 27, none, .build (.arr 1 (List.replicate 32 (.lit (bn 0)))) [(0, (.const (bn 1)))], [], none⟩, ⟨some 28, none, .build (.arr 1 (List.replicate 32 (.lit (bn 0)))) [(0, (.const (bn 2)))], [], none⟩, ⟨some 29, none, .bslice 32 (.arr 1 (List.replicate 32 (.lit (bn 0)))) 1 [(0, (.tmp 28))], [], none⟩, ⟨some 30, none, .xc (.dir 10) [(.tmp 25), (.tmp 26), (.const (tx [110, 101, 119])), (.tmp 27), (.tmp 29)] [] [], [], none⟩, ⟨some 23, none, .mov (.tmp 30), [], none⟩, ⟨some 31, none, .ext (.tmp 23) 0, [], none⟩, ⟨some 32, none, .ext (.tmp 23) 1, [], none⟩, ⟨some 33, none, .ext (.tmp 23) 2, [], none⟩, ⟨some 34, none, .ext (.tmp 23) 3, [], none⟩, ⟨some 5, none, .alloc 165 (.st [32, 32, 32, 32, 32, 1, 1, 1, 1, 1] [(.arr 1 (List.replicate 32 (.lit (bn 0)))), (.arr 1 (List.replicate 32 (.lit (bn 0)))), (.arr 1 (List.replicate 32 (.lit (bn 0)))), (.arr 1 (List.replicate 32 (.lit (bn 0)))), (.arr 1 (List.replicate 32 (.lit (bn 0)))), (.lit (wn 0)), (.lit (wn 0)), (.lit (wn 0)), (.lit (.bool false)), (.lit (.slice .none 0 0))]), [], none⟩, ⟨some 6, none, .alloc 34 (.st [32, 1, 1] [(.arr 1 (List.replicate 32 (.lit (bn 0)))), (.lit (wn 0)), (.lit (wn 0))]), [], none⟩, ⟨none, none, .store 165 (.tmp 5) (.tmp 31), [], none⟩, ⟨none, none, .store 34 (.tmp 6) (.tmp 32), [], none⟩, ⟨some 7, none, .mov (.tmp 33), [], none⟩, ⟨some 8, none, .mov (.tmp 34), [], none⟩]) (.seq (.reg [⟨some 36, none, .load true 1 (.tmp 1), [], none⟩, ⟨some 37, none, .rdp (.mkifc 26) [.tmp 36], [], none⟩, ⟨some 38, none, .load true 165 (.tmp 3), [], none⟩, ⟨some 39, none, .load true 34 (.tmp 6), [], none⟩, ⟨some 40, none, .build (.arr 1 (List.replicate 32 (.lit (bn 0)))) [(0, (.const (bn 1)))], [], none⟩, ⟨some 41, none, .mov (.tmp 7), [], none⟩, ⟨some 42, none, .xc (.dir 11) [.tmp 37, .tmp 38, .tmp 39, .tmp 40, .tmp 41] [] [], [], none⟩, ⟨some 35, none, .mov (.tmp 42), [], none⟩, ⟨some 43, none, .ext (.tmp 35) 0, [], none⟩, ⟨some 44, none, .ext (.tmp 35) 1, [], none⟩, ⟨some 45, none, .ext (.tmp 35) 2, [], none⟩, ⟨some 9, none, .alloc 165 (.st [32, 32, 32, 32, 32, 1, 1, 1, 1, 1] [(.arr 1 (List.replicate 32 (.lit (bn 0)))), (.arr 1 (List.replicate 32 (.lit (bn 0)))), (.arr 1 (List.replicate 32 (.lit (bn 0)))), (.arr 1 (List.replicate 32 (.lit (bn 0)))), (.arr 1 (List.replicate 32 (.lit (bn 0)))), (.lit (wn 0)), (.lit (wn 0)), (.lit (wn 0)), (.lit (.bool false)), (.lit (.slice .none 0 0))]), [], none⟩, ⟨none, none, .store 165 (.tmp 9) (.tmp 43), [], none⟩, ⟨some 10, none, .mov (.tmp 44), [], none⟩, ⟨some 11, none, .mov (.tmp 45), [], none⟩]) (.seq (.reg [⟨some 47, none, .load true 1 (.tmp 1), [], none⟩, ⟨some 48, none, .rdp (.mkifc 26) [.tmp 47], [], none⟩, ⟨some 49, none, .load true 165 (.tmp 9), [], none⟩, ⟨some 50, none, .load true 34 (.tmp 6), [], none⟩, ⟨some 51, none, .build (.arr 1 (List.replicate 32 (.lit (bn 0)))) [(0, (.const (bn 1)))], [], none⟩, ⟨some 52, none, .mov (.tmp 7), [], none⟩, ⟨some 53, none, .xc (.dir 11) [.tmp 48, .tmp 49, .tmp 50, .tmp 51, .tmp 52] [] [], [], none⟩, ⟨some 46, none, .mov (.tmp 53), [], none⟩, ⟨some 54, none, .ext (.tmp 46) 0, [], none⟩, ⟨some 55, none, .ext (.tmp 46) 1, [], none⟩, ⟨some 56, none, .ext (.tmp 46) 2, [], none⟩, ⟨some 12, none, .alloc 165 (.st [32, 32, 32, 32, 32, 1, 1, 1, 1, 1] [(.arr 1 (List.replicate 32 (.lit (bn 0)))), (.arr 1 (List.replicate 32 (.lit (bn 0)))), (.arr 1 (List.replicate 32 (.lit (bn 0)))), (.arr 1 (List.replicate 32 (.lit (bn 0)))), (.arr 1 (List.replicate 32 (.lit (bn 0)))), (.lit (wn 0)), (.lit (wn 0)), (.lit (wn 0)), (.lit (.bool false)), (.lit (.slice .none 0 0))]), [], none⟩, ⟨none, none, .store 165 (.tmp 12) (.tmp 54), [], none⟩, ⟨some 13, none, .mov (.tmp 55), [], none⟩, ⟨some 14, none, .mov (.tmp 56), [], none⟩]) (.seq (.reg [⟨some 57, none, .mov (.tmp 4), [], none⟩, ⟨some 58, none, .mov (.tmp 57), [], none⟩, ⟨some 59, some (58, true), .mov (.tmp 8), [], none⟩, ⟨some 60, some (58, true), .bin .eql (.tmp 59) (.const (jn 0)), [], none⟩, ⟨some 61, none, .pick (.tmp 58) (.tmp 60) (.const (.bool false)), [], none⟩, ⟨some 62, none, .mov (.tmp 61), [], none⟩, ⟨some 63, some (62, true), .mov (.tmp 11), [], none⟩, ⟨some 64, some (62, true), .bin .eql (.tmp 63) (.const (jn 0)), [], none⟩, ⟨some 65, none, .pick (.tmp 62) (.tmp 64) (.const (.bool false)), [], none⟩, ⟨some 66, none, .mov (.tmp 65), [], none⟩, ⟨some 67, some (66, true), .mov (.tmp 10), [], none⟩, ⟨some 68, some (66, true), .len false (.tmp 67), [], none⟩, ⟨some 69, some (66, true), .bin .eql (.tmp 68) (.const (jn 1)), [], none⟩, ⟨some 70, none, .pick (.tmp 66) (.tmp 69) (.const (.bool false)), [], none⟩, ⟨some 71, none, .mov (.tmp 70), [], none⟩, ⟨some 72, some (71, true), .mov (.tmp 10), [], none⟩, ⟨some 73, some (71, true), .iaddrS 32 (.tmp 72) (.const (jn 0)), [], none⟩, ⟨some 74, some (71, true), .load true 32 (.tmp 73), [], none⟩, ⟨some 75, some (71, true), .build (.arr 1 (List.replicate 32 (.lit (bn 0)))) [(0, (.const (bn 2)))], [], none⟩, ⟨some 76, some (71, true), .eqv 29 false (.tmp 74) (.tmp 75), [], none⟩, ⟨some 77, none, .pick (.tmp 71) (.tmp 76) (.const (.bool false)), [], none⟩, ⟨some 78, none, .mov (.tmp 77), [], none⟩, ⟨some 79, some (78, true), .mov (.tmp 14), [], none⟩, ⟨some 80, some (78, true), .bin .eql (.tmp 79) (.const (jn 10)), [], none⟩, ⟨some 81, none, .pick (.tmp 78) (.tmp 80) (.const (.bool false)), [], none⟩, ⟨some 82, none, .mov (.tmp 81), [], none⟩, ⟨some 83, some (82, true), .faddr 160 5 (.tmp 5), [], none⟩, ⟨some 84, some (82, true), .load false 1 (.tmp 83), [], none⟩, ⟨some 85, some (82, true), .bin .eql (.tmp 84) (.const (wn 1)), [], none⟩, ⟨some 86, none, .pick (.tmp 82) (.tmp 85) (.const (.bool false)), [], none⟩, ⟨some 87, none, .mov (.tmp 86), [], none⟩, ⟨some 88, some (87, true), .faddr 161 6 (.tmp 9), [], none⟩, ⟨some 89, some (87, true), .load false 1 (.tmp 88), [], none⟩, ⟨some 90, some (87, true), .bin .eql (.tmp 89) (.const (wn 1)), [], none⟩, ⟨some 91, none, .pick (.tmp 87) (.tmp 90) (.const (.bool false)), [], none⟩, ⟨some 92, none, .mov (.tmp 91), [], none⟩, ⟨some 93, some (92, true), .faddr 163 8 (.tmp 9), [], none⟩, ⟨some 94, some (92, true), .load false 1 (.tmp 93), [], none⟩, ⟨some 95, none, .pick (.tmp 92) (.tmp 94) (.const (.bool false)), [], none⟩, ⟨some 0, none, .mov (.tmp 95), [], none⟩]) .ret)))))))
def fc902 : FC := ⟨0, 96, [(.tmp 0)], fb902⟩
theorem fc902_eq : compF Go.Proofs.Tryd.prog 5 = some fc902 := by kernel_rfl
attribute [local irreducible] AReg
def key1 : List UInt8 := 1 :: List.replicate 31 0
def key2 : List UInt8 := 2 :: List.replicate 31 0
def key7 : List UInt8 := 7 :: List.replicate 31 0
theorem tgt_pairZ (a : AV) : tgtA Go.Proofs.Tryd.prog (.dir 7) [a] = some (7, [a]) := by kernel_rfl
theorem tgt_sendZ (a b c d e : AV) : tgtA Go.Proofs.Tryd.prog (.dir 10) [a, b, c, d, e] = some (10, [a, b, c, d, e]) := by kernel_rfl
theorem tgt_rcvZ (a b c d e : AV) : tgtA Go.Proofs.Tryd.prog (.dir 11) [a, b, c, d, e] = some (11, [a, b, c, d, e]) := by kernel_rfl
section
variable {H : List (Option Blk)} {t : Tb} {V0 : Value} {ts0 ts ts1 us : List Term}
theorem send_k (hh : TbOk H t V0 ts0) (hn : ts.length + 100 < 90000) {x : Ses} (hx : SeOk x) {draw by_ : List UInt8} (hd : draw.length < 1000) (hb : by_.length = 32) {ks : List (List UInt8)} (hkl : ks.length < 1000) (h32 : ∀ k ∈ ks, k.length = 32)
    {x1 x2 : Ses} {h : HeadV} {body : List UInt8} (hT : TurnOk ts x draw x1 ts1) (hx1 : SeOk x1) (hn1 : ts1.length + 50 < 90000) (e1 : x1.ns < 99) (e2 : x1.pn < 99) (hs : sendS ts1 x1 by_ ks = ((x2, h, body), us)) :
    KC Go.Proofs.Tryd.prog 10 [freeI t.b t.l, sesA x, .lit (tx draw), keyA by_, .sl 32 (klA ks)] H t ts (.tup [sesA x2, headA h, .lit (tx body), .lit (jn 0)]) us := KC.of hh fun H V h => by
  have := send_call h hn hx hd hb hkl h32 hT hx1 hn1 e1 e2
  rw [hs] at this
  exact this
theorem rcv_k (hh : TbOk H t V0 ts0) (hts : TsOk ts) (hn : ts.length + 400 < 90000) {x : Ses} (hx : SeOk x) (hsk : x.skips.length ≤ 16) (hnr : x.nr < 99) {h : HeadV} (hp : h.pub.length = 32) (hz : h.pub ≠ zk) (h1 : h.n < 99) (h2 : h.prev < 99) {by_ body : List UInt8} (hb : by_.length = 32) (hbo : body.length < 1000)
    (hfit : h.pub = x.theirs → idxQ (skP h.pub h.n) x.skips 0 = none → x.nr ≤ h.n → h.n - x.nr + x.skips.length ≤ 16) {o : Ses × List (List UInt8) × Nat} (ho : rcvV ts x h by_ body = (o, us)) :
    KC Go.Proofs.Tryd.prog 11 [freeI t.b t.l, sesA x, headA h, keyA by_, .lit (tx body)] H t ts (rcvA o) us := KC.of hh fun H V h => by
  have := rcv_call h hts hn hx hsk hnr hp hz h1 h2 hb hbo hfit
  rw [ho] at this
  exact this
end
theorem headA_st (h : HeadV) : headA h = .st [32, 1, 1] [keyA h.pub, .lit (wn h.n), .lit (wn h.prev)] := rfl
theorem sesA_st (x : Ses) : sesA x = .st [32, 32, 32, 32, 32, 1, 1, 1, 1, 1] [keyA x.mine, keyA x.theirs, keyA x.root, keyA x.send, keyA x.recv, .lit (wn x.ns), .lit (wn x.nr), .lit (wn x.pn), .lit (.bool x.turn), .sl 65 (x.skips.map skA)] := rfl
set_option maxRecDepth 100000 in
set_option maxHeartbeats 64000000 in
theorem ralive_call : PCall Go.Proofs.Tryd.prog 5 [] (.val (.lit (.bool true))) := by
  have h902 := fc902_eq
  have hc6 : callable Go.Proofs.Tryd.prog 6 = true := by kernel_rfl
  refine PCall.of h902 rfl ?_; show AC.wp _ fb902 (AS.init [] 0 96) (fun x s => match x with | .exit _ => False | _ => Fin [(.tmp 0)] s _); unfold fb902 AS.init
  refine wp_sr (by simp [push_cast]; exact rfl) ?_
  refine wp_sgL ?_
  refine areg_run 0 (by simp [push_cast]; exact rfl) ?_
  refine areg_xq (us := []) rfl (by simp only [tgtA, tgtB, Option.bind_some, hc6, if_true]) (newfree_call _) ⟨_, _, (0, 0), 0, rfl, rfl⟩ (fun r hp' _ t' ht' => by cases ht') ?_
  rintro r H' ⟨l, rr, rfl, rfl⟩
  refine areg_run 0 (by simp [push_cast]; exact rfl) ?_
  refine areg_al' rfl fun l1 => areg_end (by simp [push_cast, freeS_sz, freeS_agg, freeS_tup]; exact rfl) ?_
  refine wp_kit (n := 96) (Lo := [none, some (.box l1 1 (freeS 96 l))] ++ List.replicate 94 none) (fun N t => [.lit (.bool false), .ptr (N + 1) l1 0 []] ++ List.replicate 94 .any) (fun N t => [none, some (.box l1 1 (freeS t.b t.l))] ++ List.replicate 94 none) rfl ?_ ?_ fun N H t V hh hN => ?_
  · simp [leA, RelLe.refl', RelLe.ptr']
  · simp [leB, tbNew, BlkLe.freeS']
  have g1 : ∀ V' ts' L k, (tbOf H t V' ts' ++ L)[N + k]? = L[k]? := fun V' ts' L k => cat1 _ _ _ _ (by rw [tbOf_len, hN])
  have g2 : ∀ V' ts' L k x, (tbOf H t V' ts' ++ L).set (N + k) x = tbOf H t V' ts' ++ L.set k x := fun V' ts' L k x => cat2 _ _ _ _ _ (by rw [tbOf_len, hN])
  obtain ⟨x, y, us, W, ⟨hW, L, ou, lu, ht, hn0, hr0⟩, hpair⟩ := pair_k
  have kp := hpair H t V [] hh
  have k1 : key1.length = 32 := rfl
  have k2 : key2.length = 32 := rfl
  obtain ⟨x1, ts1, x2, h, body, us2, y2, c1, c2, c3, c4, c5, c6, c7, c8, c9, c10, c11, c12, c13, c14, c15, c16, c17, c18, c19, c20, c21, c22, c23⟩ := alive_law ou (by omega) L ht (sec := key2) (by_ := key1) k2 k1
  have ks := send_k hh (ts := us) (by omega) L.ox (draw := [110, 101, 119]) (by decide) k1 (ks := [key2]) (by simp) (by simp [k2]) c1 c2 (by omega) (by omega) (by omega) c6
  have kr := rcv_k hh (ts := us2) c7 (by omega) L.oy (by rw [c22]; simp) (by omega) c9 c10 (by omega) (by omega) k1 (by omega) (fun e => absurd e c21) c14
  have kr2 := rcv_k hh (ts := us2) c7 (by omega) c17 (by rw [c23]; simp) (by omega) c9 c10 (by omega) (by omega) k1 (by omega) (fun _ _ _ => by rw [c23]; simp; omega) c15
  have hk2 := eq_key k2 k2
  have klA1 : klA [key2] = [keyA key2] := rfl
  unfold rcvA at kr kr2
  simp only at kr kr2
  clear hpair hW c1 c6 c14 c15
  refine wp_sg ?_
  refine areg_run 1 (by simp [push_cast, g1, freeS_sz, freeS_agg, freeS_tup]; exact rfl) ?_
  refine areg_rdp (us := [freeS t.b t.l]) rfl (mkifc_free _ _) ?_
  refine areg_k [freeI t.b t.l] hN rfl (tgt_pairZ _) kp (by simp) (by simp) fun V1 => ?_
  refine areg_run 4 (by simp [push_cast]; exact rfl) ?_
  refine areg_al' (z' := zsA) (by rw [zsA, zk_eq]) fun l2 => areg_al' (z' := zsA) (by rw [zsA, zk_eq]) fun l3 => areg_end (by simp [push_cast, g1, g2, sesA_st, zsA, zk_len]; exact rfl) ?_
  refine wp_sg ?_
  refine areg_run 1 (by simp [push_cast, g1, freeS_sz, freeS_agg, freeS_tup]; exact rfl) ?_
  refine areg_rdp (us := [freeS t.b t.l]) rfl (mkifc_free _ _) ?_
  refine areg_run 1 (by simp [push_cast, g1]; exact rfl) ?_
  refine areg_bd (z' := keyA key1) (fill_ar rfl rfl rfl rfl rfl) ?_
  refine areg_bd (z' := keyA key2) (fill_ar rfl rfl rfl rfl rfl) ?_
  refine areg_bsl (k := 32) (els := klA [key2]) (fill_ar rfl rfl rfl rfl rfl) ?_
  refine areg_k [freeI t.b t.l, sesA x, .lit (tx [110, 101, 119]), keyA key1, .sl 32 (klA [key2])] hN rfl (tgt_sendZ _ _ _ _ _) ks (by simp) (by simp) fun V2 => ?_
  refine areg_run 5 (by simp [push_cast]; exact rfl) ?_
  refine areg_al' (z' := zsA) (by rw [zsA, zk_eq]) fun l5 => areg_al' (z' := zhA) (by rw [zhA, zk_eq]) fun l6 => areg_end (by simp [push_cast, g1, g2, sesA_st, headA_st, zsA, zhA, zk_len]; exact rfl) ?_
  refine wp_sg ?_
  refine areg_run 1 (by simp [push_cast, g1, freeS_sz, freeS_agg, freeS_tup]; exact rfl) ?_
  refine areg_rdp (us := [freeS t.b t.l]) rfl (mkifc_free _ _) ?_
  refine areg_run 2 (by simp [push_cast, g1]; exact rfl) ?_
  refine areg_bd (z' := keyA key1) (fill_ar rfl rfl rfl rfl rfl) ?_
  refine areg_run 1 (by simp [push_cast]; exact rfl) ?_
  refine areg_k [freeI t.b t.l, sesA y, headA h, keyA key1, .lit (tx body)] hN rfl (tgt_rcvZ _ _ _ _ _) kr (by simp) (by simp) fun V3 => ?_
  refine areg_run 4 (by simp [push_cast]; exact rfl) ?_
  refine areg_al' (z' := zsA) (by rw [zsA, zk_eq]) fun l9 => areg_end (by simp [push_cast, g1, g2, sesA_st, zsA, zk_len]; exact rfl) ?_
  refine wp_sg ?_
  refine areg_run 1 (by simp [push_cast, g1, freeS_sz, freeS_agg, freeS_tup]; exact rfl) ?_
  refine areg_rdp (us := [freeS t.b t.l]) rfl (mkifc_free _ _) ?_
  refine areg_run 2 (by simp [push_cast, g1]; exact rfl) ?_
  refine areg_bd (z' := keyA key1) (fill_ar rfl rfl rfl rfl rfl) ?_
  refine areg_run 1 (by simp [push_cast]; exact rfl) ?_
  refine areg_k [freeI t.b t.l, sesA y2, headA h, keyA key1, .lit (tx body)] hN rfl (tgt_rcvZ _ _ _ _ _) kr2 (by simp) (by simp) fun V4 => ?_
  refine areg_run 4 (by simp [push_cast]; exact rfl) ?_
  refine areg_al' (z' := zsA) (by rw [zsA, zk_eq]) fun l12 => areg_end (by simp [push_cast, g1, g2, sesA_st, zsA, zk_len]; exact rfl) ?_
  rw [klA1]
  have e1 : wn x2.ns = wn 1 := by rw [c18]
  have e2 : wn y2.nr = wn 1 := by rw [c19]
  have e3 : binVal .eql (wn x2.ns) (wn 1) = some (.bool true) := by rw [bin_eqlw, c18]; rfl
  have e4 : binVal .eql (wn y2.nr) (wn 1) = some (.bool true) := by rw [bin_eqlw, c19]; rfl
  refine wp_sg ?_
  refine areg_run 18 (by simp [push_cast, g1, k2]; exact rfl) ?_
  refine areg_g (by simp [AS.ev, AS.put]) (areg_bd (z' := keyA key2) (fill_ar rfl rfl rfl rfl rfl) ?_)
  refine areg_g (by simp [AS.ev, AS.put]) (areg_eq (by simp [AS.ev, AS.put] <;> exact rfl) (by simp [AS.ev, AS.put] <;> exact rfl) hk2 rfl rfl ?_)
  refine areg_end (by simp [push_cast, g1, e3, e4]; exact rfl) (wp_ret' ?_)
  exact fin_tmp (by simp [RVal, AS.ev, AS.coe, c20]) (by simp)
end Go.Cab
namespace Go.Cab
open Go.RowKit
open Classical
def fb913 : AC := (.seq (.reg [⟨some 1, none, .box 165 (.tmp 0), [], none⟩, ⟨some 2, none, .mov (.const (.slice .none 0 0)), [], none⟩]) (.seq (.reg [⟨some 5, none, .faddr 0 0 (.tmp 1), [], none⟩, ⟨some 6, none, .load true 32 (.tmp 5), [], none⟩, ⟨some 7, none, .faddr 32 1 (.tmp 1), [], none⟩, ⟨some 8, none, .load true 32 (.tmp 7), [], none⟩, ⟨some 9, none, .faddr 64 2 (.tmp 1), [], none⟩, ⟨some 10, none, .load true 32 (.tmp 9), [], none⟩, ⟨some 11, none, .faddr 96 3 (.tmp 1), [], none⟩, ⟨some 12, none, .load true 32 (.tmp 11), [], none⟩, ⟨some 13, none, .faddr 128 4 (.tmp 1), [], none⟩, ⟨some 14, none, .load true 32 (.tmp 13), [], none⟩, ⟨some 15, none, .ef (.bown 29 32 (.arr 1 (List.replicate 32 (.lit (bn 0)))) 5 [0, 1, 2, 3, 4]) [.tmp 6, .tmp 8, .tmp 10, .tmp 12, .tmp 14], [], none⟩, ⟨some 3, none, .mov (.tmp 15), [], none⟩]) (.seq (.seq (.reg [⟨some 4, none, .mov (.const (jn 0)), [], none⟩]) (.block 0 (.loop (.seq (.seq (.reg [⟨some 16, none, .mov (.tmp 4), [], none⟩, ⟨some 17, none, .faddr 164 9 (.tmp 1), [], none⟩, ⟨some 18, none, .load false 1 (.tmp 17), [], none⟩, ⟨some 19, none, .len false (.tmp 18), [], none⟩, ⟨some 20, none, .bin .lss (.tmp 16) (.tmp 19), [], none⟩]) (.cond (.tmp 20) .skip (.exit 0))) (.seq (.block 1 (.reg [⟨some 23, none, .mov (.tmp 3), [], none⟩, ⟨some 24, none, .faddr 164 9 (.tmp 1), [], none⟩, ⟨some 25, none, .load false 1 (.tmp 24), [], (.some 1)⟩, ⟨some 26, none, .mov (.tmp 4), [], none⟩, ⟨some 27, none, .iaddrS 65 (.tmp 25) (.tmp 26), [], (.some 1000000)⟩, ⟨some 28, none, .faddr 33 2 (.tmp 27), [], none⟩, ⟨some 29, none, .load true 32 (.tmp 28), [], (.some 25)⟩, ⟨some 30, none, .faddr 164 9 (.tmp 1), [], none⟩, ⟨some 31, none, .load false 1 (.tmp 30), [], (.some 1)⟩, ⟨some 32, none, .mov (.tmp 4), [], none⟩, ⟨some 33, none, .iaddrS 65 (.tmp 31) (.tmp 32), [], (.some 1000000)⟩, ⟨some 34, none, .faddr 0 0 (.tmp 33), [], none⟩, ⟨some 35, none, .load true 32 (.tmp 34), [], (.some 31)⟩, ⟨some 36, none, .bslice 32 (.arr 1 (List.replicate 32 (.lit (bn 0)))) 2 [(0, (.tmp 29)), (1, (.tmp 35))], [], none⟩, ⟨some 37, none, .append 29 32 32 (.tmp 23) (.tmp 36), [], none⟩, ⟨some 3, none, .mov (.tmp 37), [], none⟩])) (.reg [⟨some 21, none, .mov (.tmp 4), [], none⟩, ⟨some 22, none, .bin .add (.tmp 21) (.const (jn 1)), [], none⟩, ⟨some 4, none, .mov (.tmp 22), [], none⟩])))))) (.seq (.reg [⟨some 38, none, .mov (.tmp 3), [], none⟩, ⟨some 2, none, .mov (.tmp 38), [], none⟩]) .ret))))
def fc913 : FC := ⟨1, 39, [(.tmp 2)], fb913⟩
theorem fc913_eq : compF Go.Proofs.Tryd.prog 14 = some fc913 := by kernel_rfl
def fb901 : AC := (.seq (.reg [⟨some 2, none, .mov (.const (.bool false)), [], none⟩]) (.seq (.seq (.reg [⟨some 22, none, .call 5 [], [], none⟩, ⟨some 23, none, .un .not (.tmp 22), [], none⟩]) (.cond (.tmp 23) (.seq (.reg [⟨some 2, none, .mov (.const (.bool false)), [], none⟩]) .ret) .skip)) (.seq (.reg [⟨some 24, none, .xc (.dir 6) [] [] [], [], none⟩, ⟨some 3, none, .alloc 1 (.st [1] [(.lit (.pointer .none))]), [], none⟩, ⟨none, none, .store 1 (.tmp 3) (.tmp 24), [], none⟩]) (.seq (.reg [⟨some 26, none, .load true 1 (.tmp 3), [], none⟩, ⟨some 27, none, .rdp (.mkifc 26) [.tmp 26], [], none⟩, ⟨some 28, none, .xc (.dir 7) [.tmp 27] [] [], [], none⟩, ⟨some 25, none, .mov (.tmp 28), [], none⟩, ⟨some 29, none, .ext (.tmp 25) 0, [], none⟩, ⟨some 30, none, .ext (.tmp 25) 1, [], none⟩, ⟨some 31, none, .ext (.tmp 25) 2, [], none⟩, ⟨some 4, none, .alloc 165 (.st [32, 32, 32, 32, 32, 1, 1, 1, 1, 1] [(.arr 1 (List.replicate 32 (.lit (bn 0)))), (.arr 1 (List.replicate 32 (.lit (bn 0)))), (.arr 1 (List.replicate 32 (.lit (bn 0)))), (.arr 1 (List.replicate 32 (.lit (bn 0)))), (.arr 1 (List.replicate 32 (.lit (bn 0)))), (.lit (wn 0)), (.lit (wn 0)), (.lit (wn 0)), (.lit (.bool false)), (.lit (.slice .none 0 0))]), [], none⟩, ⟨some 5, none, .alloc 165 (.st [32, 32, 32, 32, 32, 1, 1, 1, 1, 1] [(.arr 1 (List.replicate 32 (.lit (bn 0)))), (.arr 1 (List.replicate 32 (.lit (bn 0)))), (.arr 1 (List.replicate 32 (.lit (bn 0)))), (.arr 1 (List.replicate 32 (.lit (bn 0)))), (.arr 1 (List.replicate 32 (.lit (bn 0)))), (.lit (wn 0)), (.lit (wn 0)), (.lit (wn 0)), (.lit (.bool false)), (.lit (.slice .none 0 0))]), [], none⟩, ⟨none, none, .store 165 (.tmp 4) (.tmp 29), [], none⟩, ⟨none, none, .store 165 (.tmp 5) (.tmp 30), [], none⟩, ⟨some 6, none, .mov (.tmp 31), [], none⟩]) (.seq (.seq (.reg [⟨some 32, none, .mov (.tmp 6), [], none⟩, ⟨some 33, none, .un .not (.tmp 32), [], none⟩]) (.cond (.tmp 33) (.seq (.reg [⟨some 2, none, .mov (.const (.bool false)), [], none⟩]) .ret) .skip)) (.seq (.reg [⟨some 34, none, .load true 165 (.tmp 4), [], none⟩, ⟨some 35, none, .load true 165 (.tmp 5), [], none⟩, ⟨some 36, none, .build (.arr 165 [(.st [32, 32, 32, 32, 32, 1, 1, 1, 1, 1] [(.arr 1 (List.replicate 32 (.lit (bn 0)))), (.arr 1 (List.replicate 32 (.lit (bn 0)))), (.arr 1 (List.replicate 32 (.lit (bn 0)))), (.arr 1 (List.replicate 32 (.lit (bn 0)))), (.arr 1 (List.replicate 32 (.lit (bn 0)))), (.lit (wn 0)), (.lit (wn 0)), (.lit (wn 0)), (.lit (.bool false)), (.lit (.slice .none 0 0))]), (.st [32, 32, 32, 32, 32, 1, 1, 1, 1, 1] [(.arr 1 (List.replicate 32 (.lit (bn 0)))), (.arr 1 (List.replicate 32 (.lit (bn 0)))), (.arr 1 (List.replicate 32 (.lit (bn 0)))), (.arr 1 (List.replicate 32 (.lit (bn 0)))), (.arr 1 (List.replicate 32 (.lit (bn 0)))), (.lit (wn 0)), (.lit (wn 0)), (.lit (wn 0)), (.lit (.bool false)), (.lit (.slice .none 0 0))])]) [(0, (.tmp 34)), (1, (.tmp 35))], [], none⟩, ⟨some 7, none, .alloc 330 (.arr 165 [(.st [32, 32, 32, 32, 32, 1, 1, 1, 1, 1] [(.arr 1 (List.replicate 32 (.lit (bn 0)))), (.arr 1 (List.replicate 32 (.lit (bn 0)))), (.arr 1 (List.replicate 32 (.lit (bn 0)))), (.arr 1 (List.replicate 32 (.lit (bn 0)))), (.arr 1 (List.replicate 32 (.lit (bn 0)))), (.lit (wn 0)), (.lit (wn 0)), (.lit (wn 0)), (.lit (.bool false)), (.lit (.slice .none 0 0))]), (.st [32, 32, 32, 32, 32, 1, 1, 1, 1, 1] [(.arr 1 (List.replicate 32 (.lit (bn 0)))), (.arr 1 (List.replicate 32 (.lit (bn 0)))), (.arr 1 (List.replicate 32 (.lit (bn 0)))), (.arr 1 (List.replicate 32 (.lit (bn 0)))), (.arr 1 (List.replicate 32 (.lit (bn 0)))), (.lit (wn 0)), (.lit (wn 0)), (.lit (wn 0)), (.lit (.bool false)), (.lit (.slice .none 0 0))])]), [], none⟩, ⟨none, none, .store 330 (.tmp 7) (.tmp 36), [], none⟩]) (.seq (.reg [⟨some 8, none, .mov (.const (.slice .none 0 0)), [], none⟩, ⟨some 9, none, .mov (.const (.slice .none 0 0)), [], none⟩]) (.seq (.seq (.reg [⟨some 10, none, .mov (.const (jn 0)), [], none⟩]) (.block 0 (.loop (.seq (.seq (.reg [⟨some 37, none, .mov (.tmp 10), [], none⟩, ⟨some 38, none, .mov (.tmp 0), [], none⟩, ⟨some 39, none, .len false (.tmp 38), [], none⟩, ⟨some 40, none, .bin .lss (.tmp 37) (.tmp 39), [], none⟩, ⟨some 41, none, .mov (.tmp 40), [], none⟩, ⟨some 42, some (41, true), .mov (.tmp 10), [], none⟩, ⟨some 43, some (41, true), .bin .lss (.tmp 42) (.const (jn 30)), [], none⟩, ⟨some 44, none, .pick (.tmp 41) (.tmp 43) (.const (.bool false)), [], none⟩]) (.cond (.tmp 44) .skip (.exit 0))) (.seq (.block 1 (.seq (.reg [⟨some 47, none, .mov (.tmp 0), [], none⟩, ⟨some 48, none, .mov (.tmp 10), [], none⟩, ⟨some 49, none, .iaddrS 2 (.tmp 47) (.tmp 48), [], none⟩, ⟨some 50, none, .faddr 0 0 (.tmp 49), [], none⟩, ⟨some 51, none, .load false 1 (.tmp 50), [], none⟩, ⟨some 52, none, .cvt .u64 (.tmp 51), [], none⟩, ⟨some 53, none, .bin .rem (.tmp 52) (.const (un 2)), [], none⟩, ⟨some 54, none, .cvt .i64 (.tmp 53), [], none⟩, ⟨some 11, none, .mov (.tmp 54), [], none⟩]) (.seq (.reg [⟨some 55, none, .faddr 0 0 (.tmp 3), [], none⟩, ⟨some 56, none, .load false 1 (.tmp 55), [12], .none⟩, ⟨some 57, none, .mov (.tmp 10), [], none⟩, ⟨some 58, none, .cvt .u64 (.tmp 57), [], none⟩, ⟨some 59, none, .callv 9 [.tmp 58], [12], .none⟩, ⟨some 60, none, .bin .add (.const (tx [115, 101, 99, 114, 101, 116])) (.tmp 59), [], none⟩, ⟨some 61, none, .xc (.dir 8) [.tmp 56, .tmp 60] [] [12], [], none⟩, ⟨some 12, none, .alloc 32 (.arr 1 (List.replicate 32 (.lit (bn 0)))), [], none⟩, ⟨none, none, .store 32 (.tmp 12) (.tmp 61), [], none⟩]) (.seq (.reg [⟨some 63, none, .load true 1 (.tmp 3), [13, 14], (.some 3)⟩, ⟨some 64, none, .rdp (.mkifc 26) [.tmp 63], [], none⟩, ⟨some 65, none, .mov (.tmp 11), [], none⟩, ⟨some 66, none, .iaddrA 2 165 (.tmp 7) (.tmp 65), [], none⟩, ⟨some 67, none, .load true 165 (.tmp 66), [13, 14], .none⟩, ⟨some 68, none, .mov (.tmp 10), [], none⟩, ⟨some 69, none, .cvt .u64 (.tmp 68), [], none⟩, ⟨some 70, none, .callv 9 [.tmp 69], [13, 14], .none⟩, ⟨some 71, none, .bin .add (.const (tx [116])) (.tmp 70), [], none⟩, ⟨some 72, none, .build (.arr 1 (List.replicate 32 (.lit (bn 0)))) [(0, (.const (bn 7)))], [], none⟩, ⟨some 73, none, .load true 32 (.tmp 12), [13, 14], (.some 12)⟩, ⟨some 74, none, .bslice 32 (.arr 1 (List.replicate 32 (.lit (bn 0)))) 1 [(0, (.tmp 73))], [], none⟩, ⟨some 75, none, .xc (.dir 10) [.tmp 64, .tmp 67, .tmp 71, .tmp 72, .tmp 74] [] [13, 14], [], none⟩, ⟨some 62, none, .mov (.tmp 75), [], none⟩, ⟨some 76, none, .ext (.tmp 62) 0, [], none⟩, ⟨some 77, none, .ext (.tmp 62) 1, [], none⟩, ⟨some 78, none, .ext (.tmp 62) 2, [], none⟩, ⟨some 79, none, .ext (.tmp 62) 3, [], none⟩, ⟨some 13, none, .alloc 165 (.st [32, 32, 32, 32, 32, 1, 1, 1, 1, 1] [(.arr 1 (List.replicate 32 (.lit (bn 0)))), (.arr 1 (List.replicate 32 (.lit (bn 0)))), (.arr 1 (List.replicate 32 (.lit (bn 0)))), (.arr 1 (List.replicate 32 (.lit (bn 0)))), (.arr 1 (List.replicate 32 (.lit (bn 0)))), (.lit (wn 0)), (.lit (wn 0)), (.lit (wn 0)), (.lit (.bool false)), (.lit (.slice .none 0 0))]), [], none⟩, ⟨some 14, none, .alloc 34 (.st [32, 1, 1] [(.arr 1 (List.replicate 32 (.lit (bn 0)))), (.lit (wn 0)), (.lit (wn 0))]), [], none⟩, ⟨none, none, .store 165 (.tmp 13) (.tmp 76), [], none⟩, ⟨none, none, .store 34 (.tmp 14) (.tmp 77), [], none⟩, ⟨some 15, none, .mov (.tmp 78), [], none⟩, ⟨some 16, none, .mov (.tmp 79), [], none⟩]) (.seq (.seq (.reg [⟨some 80, none, .mov (.tmp 16), [], none⟩, ⟨some 81, none, .bin .neq (.tmp 80) (.const (jn 0)), [], none⟩]) (.cond (.tmp 81) (.seq (.reg [⟨some 2, none, .mov (.const (.bool false)), [], none⟩]) .ret) .skip)) (.seq (.reg [⟨some 83, none, .load true 1 (.tmp 3), [17], (.some 3)⟩, ⟨some 84, none, .rdp (.mkifc 26) [.tmp 83], [], none⟩, ⟨some 85, none, .mov (.tmp 11), [], none⟩, ⟨some 86, none, .bin .sub (.const (jn 1)) (.tmp 85), [], none⟩, ⟨some 87, none, .iaddrA 2 165 (.tmp 7) (.tmp 86), [], none⟩, ⟨some 88, none, .load true 165 (.tmp 87), [17], .none⟩, ⟨some 89, none, .load true 34 (.tmp 14), [17], .none⟩, ⟨some 90, none, .build (.arr 1 (List.replicate 32 (.lit (bn 0)))) [(0, (.const (bn 7)))], [], none⟩, ⟨some 91, none, .mov (.tmp 15), [], none⟩, ⟨some 92, none, .xc (.dir 11) [.tmp 84, .tmp 88, .tmp 89, .tmp 90, .tmp 91] [] [17], [], none⟩, ⟨some 82, none, .mov (.tmp 92), [], none⟩, ⟨some 93, none, .ext (.tmp 82) 0, [], none⟩, ⟨some 94, none, .ext (.tmp 82) 1, [], none⟩, ⟨some 95, none, .ext (.tmp 82) 2, [], none⟩, ⟨some 17, none, .alloc 165 (.st [32, 32, 32, 32, 32, 1, 1, 1, 1, 1] [(.arr 1 (List.replicate 32 (.lit (bn 0)))), (.arr 1 (List.replicate 32 (.lit (bn 0)))), (.arr 1 (List.replicate 32 (.lit (bn 0)))), (.arr 1 (List.replicate 32 (.lit (bn 0)))), (.arr 1 (List.replicate 32 (.lit (bn 0)))), (.lit (wn 0)), (.lit (wn 0)), (.lit (wn 0)), (.lit (.bool false)), (.lit (.slice .none 0 0))]), [], none⟩, ⟨none, none, .store 165 (.tmp 17) (.tmp 93), [], none⟩, ⟨some 18, none, .mov (.tmp 94), [], none⟩, ⟨some 19, none, .mov (.tmp 95), [], none⟩]) (.seq (.seq (.reg [⟨some 96, none, .mov (.tmp 19), [], none⟩, ⟨some 97, none, .bin .neq (.tmp 96) (.const (jn 0)), [], none⟩]) (.cond (.tmp 97) (.seq (.reg [⟨some 2, none, .mov (.const (.bool false)), [], none⟩]) .ret) .skip)) (.seq (.reg [⟨some 98, none, .mov (.tmp 11), [], none⟩, ⟨some 99, none, .load true 165 (.tmp 13), [], none⟩, ⟨some 100, none, .iaddrA 2 165 (.tmp 7) (.tmp 98), [], none⟩, ⟨none, none, .store 165 (.tmp 100) (.tmp 99), [], none⟩]) (.seq (.reg [⟨some 101, none, .mov (.tmp 11), [], none⟩, ⟨some 102, none, .bin .sub (.const (jn 1)) (.tmp 101), [], none⟩, ⟨some 103, none, .load true 165 (.tmp 17), [], none⟩, ⟨some 104, none, .iaddrA 2 165 (.tmp 7) (.tmp 102), [], none⟩, ⟨none, none, .store 165 (.tmp 104) (.tmp 103), [], none⟩]) (.seq (.reg [⟨some 105, none, .mov (.tmp 8), [], none⟩, ⟨some 106, none, .faddr 0 0 (.tmp 14), [], none⟩, ⟨some 107, none, .load true 32 (.tmp 106), [], (.some 14)⟩, ⟨some 108, none, .faddr 0 0 (.tmp 3), [], none⟩, ⟨some 109, none, .load false 1 (.tmp 108), [], (.some 3)⟩, ⟨some 110, none, .mov (.tmp 15), [], none⟩, ⟨some 111, none, .xc (.dir 13) [.tmp 109, .tmp 110] [14] [], [], none⟩, ⟨some 112, none, .bslice 32 (.arr 1 (List.replicate 32 (.lit (bn 0)))) 2 [(0, (.tmp 107)), (1, (.tmp 111))], [], none⟩, ⟨some 113, none, .append 29 32 32 (.tmp 105) (.tmp 112), [], none⟩, ⟨some 8, none, .mov (.tmp 113), [], none⟩]) (.reg [⟨some 114, none, .mov (.tmp 9), [], none⟩, ⟨some 115, none, .load true 32 (.tmp 12), [], none⟩, ⟨some 116, none, .bslice 32 (.arr 1 (List.replicate 32 (.lit (bn 0)))) 1 [(0, (.tmp 115))], [], none⟩, ⟨some 117, none, .append 29 32 32 (.tmp 114) (.tmp 116), [], none⟩, ⟨some 9, none, .mov (.tmp 117), [], none⟩]))))))))))) (.reg [⟨some 45, none, .mov (.tmp 10), [], none⟩, ⟨some 46, none, .bin .add (.tmp 45) (.const (jn 1)), [], none⟩, ⟨some 10, none, .mov (.tmp 46), [], none⟩])))))) (.seq (.reg [⟨some 118, none, .mov (.tmp 8), [], none⟩, ⟨some 119, none, .iaddrA 2 165 (.tmp 7) (.const (jn 0)), [], none⟩, ⟨some 120, none, .load true 165 (.tmp 119), [], none⟩, ⟨some 121, none, .call 14 [.tmp 120], [], none⟩, ⟨some 122, none, .append 29 32 32 (.tmp 118) (.tmp 121), [], none⟩, ⟨some 8, none, .mov (.tmp 122), [], none⟩]) (.seq (.reg [⟨some 123, none, .mov (.tmp 8), [], none⟩, ⟨some 124, none, .iaddrA 2 165 (.tmp 7) (.const (jn 1)), [], none⟩, ⟨some 125, none, .load true 165 (.tmp 124), [], none⟩, ⟨some 126, none, .call 14 [.tmp 125], [], none⟩, ⟨some 127, none, .append 29 32 32 (.tmp 123) (.tmp 126), [], none⟩, ⟨some 8, none, .mov (.tmp 127), [], none⟩]) (.seq (.reg [⟨some 128, none, .faddr 0 0 (.tmp 3), [], none⟩, ⟨some 129, none, .load false 1 (.tmp 128), [], none⟩, ⟨some 130, none, .mov (.tmp 8), [], none⟩, ⟨some 131, none, .icall 15 (.tmp 129) [.tmp 130], [], none⟩, ⟨some 20, none, .mov (.tmp 131), [], none⟩]) (.seq (.seq (.reg [⟨some 21, none, .mov (.const (jn 0)), [], none⟩]) (.block 2 (.loop (.seq (.seq (.reg [⟨some 132, none, .mov (.tmp 21), [], none⟩, ⟨some 133, none, .mov (.tmp 9), [], none⟩, ⟨some 134, none, .len false (.tmp 133), [], none⟩, ⟨some 135, none, .bin .lss (.tmp 132) (.tmp 134), [], none⟩]) (.cond (.tmp 135) .skip (.exit 2))) (.seq (.block 3 (.seq (.reg [⟨some 138, none, .mov (.tmp 20), [], none⟩, ⟨some 139, none, .mov (.tmp 9), [], none⟩, ⟨some 140, none, .mov (.tmp 21), [], none⟩, ⟨some 141, none, .iaddrS 32 (.tmp 139) (.tmp 140), [], none⟩, ⟨some 142, none, .load true 32 (.tmp 141), [], none⟩, ⟨some 143, none, .xc .val [.tmp 138, .tmp 142] [] [], [], none⟩]) (.cond (.tmp 143) (.seq (.reg [⟨some 2, none, .mov (.const (.bool false)), [], none⟩]) .ret) .skip))) (.reg [⟨some 136, none, .mov (.tmp 21), [], none⟩, ⟨some 137, none, .bin .add (.tmp 136) (.const (jn 1)), [], none⟩, ⟨some 21, none, .mov (.tmp 137), [], none⟩])))))) (.seq (.reg [⟨some 144, none, .call 5 [], [], none⟩, ⟨some 2, none, .mov (.tmp 144), [], none⟩]) .ret)))))))))))))
def fc901 : FC := ⟨1, 145, [(.tmp 2)], fb901⟩
theorem fc901_eq : compF Go.Proofs.Tryd.prog 4 = some fc901 := by kernel_rfl
attribute [local irreducible] AReg
theorem keys_call {x : Ses} (hx : SeOk x) (hs : x.skips = []) : PCall Go.Proofs.Tryd.prog 14 [sesA x] (.row 29 32 (klA [x.mine, x.theirs, x.root, x.send, x.recv])) := by
  have h913 := fc913_eq
  obtain ⟨x1, x2, x3, x4, x5, x6, x7, x8, x9, x10⟩ := hx
  have hsA := sesA_st x
  rw [hs] at hsA
  rw [hsA]
  have hbo : fillV (.arr 32 (List.replicate 5 (.arr 1 (List.replicate 32 (.lit (bn 0)))))) ([0, 1, 2, 3, 4].zip [keyA x.mine, keyA x.theirs, keyA x.root, keyA x.send, keyA x.recv]) = some (.arr 32 (klA [x.mine, x.theirs, x.root, x.send, x.recv])) := by
    simp [fillV, AV.sub, AV.upd, AV.isTup, AV.sz, keyA, bl_len, x1, x2, x3, x4, x5, klA]
  refine PCall.of h913 rfl ?_; show AC.wp _ fb913 (AS.init [.st [32, 32, 32, 32, 32, 1, 1, 1, 1, 1] [keyA x.mine, keyA x.theirs, keyA x.root, keyA x.send, keyA x.recv, .lit (wn x.ns), .lit (wn x.nr), .lit (wn x.pn), .lit (.bool x.turn), .sl 65 ([].map skA)]] 1 39) (fun x s => match x with | .exit _ => False | _ => Fin [(.tmp 2)] s _); unfold fb913 AS.init
  refine wp_sg (areg_bx rfl (by simp [AS.ev, AV.sz]) fun l1 => areg_end (by simp [push_cast]; exact rfl) ?_)
  refine wp_sg ?_
  refine areg_run 10 (by simp [push_cast, x1, x2, x3, x4, x5]; exact rfl) ?_
  refine areg_bown (vs := [keyA x.mine, keyA x.theirs, keyA x.root, keyA x.send, keyA x.recv]) (els := klA [x.mine, x.theirs, x.root, x.send, x.recv]) rfl hbo (by intro t ht; cases ht) fun V => ?_
  refine areg_end (by simp [push_cast]; exact rfl) ?_
  refine wp_seq' (wp_sr (by simp [push_cast]; exact rfl) ?_)
  refine wp_block' (wp_loopN 1 (loopN_succ ?_))
  refine wp_seq' (wp_sr (by simp [push_cast]; exact rfl) ?_)
  refine wp_cond_f (by simp [AS.ev]) (wp_exit' (if_hit rfl ?_))
  refine wp_sr (by simp [push_cast]; exact rfl) (wp_ret' ?_)
  exact fin_row rfl rfl
def actA (a : Int × Int) : AV := .st [1, 1] [.lit (.int .i64 a.1), .lit (.int .i64 a.2)]
theorem cvt_iu (k : Int) : ∃ m : Nat, m < 18446744073709551616 ∧ cvtA .u64 (.lit (.int .i64 k)) = some (.lit (un m)) := by
  refine ⟨(k % 18446744073709551616).toNat, by omega, ?_⟩
  simp only [cvtA, un]
  have h : IntKind.u64.wrap k = k % 18446744073709551616 := by simp [IntKind.wrap, IntKind.signed, IntKind.bits]
  rw [h]
  have : ((k % 18446744073709551616).toNat : Int) = k % 18446744073709551616 := by omega
  rw [this]
theorem cvt_uj2 (m : Nat) (h : m < 9223372036854775808) : cvtA .i64 (.lit (un m)) = some (.lit (jn m)) := by
  simp only [cvtA, un, wrap_i64 (Int.le_trans (by decide) (Int.natCast_nonneg m)) (by omega)]
  rfl
def txSecret : List UInt8 := [115, 101, 99, 114, 101, 116]
structure RfT where
  i : Nat
  seen : List (List UInt8)
  secs : List (List UInt8)
  W : List (List UInt8)
  x : Ses
  y : Ses
  ts : List Term
  V : Value
  Vs : Value
  Vw : Value
structure RfOk (z : RfT) (n : Nat) : Prop where
  lk : Lk z.ts z.W z.i z.x z.y
  hid : HidW z.ts z.W
  tok : TsOk z.ts
  len : z.ts.length ≤ 30 + 10 * z.i
  i1 : z.i ≤ n
  i2 : z.i ≤ 30
  sec : ∀ k ∈ z.secs, k ∈ z.W
  seen : ∀ k ∈ z.seen, ∃ q, TermOk q ∧ Nm z.ts q k ∧ (q.kind = 3 ∨ q.kind = 6)
  sl : z.seen.length = 2 * z.i
  wl : z.secs.length = z.i
theorem RfOk.s32 {z : RfT} {n : Nat} (h : RfOk z n) : (∀ k ∈ z.seen, k.length = 32) ∧ ∀ k ∈ z.secs, k.length = 32 := by
  refine ⟨fun k hk => ?_, fun k hk => ?_⟩
  · obtain ⟨q, _, h2, _⟩ := h.seen k hk; exact h2.len
  · obtain ⟨q, _, h2, _⟩ := h.hid.old k (h.sec k hk); exact h2.len
def rfL (l3 l7 : Nat × Nat) (t : Tb) (z : RfT) : List (Option Blk) :=
  [none, none, none, some (.box l3 1 (freeS t.b t.l)), none, none, none, some (.box l7 330 (.arr 165 [sesA z.x, sesA z.y]))] ++ List.replicate 105 none ++ [some (.row 29 z.Vs 32 (klA z.seen) 0), none, none, none, some (.row 29 z.Vw 32 (klA z.secs) 0)] ++ List.replicate 27 none
def rfS (N : Nat) (H : List (Option Blk)) (t : Tb) (T : List AV) (l3 l7 : Nat × Nat) (z : RfT) : AS :=
  ⟨N, [.sl 2 T, .any, .lit (.bool false), .ptr (N + 3) l3 0 [], .any, .any, .any, .ptr (N + 7) l7 0 [], .own (N + 113) z.Vs, .own (N + 117) z.Vw, .lit (jn z.i)] ++ List.replicate 134 .any, tbOf H t z.V z.ts ++ rfL l3 l7 t z⟩
def rfC (H : List (Option Blk)) (t : Tb) (l3 : Nat × Nat) (V : Value) (ts : List Term) (Vw : Value) (secs : List (List UInt8)) (V4 : Value) (all : List (List UInt8)) : List (Option Blk) :=
  tbOf H t V ts ++ ([none, none, none, some (.box l3 1 (freeS t.b t.l))] ++ List.replicate 113 none ++ [some (.row 29 Vw 32 (klA secs) 0)] ++ List.replicate 9 none ++ [some (.row 29 V4 32 (klA all) 0)] ++ List.replicate 17 none)
def zs2 : AV := .arr 165 [zsA, zsA]
set_option maxRecDepth 100000 in
set_option maxHeartbeats 64000000 in
theorem ratchetForgets_call (as_ : List (Int × Int)) (hA : as_.length < 9223372036854775808) : PCall Go.Proofs.Tryd.prog 4 [.sl 2 (as_.map actA)] (.val (.lit (.bool true))) := by
  have h901 := fc901_eq
  have hc6 : callable Go.Proofs.Tryd.prog 6 = true := by kernel_rfl
  have al := ralive_call
  have hTl : (as_.map actA).length = as_.length := List.length_map _
  have hTg : ∀ i (a : Int × Int), as_[i]? = some a → (as_.map actA)[i]? = some (AV.st [1, 1] [.lit (.int .i64 a.1), .lit (.int .i64 a.2)]) := fun i a h => by rw [List.getElem?_map, h]; rfl
  generalize as_.map actA = T at *
  refine PCall.of h901 rfl ?_; show AC.wp _ fb901 (AS.init [.sl 2 T] 1 145) (fun x s => match x with | .exit _ => False | _ => Fin [(.tmp 2)] s _); unfold fb901 AS.init
  refine wp_sr (by simp [push_cast]; exact rfl) ?_
  refine wp_seq' (wp_seq' (wp_rg ?_))
  refine areg_ca (by simp [AS.ev, AS.coe, AS.put] <;> exact rfl) al ?_
  refine areg_end (by simp [push_cast]; exact rfl) ?_
  refine wp_cond_f rfl (wp_skip' ?_)
  refine wp_sgL ?_
  refine areg_run 0 (by simp [push_cast]; exact rfl) ?_
  refine areg_xq (us := []) rfl (by simp only [tgtA, tgtB, Option.bind_some, hc6, if_true]) (newfree_call _) ⟨_, _, (0, 0), 0, rfl, rfl⟩ (fun r hp' _ t' ht' => by cases ht') ?_
  rintro r H' ⟨l, rr, rfl, rfl⟩
  refine areg_run 0 (by simp [push_cast]; exact rfl) ?_
  refine areg_al' rfl fun l3 => areg_end (by simp [push_cast, freeS_sz, freeS_agg, freeS_tup]; exact rfl) ?_
  refine wp_kit (n := 145) (Lo := [none, none, none, some (.box l3 1 (freeS 145 l))] ++ List.replicate 141 none) (fun N t => [.sl 2 T, .any, .lit (.bool false), .ptr (N + 3) l3 0 []] ++ List.replicate 141 .any) (fun N t => [none, none, none, some (.box l3 1 (freeS t.b t.l))] ++ List.replicate 141 none) rfl ?_ ?_ fun N H t V hh hN => ?_
  · simp [leA, RelLe.refl', RelLe.ptr']
  · simp [leB, tbNew, BlkLe.freeS']
  have g1 : ∀ V' ts' L k, (tbOf H t V' ts' ++ L)[N + k]? = L[k]? := fun V' ts' L k => cat1 _ _ _ _ (by rw [tbOf_len, hN])
  have g2 : ∀ V' ts' L k x, (tbOf H t V' ts' ++ L).set (N + k) x = tbOf H t V' ts' ++ L.set k x := fun V' ts' L k x => cat2 _ _ _ _ _ (by rw [tbOf_len, hN])
  obtain ⟨x0, y0, us0, W0, ⟨hW0, L0, ou0, lu0, _, _, _⟩, hpair⟩ := pair_k
  have kp := hpair H t V [] hh
  clear hpair
  refine wp_sg ?_
  refine areg_run 1 (by simp [push_cast, g1, freeS_sz, freeS_agg, freeS_tup]; exact rfl) ?_
  refine areg_rdp (us := [freeS t.b t.l]) rfl (mkifc_free _ _) ?_
  refine areg_k [freeI t.b t.l] hN rfl (tgt_pairZ _) kp (by simp) (by simp) fun V1 => ?_
  refine areg_run 4 (by simp [push_cast]; exact rfl) ?_
  refine areg_al' (z' := zsA) (by rw [zsA, zk_eq]) fun l4 => areg_al' (z' := zsA) (by rw [zsA, zk_eq]) fun l5 => areg_end (by simp [push_cast, g1, g2, sesA_st, zsA, zk_len]; exact rfl) ?_
  refine wp_seq' (wp_sr (by simp [push_cast]; exact rfl) ?_)
  refine wp_cond_f (by simp [AS.ev]) (wp_skip' ?_)
  refine wp_sg ?_
  refine areg_run 2 (by simp [push_cast, g1]; exact rfl) ?_
  refine areg_bd (z' := .arr 165 [sesA x0, sesA y0]) (fill_ar rfl rfl rfl (by simp [AV.sz, AS.ev, AS.put]) (fill_ar rfl rfl rfl (by simp [AV.sz, AS.ev, AS.put]) rfl)) ?_
  refine areg_al' (z' := zs2) (by rw [zs2, zsA, zk_eq]) fun l7 => areg_end (by simp [push_cast, g1, g2, zs2]; exact rfl) ?_
  refine wp_sr (by simp [push_cast]; exact rfl) ?_
  refine wp_seqM (rfS N H t T l3 l7) (fun z => RfOk z as_.length) ?_ ?_
  rotate_left
  refine wp_seq' (wp_r (by simp [push_cast]; exact rfl) ?_)
  refine wp_block' (wp_loop_m (rfS N H t T l3 l7) (fun z => as_.length - z.i) (fun z => RfOk z as_.length) ⟨0, [], [], W0, x0, y0, us0, V1, .slice none 0 0, .slice none 0 0⟩ ?_ ⟨L0, hW0, ou0, by simpa using lu0, by simp, by simp, by simp, by simp, rfl, rfl⟩ ?_)
  · refine Le.trans (Le.nilRow (t := 8) (b := N + 113) rfl (by simp only [AS.blk, g1]; rfl) 29 32) ?_
    simp only [g2]
    refine Le.trans (Le.nilRow (t := 9) (b := N + 117) rfl (by simp only [AS.blk, g1]; rfl) 29 32) (Le.mk rfl (by simp [rfS, leT]) ?_)
    simp only [g2, rfS, rfL]
    exact leH_app (leH_refl _) (by simp [leH, freeS, klA])
  clear hW0 L0 ou0 lu0 kp
  rotate_left
  · rintro ⟨i, seen, secs, W, x, y, ts, V2, Vs, Vw⟩ hz
    have hzs := hz.s32
    obtain ⟨L, hW, hts, hl, i1, i2, hsec, hsn, hsl, hwl⟩ := hz
    simp only at L hW hts hl i1 i2 hsec hsn hsl hwl hzs
    obtain ⟨hs32, hw32⟩ := hzs
    unfold rfS rfL
    simp only
    have cx := (keys_call L.ox L.c.skx).sealed
    have cy := (keys_call L.oy L.c.sky).sealed
    refine wp_sg ?_
    refine areg_run 3 (by simp [push_cast, g1, sesA_st]; exact rfl) ?_
    refine areg_ca (by simp [AS.ev, AS.coe, AS.put] <;> exact rfl) cx ?_
    refine areg_ap (b := N + 113) (V := Vs) (ys := klA [x.mine, x.theirs, x.root, x.send, x.recv]) rfl (by simp only [AS.blk, AS.put, g1]; rfl) (by simp [AS.ev, AS.put, AS.coe]) (by rw [klA_len, hsl, klA_len]; simp [maxLen]; omega) (by rw [klA_len, hsl, klA_len]; simp; omega) (fun V3 => ?_)
    refine areg_end (by simp [push_cast, g1, g2]; exact rfl) ?_
    have hk1 : klA seen ++ klA [x.mine, x.theirs, x.root, x.send, x.recv] = klA (seen ++ [x.mine, x.theirs, x.root, x.send, x.recv]) := by simp [klA]
    rw [hk1]
    refine wp_sgL ?_
    refine areg_run 3 (by simp [push_cast, g1, sesA_st]; exact rfl) ?_
    refine areg_ca (by simp [AS.ev, AS.coe, AS.put] <;> exact rfl) cy ?_
    refine areg_ap (b := N + 122) (V := V3) (ys := klA [y.mine, y.theirs, y.root, y.send, y.recv]) rfl (by simp only [AS.blk, AS.put, g1]; rfl) (by simp [AS.ev, AS.put, AS.coe]) (by rw [klA_len, List.length_append, hsl, klA_len]; simp [maxLen]; omega) (by rw [klA_len, List.length_append, hsl, klA_len]; simp; omega) (fun V4 => ?_)
    have hk2 : klA (seen ++ [x.mine, x.theirs, x.root, x.send, x.recv]) ++ klA [y.mine, y.theirs, y.root, y.send, y.recv] = klA (seen ++ [x.mine, x.theirs, x.root, x.send, x.recv] ++ [y.mine, y.theirs, y.root, y.send, y.recv]) := by simp [klA]
    rw [hk2]
    have hso : ∀ k ∈ seen ++ [x.mine, x.theirs, x.root, x.send, x.recv] ++ [y.mine, y.theirs, y.root, y.send, y.recv], Open ts W k := fun k hk => by
      have hmx := L.c.mx.open hts hW
      have hmy := L.c.my.open hts hW
      have hpx := open_kind hts hW (pubT_ok L.oy.mine) L.px (.inl rfl)
      have hpy := open_kind hts hW (pubT_ok L.ox.mine) L.py (.inl rfl)
      simp only [List.append_assoc, List.mem_append, List.mem_cons, List.not_mem_nil, or_false] at hk
      rcases hk with hk | ((rfl | rfl | rfl | rfl | rfl) | (rfl | rfl | rfl | rfl | rfl))
      · obtain ⟨q, q1, q2, q3⟩ := hsn k hk
        exact open_kind hts hW q1 q2 q3
      · exact hmx
      · exact hpx
      · exact L.c.cr.open
      · exact L.c.cs.open
      · exact L.c.cv.open
      · exact hmy
      · exact hpy
      · rw [← L.c.root]; exact L.c.cr.open
      · rw [← L.c.rs]; exact L.c.cv.open
      · rw [← L.c.sr]; exact L.c.cs.open
    have hsl2 : (seen ++ [x.mine, x.theirs, x.root, x.send, x.recv] ++ [y.mine, y.theirs, y.root, y.send, y.recv]).length < 100000 := by simp [hsl]; omega
    have ho32 : ∀ k ∈ seen ++ [x.mine, x.theirs, x.root, x.send, x.recv] ++ [y.mine, y.theirs, y.root, y.send, y.recv], k.length = 32 := fun k hk => by
      obtain ⟨⟨q, _, q2⟩, _⟩ := hso k hk
      exact q2.len
    generalize seen ++ [x.mine, x.theirs, x.root, x.send, x.recv] ++ [y.mine, y.theirs, y.root, y.send, y.recv] = all at *
    clear hk1 hk2 cx cy
    have hlow : secs.length < 100 := by omega
    refine areg_end (by simp [push_cast, g1, g2]; exact rfl) ?_
    refine ⟨⟨N, [.sl 2 T, .any, .lit (.bool false), .ptr (N + 3) l3 0 [], .any, .any, .any, .any, .own (N + 127) V4, .own (N + 117) Vw] ++ List.replicate 135 .any, rfC H t l3 V2 ts Vw secs V4 all⟩, Le.cat (by simp [leT]) (by simp [leH]), ?_⟩
    have hCl : (rfC H t l3 V2 ts Vw secs V4 all).length = N + 145 := by simp [rfC, tbOf_len, hN]
    have hC3 : (rfC H t l3 V2 ts Vw secs V4 all)[N + 3]? = some (some (.box l3 1 (freeS t.b t.l))) := by unfold rfC; rw [g1]; rfl
    have hCw : (rfC H t l3 V2 ts Vw secs V4 all)[N + 117]? = some (some (.row 29 Vw 32 (klA secs) 0)) := by unfold rfC; rw [g1]; rfl
    have hCf := follow_at hh hts V2 (L := [none, none, none, some (.box l3 1 (freeS t.b t.l))] ++ List.replicate 113 none ++ [some (.row 29 Vw 32 (klA secs) 0)] ++ List.replicate 9 none ++ [some (.row 29 V4 32 (klA all) 0)] ++ List.replicate 17 none) (seen := all) hsl2 ho32 (c := N + 127) (sl := 0) (Vc := V4) (by rw [g1]; rfl)
    have hfold : tbOf H t V2 ts ++ ([none, none, none, some (.box l3 1 (freeS t.b t.l))] ++ List.replicate 113 none ++ [some (.row 29 Vw 32 (klA secs) 0)] ++ List.replicate 9 none ++ [some (.row 29 V4 32 (klA all) 0)] ++ List.replicate 17 none) = rfC H t l3 V2 ts Vw secs V4 all := rfl
    rw [hfold] at hCf
    generalize rfC H t l3 V2 ts Vw secs V4 all = C at *
    refine wp_sg ?_
    refine areg_run 3 (by simp [push_cast, hC3, freeS]; exact rfl) ?_
    refine areg_xc (vs := [.ptr t.b t.l 0 [], .own (N + 127) V4]) rfl hCf (FolK.ex (Fol_ex _ _) (by have := hts.len; omega)) ?_
    rintro r H' ⟨K, f, Vk, L', hK, rfl, rfl, hFc⟩
    have hno := hW.hides hts hso hK
    refine areg_end (by simp [push_cast]; exact rfl) ?_
    have gw : (C ++ L')[N + 117]? = some (some (.row 29 Vw 32 (klA secs) 0)) := by
      rw [List.getElem?_append_left (by omega)]; exact hCw
    have hfc := hFc C rfl
    refine wp_seq' (wp_seq' (wp_r (by simp [push_cast]; exact rfl) ?_))
    refine wp_block' (wp_loop_m (fun j : Nat => ⟨N, [.sl 2 T, .any, .lit (.bool false), .any, .any, .any, .any, .any, .any, .own (N + 117) Vw, .any, .any, .any, .any, .any, .any, .any, .any, .any, .any, cloH f.b f.l, .lit (jn j)] ++ List.replicate 123 .any, C ++ L'⟩) (fun j => secs.length - j) (fun j => j ≤ secs.length) 0 (Le.mk rfl (by simp [leT]) (leH_refl _)) (by simp) ?_)
    intro j hj
    simp only
    have hkl : (klA secs).length = secs.length := klA_len _
    by_cases hjl : j < secs.length
    · obtain ⟨u, hu⟩ : ∃ u, secs[j]? = some u := ⟨_, List.getElem?_eq_getElem hjl⟩
      have hum := List.mem_of_getElem? hu
      have hu32 := hw32 u hum
      have hnu := hno u (hsec u hum)
      have j1 : (klA secs)[j]? = some (keyA u) := by rw [klA_get, hu]; rfl
      have j2 : ∀ h, (klA secs)[j]'h = keyA u := fun h => by rw [List.getElem?_eq_getElem h] at j1; exact Option.some.inj j1
      have j3 : j + 1 < 9223372036854775808 := by omega
      generalize klA secs = TS at *
      refine wp_seq' (wp_sr (by simp [push_cast, gw, hkl, hjl]; exact rfl) ?_)
      refine wp_cond_t (by simp [AS.ev]) (wp_skip' ?_)
      refine wp_seq' (wp_block' (wp_sg ?_))
      refine areg_run 5 (by simp [push_cast, gw, hkl, hjl, j1, j2]; exact rfl) ?_
      refine areg_xq (us := [cloH f.b f.l, keyA u]) rfl (tgt_cloH _ _ _) (has_call hfc hu32) ⟨_, _, rfl, rfl⟩ (fun r hp' _ t' ht' => by cases ht') ?_
      rintro r H' ⟨rfl, rfl⟩
      rw [hnu]
      refine areg_end (by simp [push_cast]; exact rfl) ?_
      refine wp_cond_f rfl (wp_skip' ?_)
      refine wp_r (by simp [push_cast, j3]; exact rfl) ?_
      refine Exists.intro (j + 1) ⟨by omega, by omega, Le.mk rfl (by simp [leT]) (leH_refl _)⟩
    · refine wp_seq' (wp_sr (by simp [push_cast, gw, hkl, hjl]; exact rfl) ?_)
      refine wp_cond_f (by simp [AS.ev]) (wp_exit' (if_hit rfl ?_))
      refine wp_sg ?_
      refine areg_ca (by simp [AS.ev, AS.coe, AS.put] <;> exact rfl) al ?_
      refine areg_end (by simp [push_cast]; exact rfl) (wp_ret' ?_)
      exact fin_tmp (by simp [RVal, AS.ev, AS.coe]) (by simp)
  rintro ⟨i, seen, secs, W, x, y, ts, V2, Vs, Vw⟩ hz
  have hz0 := hz
  have hzs := hz.s32
  obtain ⟨L, hW, hts, hl, i1, i2, hsec, hsn, hsl, hwl⟩ := hz
  simp only at L hW hts hl i1 i2 hsec hsn hsl hwl hzs ⊢
  obtain ⟨hs32, hw32⟩ := hzs
  unfold rfS rfL
  simp only
  have k7 : key7.length = 32 := rfl
  by_cases hlt : i < as_.length ∧ i < 30
  · obtain ⟨h1, h2⟩ := hlt
    obtain ⟨act, ha⟩ : ∃ a, as_[i]? = some a := ⟨_, List.getElem?_eq_getElem h1⟩
    have e1 := hTg i act ha
    have e2 : ∀ h, T[i]'h = AV.st [1, 1] [.lit (.int .i64 act.1), .lit (.int .i64 act.2)] := fun h => by rw [List.getElem?_eq_getElem h] at e1; exact Option.some.inj e1
    obtain ⟨m, hm, hcm⟩ := cvt_iu act.1
    have hcr := cvt_uj2 (m % 2) (by omega)
    have q1 : i + 1 < 9223372036854775808 := by omega
    have hci : cvtA .u64 (.lit (jn i)) = some (.lit (un i)) := by rw [cvt_64j, Nat.mod_eq_of_lt (by omega)]
    have cD := digsR_call i (by omega)
    have hdl := digs_len i
    have b1 : binVal .add (tx [115, 101, 99, 114, 101, 116]) (tx (digs i)) = some (tx (txSecret ++ digs i)) := bin_adds _ _ (by simp only [List.length_cons, List.length_nil]; omega)
    have b2 : binVal .add (tx [116]) (tx (digs i)) = some (tx (116 :: digs i)) := bin_adds _ _ (by simp only [List.length_cons, List.length_nil]; omega)
    have hso : (txSecret ++ digs i).length < 1000 := by simp [txSecret]; omega
    have kd := draw_k hh (ts := ts) (by omega) (s := txSecret ++ digs i) (by omega)
    have n1 := Nm.put ts (drawT (txSecret ++ digs i))
    have n2 := put_pre ts (drawT (txSecret ++ digs i))
    have n3 := hts.draw (s := txSecret ++ digs i) hso (by omega)
    have n4 := putT_len ts (drawT (txSecret ++ digs i))
    have n5 : ∀ z ∈ putT ts (drawT (txSecret ++ digs i)), z.kind = 6 → z.keys.getD 0 zk ∈ W := fun z hz h6 => by
      rcases mem_put hz with hz | rfl
      · exact hW.box z hz h6
      · simp [drawT] at h6
    generalize nameK (putN ts (drawT (txSecret ++ digs i))) = sec at *
    generalize putT ts (drawT (txSecret ++ digs i)) = tA at *
    have hse := n1.len
    have hWA := hW.mono n2 n5
    have LA := L.mono n2
    have hsh : HidS (txSecret ++ digs i) := .inr (.inr ⟨_, rfl⟩)
    refine wp_seq' (wp_sr (by simp [push_cast, hTl, h1, h2]; exact rfl) ?_)
    refine wp_cond_t (by simp [AS.ev]) (wp_skip' ?_)
    refine wp_seq' (wp_block' (wp_sr (by simp [push_cast, e1, e2, h1, hTl, hcm, hcr]; exact rfl) ?_))
    refine wp_sg ?_
    refine areg_run 4 (by simp [push_cast, g1, freeS, hci]; exact rfl) ?_
    refine areg_cv (by simp [AS.ev, AS.coe, AS.put] <;> exact rfl) cD ?_
    refine areg_run 1 (by simp [push_cast, b1]; exact rfl) ?_
    refine areg_k [.ptr t.b t.l 0 [], .lit (tx (txSecret ++ digs i))] hN rfl (tgt_drawS _ _ _) kd (by simp) (by simp) fun V3 => ?_
    refine areg_al' zk_eq.symm fun l12 => areg_end (by simp [push_cast, g1, g2, hse]; exact rfl) ?_
    have hm2 : m % 2 = 0 ∨ m % 2 = 1 := by omega
    rcases hm2 with hm2 | hm2 <;> rw [hm2]
    · obtain ⟨x1, ts1, x2, h, body, us, y2, W2, c1, c2, c3, c4, c5, c6, c7, c8, c9, c10, c11, c12, c13, c14, c15, c16, c17, c18, c19, c20, c21, c22, _⟩ := round_law n3 (by omega) hWA (i := i) (by omega) LA (sec := sec) (by_ := key7) n1 hsh (drawT_ok (by omega)) k7
      have ks := send_k hh (ts := tA) (by omega) L.ox (draw := 116 :: digs i) (by simp; omega) k7 (ks := [sec]) (by simp) (by simp [hse]) c1 c2 (by omega) c4 c5 c6
      have hskl : y.skips.length ≤ 16 := by rw [L.c.sky]; simp
      have kr := rcv_k hh (ts := us) c7 (by omega) L.oy hskl (by have := L.by_; omega) c10 c11 c12 c13 k7 (by omega) c16 c15
      have km := mark_k (H := H) (t := t) (ts := us) c14
      have hp32 := c10
      unfold rcvA at kr
      simp only at kr
      clear c1 c6 c15 c16
      refine wp_sg ?_
      refine areg_run 1 (by simp [push_cast, g1, freeS_sz, freeS_agg, freeS_tup]; exact rfl) ?_
      refine areg_rdp (us := [freeS t.b t.l]) rfl (mkifc_free _ _) ?_
      refine areg_run 5 (by simp [push_cast, g1, hci, sesA_st]; exact rfl) ?_
      refine areg_cv (by simp [AS.ev, AS.coe, AS.put] <;> exact rfl) cD ?_
      refine areg_run 1 (by simp [push_cast, b2]; exact rfl) ?_
      refine areg_bd (z' := keyA key7) (fill_ar rfl rfl rfl rfl rfl) ?_
      refine areg_run 1 (by simp [push_cast, g1, hse]; exact rfl) ?_
      refine areg_bsl (k := 32) (els := klA [sec]) (fill_ar rfl rfl rfl (by simp [AV.sz, AS.ev, AS.put, hse, bl_len]) rfl) ?_
      refine areg_k [freeI t.b t.l, sesA x, .lit (tx (116 :: digs i)), keyA key7, .sl 32 (klA [sec])] hN rfl (tgt_sendZ _ _ _ _ _) ks (by simp) (by simp) fun V4 => ?_
      refine areg_run 5 (by simp [push_cast]; exact rfl) ?_
      refine areg_al' (z' := zsA) (by rw [zsA, zk_eq]) fun l13 => areg_al' (z' := zhA) (by rw [zhA, zk_eq]) fun l14 => areg_end (by simp [push_cast, g1, g2, sesA_st, headA_st, zsA, zhA, zk_len]; exact rfl) ?_
      refine wp_seq' (wp_seq' (wp_r (by simp [push_cast]; exact rfl) ?_))
      refine wp_cond_f (by simp [AS.ev]) (wp_skip' ?_)
      refine wp_sg ?_
      refine areg_run 1 (by simp [push_cast, g1, freeS_sz, freeS_agg, freeS_tup]; exact rfl) ?_
      refine areg_rdp (us := [freeS t.b t.l]) rfl (mkifc_free _ _) ?_
      refine areg_run 5 (by simp [push_cast, g1, sesA_st, headA_st]; exact rfl) ?_
      refine areg_bd (z' := keyA key7) (fill_ar rfl rfl rfl rfl rfl) ?_
      refine areg_run 1 (by simp [push_cast]; exact rfl) ?_
      refine areg_k [freeI t.b t.l, sesA y, headA h, keyA key7, .lit (tx body)] hN rfl (tgt_rcvZ _ _ _ _ _) kr (by simp) (by simp) fun V5 => ?_
      refine areg_run 4 (by simp [push_cast]; exact rfl) ?_
      refine areg_al' (z' := zsA) (by rw [zsA, zk_eq]) fun l17 => areg_end (by simp [push_cast, g1, g2, sesA_st, zsA, zk_len]; exact rfl) ?_
      refine wp_seq' (wp_seq' (wp_r (by simp [push_cast]; exact rfl) ?_))
      refine wp_cond_f (by simp [AS.ev]) (wp_skip' ?_)
      refine wp_sr (by simp [push_cast, g1, g2]; exact rfl) ?_
      refine wp_sr (by simp [push_cast, g1, g2]; exact rfl) ?_
      refine wp_sg ?_
      refine areg_run 6 (by simp [push_cast, g1, hp32, freeS]; exact rfl) ?_
      refine areg_k [.ptr t.b t.l 0 [], .lit (tx body)] hN rfl (tgt_mark _ _ _) km (by simp) (by simp [AS.ev, AV.place]) fun V6 => ?_
      refine areg_bsl (k := 32) (els := klA [h.pub, body]) (fill_ar rfl rfl rfl (by simp [AV.sz, AS.ev, AS.put, hp32, bl_len]) (fill_ar rfl rfl rfl (by simp [AV.sz, AS.ev, AS.put, c14, bl_len, keyA]) rfl)) ?_
      refine areg_ap (b := N + 113) (V := Vs) (ys := klA [h.pub, body]) rfl (by simp only [AS.blk, AS.put, g1]; rfl) (by simp [AS.ev, AS.put, AS.coe]) (by rw [klA_len, hsl, klA_len]; simp [maxLen]; omega) (by rw [klA_len, hsl, klA_len]; simp; omega) (fun V7 => ?_)
      refine areg_end (by simp [push_cast, g1, g2]; exact rfl) ?_
      refine wp_rg ?_
      refine areg_run 2 (by simp [push_cast, g1, hse]; exact rfl) ?_
      refine areg_bsl (k := 32) (els := klA [sec]) (fill_ar rfl rfl rfl (by simp [AV.sz, AS.ev, AS.put, hse, bl_len]) rfl) ?_
      refine areg_ap (b := N + 117) (V := Vw) (ys := klA [sec]) rfl (by simp only [AS.blk, AS.put, g1]; rfl) (by simp [AS.ev, AS.put, AS.coe]) (by rw [klA_len, hwl, klA_len]; simp [maxLen]; omega) (by rw [klA_len, hwl, klA_len]; simp; omega) (fun V8 => ?_)
      refine areg_end (by simp [push_cast, g1, g2]; exact rfl) ?_
      have hk1 : klA seen ++ klA [h.pub, body] = klA (seen ++ [h.pub, body]) := by simp [klA]
      have hk2 : klA secs ++ klA [sec] = klA (secs ++ [sec]) := by simp [klA]
      rw [hk1, hk2]
      refine wp_r (by simp [push_cast, q1]; exact rfl) ?_
      refine Exists.intro ⟨i + 1, seen ++ [h.pub, body], secs ++ [sec], W2, x2, y2, us, V6, V7, V8⟩ ⟨⟨c18, c17, c7, by simp only; omega, by simp only; omega, by simp only; omega, ?_, ?_, by simp [hsl]; omega, by simp [hwl]⟩, by simp only; omega, Le.mk rfl (by simp [rfS, leT]) ?_⟩
      · intro k hk
        rcases List.mem_append.1 hk with hk | hk
        · exact c19 k (hsec k hk)
        · simp only [List.mem_singleton] at hk
          subst hk
          exact c20
      · intro k hk
        rcases List.mem_append.1 hk with hk | hk
        · obtain ⟨q, q1, q2, q3⟩ := hsn k hk
          exact ⟨q, q1, (q2.mono n2).mono c9, q3⟩
        · simp only [List.mem_cons, List.not_mem_nil, or_false] at hk
          rcases hk with rfl | rfl
          · obtain ⟨q, q1, q2, q3⟩ := c21
            exact ⟨q, q1, q2, .inl q3⟩
          · obtain ⟨q, q1, q2, q3⟩ := c22
            exact ⟨q, q1, q2, .inr q3⟩
      · exact leH_cat _ (by simp [rfL, leH, freeS, sesA_st] <;> (repeat' (first | rfl | exact Or.inr rfl | apply And.intro)))
    · obtain ⟨x1, ts1, x2, h, body, us, y2, W2, c1, c2, c3, c4, c5, c6, c7, c8, c9, c10, c11, c12, c13, c14, c15, c16, c17, c18, c19, c20, c21, c22, _⟩ := round_law n3 (by omega) hWA (i := i) (by omega) LA.symm (sec := sec) (by_ := key7) n1 hsh (drawT_ok (by omega)) k7
      have ks := send_k hh (ts := tA) (by omega) L.oy (draw := 116 :: digs i) (by simp; omega) k7 (ks := [sec]) (by simp) (by simp [hse]) c1 c2 (by omega) c4 c5 c6
      have hskl : x.skips.length ≤ 16 := by rw [L.c.skx]; simp
      have kr := rcv_k hh (ts := us) c7 (by omega) L.ox hskl (by have := L.bx; omega) c10 c11 c12 c13 k7 (by omega) c16 c15
      have km := mark_k (H := H) (t := t) (ts := us) c14
      have hp32 := c10
      unfold rcvA at kr
      simp only at kr
      clear c1 c6 c15 c16
      refine wp_sg ?_
      refine areg_run 1 (by simp [push_cast, g1, freeS_sz, freeS_agg, freeS_tup]; exact rfl) ?_
      refine areg_rdp (us := [freeS t.b t.l]) rfl (mkifc_free _ _) ?_
      refine areg_run 5 (by simp [push_cast, g1, hci, sesA_st]; exact rfl) ?_
      refine areg_cv (by simp [AS.ev, AS.coe, AS.put] <;> exact rfl) cD ?_
      refine areg_run 1 (by simp [push_cast, b2]; exact rfl) ?_
      refine areg_bd (z' := keyA key7) (fill_ar rfl rfl rfl rfl rfl) ?_
      refine areg_run 1 (by simp [push_cast, g1, hse]; exact rfl) ?_
      refine areg_bsl (k := 32) (els := klA [sec]) (fill_ar rfl rfl rfl (by simp [AV.sz, AS.ev, AS.put, hse, bl_len]) rfl) ?_
      refine areg_k [freeI t.b t.l, sesA y, .lit (tx (116 :: digs i)), keyA key7, .sl 32 (klA [sec])] hN rfl (tgt_sendZ _ _ _ _ _) ks (by simp) (by simp) fun V4 => ?_
      refine areg_run 5 (by simp [push_cast]; exact rfl) ?_
      refine areg_al' (z' := zsA) (by rw [zsA, zk_eq]) fun l13 => areg_al' (z' := zhA) (by rw [zhA, zk_eq]) fun l14 => areg_end (by simp [push_cast, g1, g2, sesA_st, headA_st, zsA, zhA, zk_len]; exact rfl) ?_
      refine wp_seq' (wp_seq' (wp_r (by simp [push_cast]; exact rfl) ?_))
      refine wp_cond_f (by simp [AS.ev]) (wp_skip' ?_)
      refine wp_sg ?_
      refine areg_run 1 (by simp [push_cast, g1, freeS_sz, freeS_agg, freeS_tup]; exact rfl) ?_
      refine areg_rdp (us := [freeS t.b t.l]) rfl (mkifc_free _ _) ?_
      refine areg_run 5 (by simp [push_cast, g1, sesA_st, headA_st]; exact rfl) ?_
      refine areg_bd (z' := keyA key7) (fill_ar rfl rfl rfl rfl rfl) ?_
      refine areg_run 1 (by simp [push_cast]; exact rfl) ?_
      refine areg_k [freeI t.b t.l, sesA x, headA h, keyA key7, .lit (tx body)] hN rfl (tgt_rcvZ _ _ _ _ _) kr (by simp) (by simp) fun V5 => ?_
      refine areg_run 4 (by simp [push_cast]; exact rfl) ?_
      refine areg_al' (z' := zsA) (by rw [zsA, zk_eq]) fun l17 => areg_end (by simp [push_cast, g1, g2, sesA_st, zsA, zk_len]; exact rfl) ?_
      refine wp_seq' (wp_seq' (wp_r (by simp [push_cast]; exact rfl) ?_))
      refine wp_cond_f (by simp [AS.ev]) (wp_skip' ?_)
      refine wp_sr (by simp [push_cast, g1, g2]; exact rfl) ?_
      refine wp_sr (by simp [push_cast, g1, g2]; exact rfl) ?_
      refine wp_sg ?_
      refine areg_run 6 (by simp [push_cast, g1, hp32, freeS]; exact rfl) ?_
      refine areg_k [.ptr t.b t.l 0 [], .lit (tx body)] hN rfl (tgt_mark _ _ _) km (by simp) (by simp [AS.ev, AV.place]) fun V6 => ?_
      refine areg_bsl (k := 32) (els := klA [h.pub, body]) (fill_ar rfl rfl rfl (by simp [AV.sz, AS.ev, AS.put, hp32, bl_len]) (fill_ar rfl rfl rfl (by simp [AV.sz, AS.ev, AS.put, c14, bl_len, keyA]) rfl)) ?_
      refine areg_ap (b := N + 113) (V := Vs) (ys := klA [h.pub, body]) rfl (by simp only [AS.blk, AS.put, g1]; rfl) (by simp [AS.ev, AS.put, AS.coe]) (by rw [klA_len, hsl, klA_len]; simp [maxLen]; omega) (by rw [klA_len, hsl, klA_len]; simp; omega) (fun V7 => ?_)
      refine areg_end (by simp [push_cast, g1, g2]; exact rfl) ?_
      refine wp_rg ?_
      refine areg_run 2 (by simp [push_cast, g1, hse]; exact rfl) ?_
      refine areg_bsl (k := 32) (els := klA [sec]) (fill_ar rfl rfl rfl (by simp [AV.sz, AS.ev, AS.put, hse, bl_len]) rfl) ?_
      refine areg_ap (b := N + 117) (V := Vw) (ys := klA [sec]) rfl (by simp only [AS.blk, AS.put, g1]; rfl) (by simp [AS.ev, AS.put, AS.coe]) (by rw [klA_len, hwl, klA_len]; simp [maxLen]; omega) (by rw [klA_len, hwl, klA_len]; simp; omega) (fun V8 => ?_)
      refine areg_end (by simp [push_cast, g1, g2]; exact rfl) ?_
      have hk1 : klA seen ++ klA [h.pub, body] = klA (seen ++ [h.pub, body]) := by simp [klA]
      have hk2 : klA secs ++ klA [sec] = klA (secs ++ [sec]) := by simp [klA]
      rw [hk1, hk2]
      refine wp_r (by simp [push_cast, q1]; exact rfl) ?_
      refine Exists.intro ⟨i + 1, seen ++ [h.pub, body], secs ++ [sec], W2, y2, x2, us, V6, V7, V8⟩ ⟨⟨c18.symm, c17, c7, by simp only; omega, by simp only; omega, by simp only; omega, ?_, ?_, by simp [hsl]; omega, by simp [hwl]⟩, by simp only; omega, Le.mk rfl (by simp [rfS, leT]) ?_⟩
      · intro k hk
        rcases List.mem_append.1 hk with hk | hk
        · exact c19 k (hsec k hk)
        · simp only [List.mem_singleton] at hk
          subst hk
          exact c20
      · intro k hk
        rcases List.mem_append.1 hk with hk | hk
        · obtain ⟨q, q1, q2, q3⟩ := hsn k hk
          exact ⟨q, q1, (q2.mono n2).mono c9, q3⟩
        · simp only [List.mem_cons, List.not_mem_nil, or_false] at hk
          rcases hk with rfl | rfl
          · obtain ⟨q, q1, q2, q3⟩ := c21
            exact ⟨q, q1, q2, .inl q3⟩
          · obtain ⟨q, q1, q2, q3⟩ := c22
            exact ⟨q, q1, q2, .inr q3⟩
      · exact leH_cat _ (by simp [rfL, leH, freeS, sesA_st] <;> (repeat' (first | rfl | exact Or.inr rfl | apply And.intro)))
  · by_cases hA' : i < as_.length
    · have hB : ¬ i < 30 := fun h => hlt ⟨hA', h⟩
      refine wp_seq' (wp_sr (by simp [push_cast, hTl, hA', hB]; exact rfl) ?_)
      refine wp_cond_f (by simp [AS.ev]) (wp_exit' (if_hit rfl ?_))
      exact ⟨_, hz0, Le.mk rfl (by simp [rfS, leT]) (leH_refl _)⟩
    · refine wp_seq' (wp_sr (by simp [push_cast, hTl, hA']; exact rfl) ?_)
      refine wp_cond_f (by simp [AS.ev]) (wp_exit' (if_hit rfl ?_))
      exact ⟨_, hz0, Le.mk rfl (by simp [rfS, leT]) (leH_refl _)⟩
end Go.Cab
namespace Go.Cab
open Go.ChangeShapes Go.WideShapes Go.RowKit Go.ChangeAt
section
variable {H : Type} {enc : TypeId × Value → H} {P : Program}
theorem post_below {f : Func} {s : ChangeSpec} {apart fresh handsOn again : Bool} {W W' : World} {args : Array Value} {v : Value} {ds : List (DataW H)} {before : List MemPlace}
    (hvs : s.vars = []) (hW : DataW.Whole enc P f.params.toList s.vars apart W args.toList ds [] before)
    (hb : Below W.heap.size W W')
    (hres : ∀ (b : Nat) (sp : Nat → Bool) (hd : Bool), DataW.TrodAll enc P W' b sp hd f.resultTypes.toList (v.resultList f.resultTypes.size) (s.fn H (ds ++ [])).results [])
    (hargs : ∀ sp : Nat → Bool, (∀ p ∈ before, sp p.block = true) → DataW.TrodAll enc P W' 0 sp true f.params.toList args.toList (s.fn H (ds ++ [])).args before)
    (hvars : ∀ sp : Nat → Bool, DataW.TrodVars enc P W' sp s.vars (s.fn H (ds ++ [])).vars [])
    (hok : ∀ (j : Nat) (t : TypeId) (r : Value), f.resultTypes[j]? = some t → (v.resultList f.resultTypes.size)[j]? = some r → Value.okWide P W' .any 0 t r) :
    s.post enc P f apart fresh handsOn again W args v W' := by
  have hlt : ∀ p ∈ before, p.block < W.heap.size := fun p hp => hW.lt p hp
  refine ⟨ds, [], before, [], before, [], hW, hres _ _ _, hargs _ (fun p hp => by simpa using hlt p hp), hvars _, hb.frame _, fun _ => ?_⟩
  obtain ⟨_, _, _, _, _, hz, hn⟩ := hW
  refine ⟨hok, _, _, ([] ++ before) ++ [], ⟨[] ++ before, [], trodAll_append (hargs _ (fun _ _ => rfl)) (hres _ _ _), hvars _, rfl, fun b o hp => ?_, fun ha => ?_⟩, fun p hp _ => ?_⟩
  · have hp' : MemPlace.cell b o ∈ before := by simpa using hp
    have h1 := hz b o hp'
    rw [hb.frozen (p := ⟨b, o, none⟩) (hlt _ hp')]
    exact h1
  · simpa using hn ha
  · simpa using hp
end
end Go.Cab
namespace Go.Cab
open Go.ChangeShapes Go.WideShapes Go.RowKit
section
variable {H : Type} {enc : TypeId × Value → H} {P : Program} {W : World} {base : Nat} {sp : Nat → Bool} {held : Bool}
theorem At.app {Imm : Nat → Nat → Prop} {w : World} {b o : Nat} {c d : List Value} (h : At Imm w b o c) (k : At Imm w b (o + c.length) d) : At Imm w b o (c ++ d) := by
  intro i v hv
  by_cases hi : i < c.length
  · rw [List.getElem?_append_left hi] at hv; exact h i v hv
  · rw [List.getElem?_append_right (by omega)] at hv
    have := k (i - c.length) v hv
    rwa [show o + c.length + (i - c.length) = o + i by omega] at this
def StOf (W : World) (ps : List MemPlace) (b o : Nat) : Prop := MemPlace.cell b o ∈ ps ∧ (W.cell? ⟨b, o, none⟩).isSome = true
theorem open_sl {t k : TypeId} {c : Nat} (ht : P.underlying t = some (.slice k)) (hc : P.cellsOf k = c) (G : AV → Prop)
    (hel : ∀ (n : Nat) (cs : List Value) (x : DataW H × List MemPlace), DataW.trod enc P W base sp held n k cs = some x → cs.length = c → ∃ v, G v ∧ R (StOf W x.2) W v cs ∧ ∀ y ∈ cs, sc y = true)
    {r : Reach} {b0 : Nat} {v : Value} (hval : Value.okWide P W r b0 t v) {d : DataW H} {ps : List MemPlace} (hd : DataW.Trod enc P W base sp held t v d ps) :
    ∃ vs : List AV, (∀ u ∈ vs, G u) ∧ Rel (StOf W ps) W (.sl c vs) v := by
  obtain ⟨fuel, hf⟩ := hd
  have hv : (∃ a len cap, v = .slice a len cap) := by
    cases v <;> simp [Value.okWide, Cell.okWide, Cell.ok, ht] at hval ⊢
  obtain ⟨a0, len0, cap0, rfl⟩ := hv
  have hcs : (Value.slice a0 len0 cap0).cells.toList = [.slice a0 len0 cap0] := rfl
  rw [hcs] at hf
  rcases Go.Deep.open_slice ht hf with ⟨h1, h2⟩ | ⟨a, len, cap, m, n, D, Pl, h1, _, hle, _, hm, h2, hall⟩
  · cases h1
    exact ⟨[], by simp, .inr ⟨_, .slnil c, rfl⟩⟩
  · cases h1
    have hspot : a.spot = none := by
      simp only [Value.okWide, Cell.okWide, Cell.ok, ht] at hval
      exact hval.2.2.2.1
    have hps : ps = MemPlace.row a (m * P.cellsOf k) ++ (List.range m).flatMap Pl := congrArg Prod.snd h2
    rw [hc] at hps hall
    have hlm : len0 ≤ m := by rw [hm]; split <;> omega
    have key : ∀ q, q ≤ len0 → ∃ (vs : List AV) (cs : List Value), (∀ u ∈ vs, G u) ∧ vs.length = q ∧ cs.length = q * c ∧ R (StOf W ps) W (.arr c vs) cs ∧ At (StOf W ps) W a.block (a.off + (len0 - q) * c) cs := by
      intro q
      induction q with
      | zero => exact fun _ => ⟨[], [], by simp, rfl, by simp, .arr0 c, fun i v hv => by simp at hv⟩
      | succ q ih =>
        intro hq
        obtain ⟨vs, cs, g1, g2, g3, g4, g5⟩ := ih (by omega)
        have hi : len0 - (q + 1) < m := by omega
        obtain ⟨cs', k1, k2⟩ := hall (len0 - (q + 1)) hi
        obtain ⟨_, hl', hget⟩ := World.cells?_some k1
        obtain ⟨u, u1, u2, u3⟩ := hel n cs' _ k2 hl'
        refine ⟨u :: vs, cs' ++ cs, ?_, by simp [g2], by rw [List.length_append, hl', g3, Nat.succ_mul]; omega, .arr1 c u vs cs' cs (u2.mono (fun b o hb => ?_) (fun _ _ _ => rfl)) hl' u3 g4, At.app ?_ ?_⟩
        · intro x hx
          rcases List.mem_cons.1 hx with rfl | hx
          · exact u1
          · exact g1 x hx
        · rw [hps]
          exact ⟨List.mem_append_right _ (List.mem_flatMap.2 ⟨_, List.mem_range.2 hi, hb.1⟩), hb.2⟩
        · intro j y hy
          have hj : j < c := by rw [← hl']; exact (List.getElem?_eq_some_iff.1 hy).1
          have h3 := hget j hj
          rw [Go.Deep.add_add] at h3
          have e1 : a.add ((len0 - (q + 1)) * c + j) = ⟨a.block, a.off + (len0 - (q + 1)) * c + j, none⟩ := by
            unfold Addr.add
            split
            · rename_i h0
              obtain ⟨b, o, s⟩ := a
              simp only at hspot ⊢
              rw [hspot]; congr 1; omega
            · rw [Nat.add_assoc]
          rw [e1] at h3
          refine ⟨by rw [h3]; exact hy, ?_, by rw [h3, hy]; rfl⟩
          rw [hps]
          refine List.mem_append_left _ (MemPlace.mem_row.2 ⟨(len0 - (q + 1)) * c + j, ?_, by rw [Nat.add_assoc]⟩)
          have := Nat.mul_le_mul_right c (show len0 - (q + 1) + 1 ≤ m by omega)
          rw [Nat.succ_mul] at this
          omega
        · rw [hl']
          have e2 : a.off + (len0 - (q + 1)) * c + c = a.off + (len0 - q) * c := by
            have e3 : len0 - q = (len0 - (q + 1)) + 1 := by omega
            rw [e3, Nat.succ_mul]; omega
          rw [e2]
          exact g5
    obtain ⟨vs, cs, g1, g2, g3, g4, g5⟩ := key len0 (Nat.le_refl _)
    rw [Nat.sub_self, Nat.zero_mul, Nat.add_zero] at g5
    have ea : a = ⟨a.block, a.off, none⟩ := by obtain ⟨b, o, s⟩ := a; simp only at hspot; rw [hspot]
    refine ⟨vs, g1, .inr ⟨_, .sl c vs cs a.block a.off cap0 g4 g5 (by omega), ?_⟩⟩
    show Value.slice (some a) len0 cap0 = Value.slice (some ⟨a.block, a.off, none⟩) vs.length cap0
    rw [g2, ← ea]
theorem map_of_each {α β : Type} {f : α → β} : ∀ {l : List β}, (∀ u ∈ l, ∃ n, u = f n) → ∃ ks : List α, l = ks.map f
  | [], _ => ⟨[], rfl⟩
  | u :: l, h => by
    obtain ⟨n, rfl⟩ := h u (by simp)
    obtain ⟨ks, e⟩ := map_of_each (l := l) (fun x hx => h x (List.mem_cons_of_mem _ hx))
    exact ⟨n :: ks, by rw [e]; rfl⟩
theorem open_bytes {t e : TypeId} (ht : P.underlying t = some (.slice e)) (he : P.underlying e = some (.int .u8)) (h1 : P.cellsOf e = 1)
    {r : Reach} {b0 : Nat} {v : Value} (hval : Value.okWide P W r b0 t v) {d : DataW H} {ps : List MemPlace} (hd : DataW.Trod enc P W base sp held t v d ps) :
    ∃ bs : List Nat, (∀ n ∈ bs, n < 256) ∧ Rel (StOf W ps) W (.sl 1 (bs.map fun n => .lit (bn n))) v := by
  obtain ⟨vs, g1, g2⟩ := open_sl ht h1 (fun u => ∃ n : {n : Nat // n < 256}, u = .lit (bn n.1)) (fun n cs x hx hl => by
    obtain ⟨a, rfl, _, wa⟩ := DataW.trod_int he hx
    simp [Lit.wf, IntKind.min, IntKind.max, IntKind.signed, IntKind.bits] at wa
    refine ⟨_, ⟨⟨a.toNat, by omega⟩, rfl⟩, ?_, fun y hy => by simp at hy; rw [hy]; rfl⟩
    have : Value.int .u8 a = bn a.toNat := by unfold bn; rw [Int.toNat_of_nonneg (by omega)]
    rw [this]
    exact .lit _ rfl) hval hd
  obtain ⟨ks, rfl⟩ := map_of_each (f := fun n : {n : Nat // n < 256} => AV.lit (bn n.1)) g1
  refine ⟨ks.map (·.1), fun n hn => ?_, by rw [List.map_map]; exact g2⟩
  obtain ⟨a, _, rfl⟩ := List.mem_map.1 hn
  exact a.2
end
theorem t5 : Go.Proofs.Tryd.prog.underlying 5 = some (.int .u8) := by kernel_rfl
theorem c5 : Go.Proofs.Tryd.prog.cellsOf 5 = 1 := by kernel_rfl
end Go.Cab
namespace Go.Cab
def tabName : String := "internal/strconv.uint64pow10"
theorem tab_laid {P : Program} {l : List (String × DataW Unit)} {W : World} (hL : laidMetH P l W) (hl : (l.filter fun x => x.1 == tabName) = [(tabName, Lib.tabData .u64 Lib.pow10Tab)])
    {t e : TypeId} (hg : P.globalNamed tabName = some 0) (hty : (P.globals[0]?).map (·.type) = some t) (ht : P.underlying t = some (.array 20 e)) (he : P.underlying e = some (.int .u64)) (hce : P.cellsOf e = 1) (hct : P.cellsOf t = 20) : Lib.TabIs P W tabName .u64 Lib.pow10Tab := by
  have h := hL.filter (fun x => x.1 == tabName)
  rw [hl] at h
  exact Lib.tabIs_of_head hg hty ht he hce hct h
theorem tabOk_of {P : Program} {W : World} (hg : P.globalNamed tabName = some 0) (h : Lib.TabIs P W tabName .u64 Lib.pow10Tab) : TabOk [] W := by
  intro x hx
  simp only [laidTabs, List.mem_singleton] at hx
  subst hx
  refine ⟨?_, fun r hr => by cases hr⟩
  unfold Lib.TabIs World.var? at h
  rw [hg] at h
  simp only [Option.bind_some] at h
  split at h
  · rename_i cs t fr hc
    cases h
    exact ⟨t, fr, hc⟩
  · cases h
theorem tabOk_laid {l : List (String × DataW Unit)} {W : World} (hL : laidMetH Go.Proofs.Tryd.prog l W) (hl : (l.filter fun x => x.1 == tabName) = [(tabName, Lib.tabData .u64 Lib.pow10Tab)]) : TabOk [] W :=
  tabOk_of (by kernel_rfl) (tab_laid (t := 120) (e := 48) hL hl (by kernel_rfl) (by kernel_rfl) (by kernel_rfl) (by kernel_rfl) (by kernel_rfl) (by kernel_rfl))
end Go.Cab
namespace Go.Cab
open Go.ChangeShapes Go.WideShapes Go.RowKit Go.ChangeAt
section
variable {H : Type} {enc : TypeId × Value → H} {P : Program} {W : World} {base : Nat} {sp : Nat → Bool} {held : Bool}
theorem open_texts {t e : TypeId} (ht : P.underlying t = some (.slice e)) (he : P.underlying e = some .string) (h1 : P.cellsOf e = 1)
    {r : Reach} {b0 : Nat} {v : Value} (hval : Value.okWide P W r b0 t v) {d : DataW H} {ps : List MemPlace} (hd : DataW.Trod enc P W base sp held t v d ps) :
    ∃ bs : List (List UInt8), bs.length < 9223372036854775808 ∧ (∀ s ∈ bs, s.length < 9223372036854775808) ∧ Rel (StOf W ps) W (.sl 1 (bs.map fun s => .lit (tx s))) v := by
  obtain ⟨vs, g1, g2⟩ := open_sl ht h1 (fun u => ∃ n : {n : List UInt8 // n.length < 9223372036854775808}, u = .lit (tx n.1)) (fun n cs x hx hl => by
    obtain ⟨s, hc, hy, hs⟩ := DataW.trod_string he hx
    subst hc
    refine ⟨_, ⟨⟨s.data.toList, ?_⟩, rfl⟩, .lit _ rfl, fun y hy => by simp at hy; rw [hy]; rfl⟩
    have e : s.data.toList.length = s.size := by rw [Array.length_toList]; rfl
    rw [e]
    unfold maxLen at hs
    omega) hval hd
  obtain ⟨ks, rfl⟩ := map_of_each (f := fun n : {n : List UInt8 // n.length < 9223372036854775808} => AV.lit (tx n.1)) g1
  refine ⟨ks.map (·.1), ?_, fun n hn => ?_, by rw [List.map_map]; exact g2⟩
  · rcases R.slLen g2 with ⟨_, _, h⟩ | ⟨b, off, cap, cs, hv, hl, _⟩
    · rw [List.length_map, List.map_eq_nil_iff.1 h]; simp
    · subst hv
      simp only [Value.okWide, Cell.okWide, Cell.ok, ht] at hval
      obtain ⟨h2, h3, _⟩ := hval
      rw [List.length_map] at h2 ⊢
      simp [IntKind.max, IntKind.signed, IntKind.bits] at h3
      omega
  · obtain ⟨a, _, rfl⟩ := List.mem_map.1 hn
    exact a.2
end
end Go.Cab
namespace Go.Cab
open Go.ChangeShapes Go.WideShapes Go.RowKit Go.ChangeAt
section
variable {H : Type} {enc : TypeId × Value → H} {P : Program} {W : World} {base : Nat} {held : Bool}
def Opens (enc : TypeId × Value → H) (P : Program) (W : World) (base : Nat) (held : Bool) (t : TypeId) (c : Nat) (G : AV → Prop) : Prop :=
  P.cellsOf t = c ∧ ∀ (n : Nat) (cs : List Value) (x : DataW H × List MemPlace), DataW.trod enc P W base (fun _ => true) held n t cs = some x →
    ∃ v, G v ∧ R (StOf W x.2) W v cs ∧ cs.length = c ∧ ∀ y ∈ cs, sc y = true
theorem Opens.mono {t : TypeId} {c : Nat} {G G' : AV → Prop} (h : Opens enc P W base held t c G) (k : ∀ v, G v → G' v) : Opens enc P W base held t c G' :=
  ⟨h.1, fun n cs x hx => by obtain ⟨v, h1, h2⟩ := h.2 n cs x hx; exact ⟨v, k v h1, h2⟩⟩
theorem Opens.int {t : TypeId} {k : IntKind} (ht : P.underlying t = some (.int k)) (hc : P.cellsOf t = 1) : Opens enc P W base held t 1 fun v => ∃ n : Int, (Lit.int k n).wf = true ∧ v = .lit (.int k n) :=
  ⟨hc, fun n cs x hx => by
    obtain ⟨a, rfl, _, wa⟩ := DataW.trod_int ht hx
    exact ⟨_, ⟨a, wa, rfl⟩, .lit _ rfl, rfl, fun y hy => by simp at hy; rw [hy]; rfl⟩⟩
theorem Opens.bool {t : TypeId} (ht : P.underlying t = some .bool) (hc : P.cellsOf t = 1) : Opens enc P W base held t 1 fun v => ∃ b : Bool, v = .lit (.bool b) :=
  ⟨hc, fun n cs x hx => by
    obtain ⟨a, rfl, _⟩ := DataW.trod_bool ht hx
    exact ⟨_, ⟨a, rfl⟩, .lit _ rfl, rfl, fun y hy => by simp at hy; rw [hy]; rfl⟩⟩
theorem Opens.text {t : TypeId} (ht : P.underlying t = some .string) (hc : P.cellsOf t = 1) : Opens enc P W base held t 1 fun v => ∃ s : List UInt8, s.length < 9223372036854775808 ∧ v = .lit (tx s) :=
  ⟨hc, fun n cs x hx => by
    obtain ⟨s, rfl, _, hs⟩ := DataW.trod_string ht hx
    refine ⟨_, ⟨s.data.toList, ?_, rfl⟩, .lit _ rfl, rfl, fun y hy => by simp at hy; rw [hy]; rfl⟩
    have e : s.data.toList.length = s.size := by rw [Array.length_toList]; rfl
    rw [e]
    unfold maxLen at hs
    omega⟩
theorem stOf_sub {ps qs : List MemPlace} (h : ∀ p ∈ ps, p ∈ qs) {v : AV} {cs : List Value} (k : R (StOf W ps) W v cs) : R (StOf W qs) W v cs :=
  k.mono (fun _ _ hb => ⟨h _ hb.1, hb.2⟩) (fun _ _ _ => rfl)
theorem Opens.arr {t e : TypeId} {n c : Nat} {G : AV → Prop} (ht : P.underlying t = some (.array n e)) (hc : P.cellsOf t = n * c) (he : Opens enc P W base held e c G) :
    Opens enc P W base held t (n * c) fun v => ∃ vs : List AV, vs.length = n ∧ (∀ u ∈ vs, G u) ∧ v = .arr c vs := by
  refine ⟨hc, fun N cs x hx => ?_⟩
  obtain ⟨xs, m, _, rfl, hl, hxl, hel⟩ := DataW.trod_array ht hx
  rw [hc] at hl
  rw [he.1] at hel
  have key : ∀ q, q ≤ n → ∃ vs : List AV, vs.length = q ∧ (∀ u ∈ vs, G u) ∧ R (StOf W (xs.flatMap (·.2))) W (.arr c vs) (cs.drop ((n - q) * c)) ∧ ∀ y ∈ cs.drop ((n - q) * c), sc y = true := by
    intro q
    induction q with
    | zero => 
      intro _
      have e : cs.drop ((n - 0) * c) = [] := List.drop_eq_nil_of_le (by rw [hl]; exact Nat.le_refl _)
      rw [e]
      exact ⟨[], rfl, by simp, .arr0 c, by simp⟩
    | succ q ih =>
      intro hq
      obtain ⟨vs, g1, g2, g3, g4⟩ := ih (by omega)
      have hi : n - (q + 1) < n := by omega
      have h1 := hel _ hi
      rw [List.getElem?_eq_getElem (by omega)] at h1
      obtain ⟨u, u1, u2, u3, u4⟩ := he.2 _ _ _ h1
      have e1 : n - q = (n - (q + 1)) + 1 := by omega
      have e2 : cs.drop ((n - (q + 1)) * c) = (cs.drop ((n - (q + 1)) * c)).take c ++ cs.drop ((n - q) * c) := by
        rw [e1, Nat.succ_mul, ← List.drop_drop, List.take_append_drop]
      rw [e2]
      refine ⟨u :: vs, by simp [g1], fun y hy => ?_, .arr1 c u vs _ _ (stOf_sub (fun p hp => List.mem_flatMap.2 ⟨_, List.getElem_mem _, hp⟩) u2) u3 u4 g3, fun y hy => ?_⟩
      · rcases List.mem_cons.1 hy with rfl | hy
        · exact u1
        · exact g2 y hy
      · rcases List.mem_append.1 hy with hy | hy
        · exact u4 y hy
        · exact g4 y hy
  obtain ⟨vs, g1, g2, g3, g4⟩ := key n (Nat.le_refl _)
  rw [Nat.sub_self, Nat.zero_mul, List.drop_zero] at g3 g4
  exact ⟨_, ⟨vs, g1, g2, rfl⟩, g3, hl, g4⟩
theorem Opens.list {t e : TypeId} {c : Nat} {G : AV → Prop} (ht : P.underlying t = some (.slice e)) (hc : P.cellsOf t = 1) (h0 : 0 < c) (he : Opens enc P W base held e c G) :
    Opens enc P W base held t 1 fun v => ∃ vs : List AV, vs.length < 9223372036854775808 ∧ (∀ u ∈ vs, G u) ∧ v = .sl c vs := by
  refine ⟨hc, fun N cs x hx => ?_⟩
  rcases Go.Deep.open_slice ht hx with ⟨rfl, rfl⟩ | ⟨a, len, cap, m, n, D, Pl, rfl, _, hle, hcm, hm, rfl, hall⟩
  · exact ⟨_, ⟨[], by simp, by simp, rfl⟩, .slnil c, rfl, fun y hy => by simp at hy; rw [hy]; rfl⟩
  · simp only [if_true] at hm
    subst hm
    by_cases hcap : m = 0
    · subst hcap
      have : len = 0 := by omega
      subst this
      exact ⟨_, ⟨[], by simp, by simp, rfl⟩, .slnil c (some a), rfl, fun y hy => by simp at hy; rw [hy]; rfl⟩
    have hspot : a.spot = none := by
      obtain ⟨cs', k1, _⟩ := hall 0 (by omega)
      obtain ⟨_, hl', hget⟩ := World.cells?_some k1
      rw [he.1] at hl' hget
      have h1 := hget 0 h0
      rw [List.getElem?_eq_getElem (by omega)] at h1
      unfold World.cell? at h1
      split at h1
      · split at h1
        · cases h1
        · rename_i hs
          rw [Go.Deep.add_add, Nat.zero_mul] at hs
          unfold Addr.add at hs
          simpa using hs
      · cases h1
    rw [he.1] at hall
    have key : ∀ q, q ≤ len → ∃ (vs : List AV) (cs : List Value), (∀ u ∈ vs, G u) ∧ vs.length = q ∧ cs.length = q * c ∧ R (StOf W (MemPlace.row a (m * c) ++ (List.range m).flatMap Pl)) W (.arr c vs) cs ∧ At (StOf W (MemPlace.row a (m * c) ++ (List.range m).flatMap Pl)) W a.block (a.off + (len - q) * c) cs := by
      intro q
      induction q with
      | zero => exact fun _ => ⟨[], [], by simp, rfl, by simp, .arr0 c, fun i v hv => by simp at hv⟩
      | succ q ih =>
        intro hq
        obtain ⟨vs, cs, g1, g2, g3, g4, g5⟩ := ih (by omega)
        have hi : len - (q + 1) < m := by omega
        obtain ⟨cs', k1, k2⟩ := hall (len - (q + 1)) hi
        obtain ⟨_, hl', hget⟩ := World.cells?_some k1
        obtain ⟨u, u1, u2, _, u3⟩ := he.2 n cs' _ k2
        refine ⟨u :: vs, cs' ++ cs, ?_, by simp [g2], by rw [List.length_append, hl', g3, Nat.succ_mul]; omega, .arr1 c u vs cs' cs (stOf_sub (fun p hp => List.mem_append_right _ (List.mem_flatMap.2 ⟨_, List.mem_range.2 hi, hp⟩)) u2) hl' u3 g4, At.app ?_ ?_⟩
        · intro x hx
          rcases List.mem_cons.1 hx with rfl | hx
          · exact u1
          · exact g1 x hx
        · intro j y hy
          have hj : j < c := by rw [← hl']; exact (List.getElem?_eq_some_iff.1 hy).1
          have h3 := hget j hj
          rw [Go.Deep.add_add] at h3
          have e1 : a.add ((len - (q + 1)) * c + j) = ⟨a.block, a.off + (len - (q + 1)) * c + j, none⟩ := by
            unfold Addr.add
            split
            · rename_i h0
              obtain ⟨b, o, s⟩ := a
              simp only at hspot ⊢
              rw [hspot]; congr 1; omega
            · rw [Nat.add_assoc]
          rw [e1] at h3
          refine ⟨by rw [h3]; exact hy, ?_, by rw [h3, hy]; rfl⟩
          refine List.mem_append_left _ (MemPlace.mem_row.2 ⟨(len - (q + 1)) * c + j, ?_, by rw [Nat.add_assoc]⟩)
          have := Nat.mul_le_mul_right c (show len - (q + 1) + 1 ≤ m by omega)
          rw [Nat.succ_mul] at this
          omega
        · rw [hl']
          have e2 : a.off + (len - (q + 1)) * c + c = a.off + (len - q) * c := by
            have e3 : len - q = (len - (q + 1)) + 1 := by omega
            rw [e3, Nat.succ_mul]; omega
          rw [e2]
          exact g5
    obtain ⟨vs, cs, g1, g2, g3, g4, g5⟩ := key len (Nat.le_refl _)
    rw [Nat.sub_self, Nat.zero_mul, Nat.add_zero] at g5
    have ea : a = ⟨a.block, a.off, none⟩ := by obtain ⟨b, o, s⟩ := a; simp only at hspot; rw [hspot]
    refine ⟨_, ⟨vs, by unfold maxLen at hcm; omega, g1, rfl⟩, ?_, rfl, fun y hy => by simp at hy; rw [hy]; rfl⟩
    have := R.sl (Imm := StOf W (MemPlace.row a (m * c) ++ (List.range m).flatMap Pl)) (w := W) c vs cs a.block a.off m g4 g5 (by omega)
    rw [g2, ← ea] at this
    rw [he.1]
    exact this
def FieldsOk (enc : TypeId × Value → H) (P : Program) (W : World) (base : Nat) (held : Bool) : List Field → Nat → List (Nat × (AV → Prop)) → Prop
  | [], _, [] => True
  | f :: fs, o, l :: ls => f.offset = o ∧ Opens enc P W base held f.type l.1 l.2 ∧ FieldsOk enc P W base held fs (o + l.1) ls
  | _, _, _ => False
def FG : List (Nat × (AV → Prop)) → List AV → Prop
  | [], [] => True
  | l :: ls, v :: vs => l.2 v ∧ FG ls vs
  | _, _ => False
theorem fields_open {n : Nat} {cs : List Value} : ∀ (fs : List Field) (o : Nat) (ls : List (Nat × (AV → Prop))) (xs : List (DataW H × List MemPlace)), FieldsOk enc P W base held fs o ls → xs.length = fs.length →
    (∀ (i : Nat) (f : Field), fs[i]? = some f → DataW.trod enc P W base (fun _ => true) held n f.type ((cs.drop f.offset).take (P.cellsOf f.type)) = xs[i]?) →
    ∃ vs, FG ls vs ∧ R (StOf W (xs.flatMap (·.2))) W (.st (ls.map (·.1)) vs) ((cs.drop o).take (ls.map (·.1)).sum) ∧ ∀ y ∈ (cs.drop o).take (ls.map (·.1)).sum, sc y = true
  | [], o, [], xs, _, _, _ => ⟨[], trivial, by simpa using R.st0, by simp⟩
  | [], _, _ :: _, _, h, _, _ => h.elim
  | _ :: _, _, [], _, h, _, _ => h.elim
  | f :: fs, o, l :: ls, [], _, h, _ => by simp at h
  | f :: fs, o, l :: ls, x :: xs, ⟨h1, h2, h3⟩, hl, hx => by
    obtain ⟨vs, g1, g2, g3⟩ := fields_open fs (o + l.1) ls xs h3 (by simpa using hl) (fun i f' hf => hx (i + 1) f' hf)
    have h4 := hx 0 f rfl
    rw [h1, h2.1] at h4
    obtain ⟨v, u1, u2, u3, u4⟩ := h2.2 _ _ _ h4
    have e : (cs.drop o).take ((l :: ls).map (·.1)).sum = (cs.drop o).take l.1 ++ (cs.drop (o + l.1)).take (ls.map (·.1)).sum := by
      rw [List.map_cons, List.sum_cons, List.take_add, List.drop_drop]
    rw [e]
    refine ⟨v :: vs, ⟨u1, g1⟩, .st1 l.1 _ v vs _ _ (stOf_sub (fun p hp => List.mem_append_left _ hp) u2) u3 u4 (stOf_sub (fun p hp => List.mem_append_right _ hp) g2), fun y hy => ?_⟩
    rcases List.mem_append.1 hy with hy | hy
    · exact u4 y hy
    · exact g3 y hy
theorem Opens.struct {t : TypeId} {fs : Array Field} {c : Nat} {ls : List (Nat × (AV → Prop))} (ht : P.underlying t = some (.struct fs)) (hc : P.cellsOf t = c) (hs : (ls.map (·.1)).sum = c) (hF : FieldsOk enc P W base held fs.toList 0 ls) :
    Opens enc P W base held t c fun v => ∃ vs, FG ls vs ∧ v = .st (ls.map (·.1)) vs := by
  refine ⟨hc, fun N cs x hx => ?_⟩
  obtain ⟨xs, n, _, rfl, hl, hxl, hel⟩ := DataW.trod_struct ht hx
  obtain ⟨vs, g1, g2, g3⟩ := fields_open (n := n) (cs := cs) fs.toList 0 ls xs hF (by simpa using hxl) (fun i f hf => hel i f (by simpa using hf))
  have e : (cs.drop 0).take (ls.map (·.1)).sum = cs := by rw [List.drop_zero, hs, List.take_of_length_le (by omega)]
  rw [e] at g2 g3
  exact ⟨_, ⟨vs, g1, rfl⟩, g2, by omega, g3⟩
theorem Opens.agg {t : TypeId} {c : Nat} {G : AV → Prop} (h : Opens enc P W base held t c G) (hG : ∀ v, G v → v.isAgg = true) {r : Reach} {b0 : Nat} {v : Value} (hval : Value.okWide P W r b0 t v)
    (hu : (∃ fs, P.underlying t = some (.struct fs)) ∨ ∃ n e, P.underlying t = some (.array n e)) {d : DataW H} {ps : List MemPlace} (hd : DataW.Trod enc P W base (fun _ => true) held t v d ps) :
    ∃ u, G u ∧ Rel (StOf W ps) W u v := by
  obtain ⟨fuel, hf⟩ := hd
  obtain ⟨u, h1, h2, _⟩ := h.2 _ _ _ hf
  obtain ⟨cs, rfl⟩ : ∃ cs, v = .agg cs := by
    unfold Value.okWide at hval
    rcases hu with ⟨fs, hu⟩ | ⟨n, e, hu⟩ <;> rw [hu] at hval <;> obtain ⟨cs, rfl, _⟩ := hval <;> exact ⟨cs, rfl⟩
  refine ⟨u, h1, .inr ⟨_, h2, ?_⟩⟩
  have hg := hG u h1
  cases u <;> simp [AV.isAgg] at hg <;> rfl
theorem Opens.slice {t e : TypeId} {c : Nat} {G : AV → Prop} (h : Opens enc P W base held t 1 fun v => ∃ vs : List AV, vs.length < 9223372036854775808 ∧ (∀ u ∈ vs, G u) ∧ v = .sl c vs) (ht : P.underlying t = some (.slice e)) {r : Reach} {b0 : Nat} {v : Value} (hval : Value.okWide P W r b0 t v)
    {d : DataW H} {ps : List MemPlace} (hd : DataW.Trod enc P W base (fun _ => true) held t v d ps) :
    ∃ vs : List AV, vs.length < 9223372036854775808 ∧ (∀ u ∈ vs, G u) ∧ Rel (StOf W ps) W (.sl c vs) v := by
  obtain ⟨fuel, hf⟩ := hd
  obtain ⟨_, ⟨vs, h0, h1, rfl⟩, h2, _⟩ := h.2 _ _ _ hf
  have hv : (∃ a len cap, v = .slice a len cap) := by
    cases v <;> simp [Value.okWide, Cell.okWide, Cell.ok, ht] at hval ⊢
  obtain ⟨a0, len0, cap0, rfl⟩ := hv
  exact ⟨vs, h0, h1, .inr ⟨_, h2, rfl⟩⟩
end
section
variable {H : Type} {enc : TypeId × Value → H} {P : Program} {W : World}
theorem trodAll_five {t0 t1 t2 t3 t4 : TypeId} {args : Array Value} {ds : List (DataW H)} {ps : List MemPlace} {base : Nat} {spare : Nat → Bool} {held : Bool} (h : DataW.TrodAll enc P W base spare held [t0, t1, t2, t3, t4] args.toList ds ps) :
    ∃ v0 v1 v2 v3 v4 d0 d1 d2 d3 d4 p0 p1 p2 p3 p4, args = #[v0, v1, v2, v3, v4] ∧ ds = [d0, d1, d2, d3, d4] ∧ ps = p0 ++ p1 ++ p2 ++ p3 ++ p4 ∧ DataW.Trod enc P W base spare held t0 v0 d0 p0 ∧ DataW.Trod enc P W base spare held t1 v1 d1 p1 ∧ DataW.Trod enc P W base spare held t2 v2 d2 p2 ∧ DataW.Trod enc P W base spare held t3 v3 d3 p3 ∧ DataW.Trod enc P W base spare held t4 v4 d4 p4 := by
  obtain ⟨v0, vs0, d0, ds0, p0, q0, hargs, rfl, rfl, hd0, hr0⟩ := trodAll_cons h
  obtain ⟨v1, vs1, d1, ds1, p1, q1, rfl, rfl, rfl, hd1, hr1⟩ := trodAll_cons hr0
  obtain ⟨v2, vs2, d2, ds2, p2, q2, rfl, rfl, rfl, hd2, hr2⟩ := trodAll_cons hr1
  obtain ⟨v3, vs3, d3, ds3, p3, q3, rfl, rfl, rfl, hd3, hr3⟩ := trodAll_cons hr2
  obtain ⟨v4, vs4, d4, ds4, p4, q4, rfl, rfl, rfl, hd4, hr4⟩ := trodAll_cons hr3
  obtain ⟨rfl, rfl, rfl⟩ := trodAll_nil hr4
  exact ⟨v0, v1, v2, v3, v4, d0, d1, d2, d3, d4, p0, p1, p2, p3, p4, by cases args; simp_all, rfl, by simp, hd0, hd1, hd2, hd3, hd4⟩
theorem trodAll_mk5 {t0 t1 t2 t3 t4 : TypeId} {v0 v1 v2 v3 v4 : Value} {d0 d1 d2 d3 d4 : DataW H} {p0 p1 p2 p3 p4 : List MemPlace} {base : Nat} {spare : Nat → Bool} {held : Bool} (h0 : DataW.Trod enc P W base spare held t0 v0 d0 p0) (h1 : DataW.Trod enc P W base spare held t1 v1 d1 p1) (h2 : DataW.Trod enc P W base spare held t2 v2 d2 p2) (h3 : DataW.Trod enc P W base spare held t3 v3 d3 p3) (h4 : DataW.Trod enc P W base spare held t4 v4 d4 p4) : DataW.TrodAll enc P W base spare held [t0, t1, t2, t3, t4] [v0, v1, v2, v3, v4] [d0, d1, d2, d3, d4] (p0 ++ (p1 ++ (p2 ++ (p3 ++ (p4))))) := trodAll_cons_mk h0 (trodAll_mk4 h1 h2 h3 h4)
theorem trodAll_six {t0 t1 t2 t3 t4 t5 : TypeId} {args : Array Value} {ds : List (DataW H)} {ps : List MemPlace} {base : Nat} {spare : Nat → Bool} {held : Bool} (h : DataW.TrodAll enc P W base spare held [t0, t1, t2, t3, t4, t5] args.toList ds ps) :
    ∃ v0 v1 v2 v3 v4 v5 d0 d1 d2 d3 d4 d5 p0 p1 p2 p3 p4 p5, args = #[v0, v1, v2, v3, v4, v5] ∧ ds = [d0, d1, d2, d3, d4, d5] ∧ ps = p0 ++ p1 ++ p2 ++ p3 ++ p4 ++ p5 ∧ DataW.Trod enc P W base spare held t0 v0 d0 p0 ∧ DataW.Trod enc P W base spare held t1 v1 d1 p1 ∧ DataW.Trod enc P W base spare held t2 v2 d2 p2 ∧ DataW.Trod enc P W base spare held t3 v3 d3 p3 ∧ DataW.Trod enc P W base spare held t4 v4 d4 p4 ∧ DataW.Trod enc P W base spare held t5 v5 d5 p5 := by
  obtain ⟨v0, vs0, d0, ds0, p0, q0, hargs, rfl, rfl, hd0, hr0⟩ := trodAll_cons h
  obtain ⟨v1, vs1, d1, ds1, p1, q1, rfl, rfl, rfl, hd1, hr1⟩ := trodAll_cons hr0
  obtain ⟨v2, vs2, d2, ds2, p2, q2, rfl, rfl, rfl, hd2, hr2⟩ := trodAll_cons hr1
  obtain ⟨v3, vs3, d3, ds3, p3, q3, rfl, rfl, rfl, hd3, hr3⟩ := trodAll_cons hr2
  obtain ⟨v4, vs4, d4, ds4, p4, q4, rfl, rfl, rfl, hd4, hr4⟩ := trodAll_cons hr3
  obtain ⟨v5, vs5, d5, ds5, p5, q5, rfl, rfl, rfl, hd5, hr5⟩ := trodAll_cons hr4
  obtain ⟨rfl, rfl, rfl⟩ := trodAll_nil hr5
  exact ⟨v0, v1, v2, v3, v4, v5, d0, d1, d2, d3, d4, d5, p0, p1, p2, p3, p4, p5, by cases args; simp_all, rfl, by simp, hd0, hd1, hd2, hd3, hd4, hd5⟩
theorem trodAll_mk6 {t0 t1 t2 t3 t4 t5 : TypeId} {v0 v1 v2 v3 v4 v5 : Value} {d0 d1 d2 d3 d4 d5 : DataW H} {p0 p1 p2 p3 p4 p5 : List MemPlace} {base : Nat} {spare : Nat → Bool} {held : Bool} (h0 : DataW.Trod enc P W base spare held t0 v0 d0 p0) (h1 : DataW.Trod enc P W base spare held t1 v1 d1 p1) (h2 : DataW.Trod enc P W base spare held t2 v2 d2 p2) (h3 : DataW.Trod enc P W base spare held t3 v3 d3 p3) (h4 : DataW.Trod enc P W base spare held t4 v4 d4 p4) (h5 : DataW.Trod enc P W base spare held t5 v5 d5 p5) : DataW.TrodAll enc P W base spare held [t0, t1, t2, t3, t4, t5] [v0, v1, v2, v3, v4, v5] [d0, d1, d2, d3, d4, d5] (p0 ++ (p1 ++ (p2 ++ (p3 ++ (p4 ++ (p5)))))) := trodAll_cons_mk h0 (trodAll_mk5 h1 h2 h3 h4 h5)
end
end Go.Cab
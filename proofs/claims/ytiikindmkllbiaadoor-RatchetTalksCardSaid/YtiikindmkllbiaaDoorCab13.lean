/- Part 13 of what the proof stands on: Z23, Z14, Z30, Z31, Z32, Z33, Z34, ZK, ZM, ZA. -/
import Derived.Test.YtiikindmkllbiaaDoorCab12
set_option linter.unusedSimpArgs false
set_option linter.unnecessarySimpa false
set_option linter.unusedVariables false
set_option linter.unusedSectionVars false
namespace Go.Cab
open Classical
def stp1 (c : List UInt8) : Term := ⟨2, txStep ++ [47, 49], [c]⟩
def stp2 (c : List UInt8) : Term := ⟨2, txStep ++ [47, 50], [c]⟩
def trn1 (r w : List UInt8) : Term := ⟨2, txTurn ++ [47, 49], [r, w]⟩
def trn2 (r w : List UInt8) : Term := ⟨2, txTurn ++ [47, 50], [r, w]⟩
theorem stp1_ok {c : List UInt8} (h : c.length = 32) : TermOk (stp1 c) := two_ok (by simp [txStep]) (by simp) (by simp [h]) [47, 49] rfl
theorem stp2_ok {c : List UInt8} (h : c.length = 32) : TermOk (stp2 c) := two_ok (by simp [txStep]) (by simp) (by simp [h]) [47, 50] rfl
theorem trn1_ok {r w : List UInt8} (h : r.length = 32) (hw : w.length = 32) : TermOk (trn1 r w) := two_ok (by simp [txTurn]) (by simp) (by simp [h, hw]) [47, 49] rfl
theorem trn2_ok {r w : List UInt8} (h : r.length = 32) (hw : w.length = 32) : TermOk (trn2 r w) := two_ok (by simp [txTurn]) (by simp) (by simp [h, hw]) [47, 50] rfl
theorem bind_ok {h : HeadV} {by_ : List UInt8} (hp : h.pub.length = 32) (hb : by_.length = 32) : TermOk (bindT h by_) := by
  have := dec2_len h.n; have := dec2_len h.prev
  exact ⟨by simp [bindT], by simp [bindT, bindX, txHead]; omega, by simp [bindT], by simp [bindT, hb, hp]⟩
structure Msg (us : List Term) (c mine by_ sec : List UInt8) (h : HeadV) (kk body : List UInt8) : Prop where
  key : Nm us (stp1 c) kk
  pub : Nm us (pubT mine) h.pub
  box : ∃ bd, Nm us (bindT h by_) bd ∧ Nm us (sealK kk bd [] [sec]) body
  b32 : by_.length = 32
  s32 : sec.length = 32
theorem Msg.mono {ts us : List Term} {c mine by_ sec : List UInt8} {h : HeadV} {key body : List UInt8} (m : Msg ts c mine by_ sec h key body) (p : ts <+: us) : Msg us c mine by_ sec h key body := by
  obtain ⟨h1, h2, ⟨bd, h3, h4⟩, h5, h6⟩ := m
  exact ⟨h1.mono p, h2.mono p, ⟨bd, h3.mono p, h4.mono p⟩, h5, h6⟩
theorem Msg.len {ts : List Term} {c mine by_ sec : List UInt8} {h : HeadV} {key body : List UInt8} (m : Msg ts c mine by_ sec h key body) : body.length = 32 := by
  obtain ⟨bd, _, h⟩ := m.box
  exact h.len
set_option maxHeartbeats 2000000 in
theorem send_ev {ts : List Term} (hts : TsOk ts) (hl : ts.length + 20 < 90000) {x : Ses} (hx : SeOk x) {sec by_ : List UInt8} (hs : sec.length = 32) (hb : by_.length = 32) :
    ∃ key next pub body us, sendS ts x by_ [sec] = (({ x with send := next, ns := x.ns + 1 }, ⟨pub, x.ns, x.pn⟩, body), us) ∧ TsOk us ∧ us.length ≤ ts.length + 5 ∧ ts <+: us ∧ Nm us (stp2 x.send) next ∧ Msg us x.send x.mine by_ sec ⟨pub, x.ns, x.pn⟩ key body := by
  have hc := hx.send
  obtain ⟨a1, a2⟩ := twoV_nm ts txStep [x.send]
  have a3 := twoV_pre ts txStep [x.send]
  have a4 := twoV_ok hts (by omega) (s := txStep) (by simp [txStep]) (ks := [x.send]) (by simp) (by simp [hc])
  have a5 := twoV_len ts txStep [x.send]
  unfold sendS
  generalize twoV ts txStep [x.send] = tv at *
  obtain ⟨⟨key, next⟩, t1⟩ := tv
  simp only at a1 a2 a3 a4 a5 ⊢
  have b1 := Nm.put t1 (pubT x.mine)
  have b2 := put_pre t1 (pubT x.mine)
  have b3 := a4.putPub hx.mine (by omega)
  have b4 := putT_len t1 (pubT x.mine)
  generalize nameK (putN t1 (pubT x.mine)) = pub at *
  generalize putT t1 (pubT x.mine) = t2 at *
  have hp := b1.len
  have ob := bind_ok (h := ⟨pub, x.ns, x.pn⟩) hp hb
  have c1 := Nm.put t2 (bindT ⟨pub, x.ns, x.pn⟩ by_)
  have c2 := put_pre t2 (bindT ⟨pub, x.ns, x.pn⟩ by_)
  have c3 := b3.put ob ⟨by simp [bindT], by simp [bindT]⟩ (by omega)
  have c4 := putT_len t2 (bindT ⟨pub, x.ns, x.pn⟩ by_)
  generalize nameK (putN t2 (bindT ⟨pub, x.ns, x.pn⟩ by_)) = bd at *
  generalize putT t2 (bindT ⟨pub, x.ns, x.pn⟩ by_) = t3 at *
  have os : TermOk (sealK key bd [] [sec]) := sealK_ok a1.len c1.len (by simp) (by simp) (by simp [hs])
  have d1 := Nm.put t3 (sealK key bd [] [sec])
  have d2 := put_pre t3 (sealK key bd [] [sec])
  have d3 := c3.put os ⟨by simp [sealK], by simp [sealK]⟩ (by omega)
  have d4 := putT_len t3 (sealK key bd [] [sec])
  generalize nameK (putN t3 (sealK key bd [] [sec])) = body at *
  generalize putT t3 (sealK key bd [] [sec]) = us at *
  have p1 := (b2.trans c2).trans d2
  exact ⟨key, next, pub, body, us, rfl, d3, by omega, a3.trans p1, a2.mono p1, a1.mono p1, (b1.mono c2).mono d2, ⟨bd, c1.mono d2, d1⟩, hb, hs⟩
theorem Msg.open {us : List Term} (hts : TsOk us) {c mine by_ sec : List UInt8} {h : HeadV} {key body : List UInt8} (m : Msg us c mine by_ sec h key body) (y0 y1 : Ses) (k : List UInt8) :
    rcvO us y0 y1 h by_ body k = (if key = k then (y1, [sec], 0) else (y0, [], 2), us) := by
  obtain ⟨h1, h2, ⟨bd, h3, h4⟩, h5, h6⟩ := m
  unfold rcvO
  rw [h3.putN, h3.putT, openX_nm hts (sealK_ok h1.len h3.len (by simp) (by simp) (by simp [h6])) h4]
  by_cases hk : key = k
  · simp [sealK, hk]
  · simp [sealK, hk]
set_option maxHeartbeats 2000000 in
theorem turn_ev {ts : List Term} (hts : TsOk ts) (hl : ts.length + 20 < 90000) {x : Ses} (hx : SeOk x) (ht : x.turn = true) {m s : List UInt8} (hm : m.length = 32) (px : Nm ts (pubT m) x.theirs) (hs : s.length < 1000) :
    ∃ mine w r c ts1, TurnOk ts x s (turnX x mine r c) ts1 ∧ TsOk ts1 ∧ ts1.length ≤ ts.length + 4 ∧ ts <+: ts1 ∧ Nm ts1 (drawT s) mine ∧ Nm ts1 (agr m mine) w ∧ Nm ts1 (trn1 x.root w) r ∧ Nm ts1 (trn2 x.root w) c := by
  have a1 := Nm.put ts (drawT s)
  have a2 := put_pre ts (drawT s)
  have a3 := hts.draw (s := s) hs (by omega)
  have a4 := putT_len ts (drawT s)
  have hT : ∀ y1 x1 ts1, agreeX (putT ts (drawT s)) (nameK (putN ts (drawT s))) x.theirs = some y1 →
      x1 = turnX x (nameK (putN ts (drawT s))) (twoV (putT (putT ts (drawT s)) y1) txTurn [x.root, nameK (putN (putT ts (drawT s)) y1)]).1.1 (twoV (putT (putT ts (drawT s)) y1) txTurn [x.root, nameK (putN (putT ts (drawT s)) y1)]).1.2 →
      ts1 = (twoV (putT (putT ts (drawT s)) y1) txTurn [x.root, nameK (putN (putT ts (drawT s)) y1)]).2 → TurnOk ts x s x1 ts1 := fun y1 x1 ts1 h1 h2 h3 => .inr ⟨ht, a3, y1, h1, h2, h3⟩
  generalize nameK (putN ts (drawT s)) = mine at *
  generalize putT ts (drawT s) = tA at *
  have hml := a1.len
  have ha := agreeX_pub a3 (a := mine) hm (px.mono a2)
  have hT2 := hT _ _ _ ha rfl rfl
  clear hT
  have oa : TermOk (agr mine m) := agr_ok hml hm
  have b1 := Nm.put tA (agr mine m)
  have b2 := put_pre tA (agr mine m)
  have b3 := a3.put oa (agr_wf _ _) (by omega)
  have b4 := putT_len tA (agr mine m)
  generalize nameK (putN tA (agr mine m)) = w at *
  generalize putT tA (agr mine m) = tB at *
  have hwl := b1.len
  obtain ⟨c1, c2⟩ := twoV_nm tB txTurn [x.root, w]
  have c3 := twoV_pre tB txTurn [x.root, w]
  have c4 := twoV_ok b3 (by omega) (s := txTurn) (by simp [txTurn]) (ks := [x.root, w]) (by simp) (by simp [hx.root, hwl])
  have c5 := twoV_len tB txTurn [x.root, w]
  generalize twoV tB txTurn [x.root, w] = tv at *
  obtain ⟨⟨r, c⟩, t1⟩ := tv
  simp only at c1 c2 c3 c4 c5 hT2
  exact ⟨mine, w, r, c, t1, hT2, c4, by omega, a2.trans (b2.trans c3), (a1.mono b2).mono c3, by rw [agr_comm]; exact b1.mono c3, c1, c2⟩
theorem alive_law {ts : List Term} (hts : TsOk ts) (hl : ts.length + 40 < 90000) {W : List (List UInt8)} {x y : Ses} (L : Lk ts W 0 x y) (ht : x.turn = true) {sec by_ : List UInt8} (hs : sec.length = 32) (hb : by_.length = 32) :
    ∃ x1 ts1 x2 h body us y2, TurnOk ts x [110, 101, 119] x1 ts1 ∧ SeOk x1 ∧ ts1.length ≤ ts.length + 4 ∧ x1.ns = 0 ∧ x1.pn = 0 ∧
      sendS ts1 x1 by_ [sec] = ((x2, h, body), us) ∧ TsOk us ∧ us.length ≤ ts.length + 9 ∧ h.pub.length = 32 ∧ h.pub ≠ zk ∧ h.n = 0 ∧ h.prev = 0 ∧ body.length = 32 ∧
      rcvV us y h by_ body = ((y2, [sec], 0), us) ∧ rcvV us y2 h by_ body = ((y2, [], 10), us) ∧ SeOk x2 ∧ SeOk y2 ∧ x2.ns = 1 ∧ y2.nr = 1 ∧ y2.turn = true ∧ h.pub ≠ y.theirs ∧ y.skips = [] ∧ y2.skips = [] := by
  obtain ⟨L, px, py, ox, oy, ⟨b1, b2, b3⟩, b4, b5, b6⟩ := L
  have hm : x.mine.length = 32 := ox.mine
  have hmy : y.mine.length = 32 := oy.mine
  have hidx : ∀ p n, idxQ (skP p n) y.skips 0 = none := fun p n => by rw [L.sky]; rfl
  obtain ⟨mine, w, r, c, t1, d1, d2, d3, d4, d5, d6, d7, d8⟩ := turn_ev hts (by omega) ox ht hmy px (s := [110, 101, 119]) (by decide)
  have hml := d5.len
  have o1 : SeOk (turnX x mine r c) := by
    obtain ⟨o1, o2, o3, o4, o5, o6, o7, o8, o9, o10⟩ := ox
    exact ⟨hml, o2, d7.len, d8.len, o5, by simp [turnX], o7, by simp only [turnX]; exact o6, o9, o10⟩
  obtain ⟨key, next, pub, body, us, c1, c2, c3, c4, c5, c6⟩ := send_ev d2 (by omega) o1 (sec := sec) (by_ := by_) hs hb
  have hp0 := d4.trans c4
  have hpub : Nm us (pubT mine) pub := c6.pub
  have hmn : mine ≠ x.mine := fun e => by
    subst e
    obtain ⟨s, s1, s2, s3⟩ := L.mx
    have := (s2.mono d4).inj d5 d2 s1 (drawT_ok (by decide))
    simp only [drawT, Term.mk.injEq, true_and, and_true] at this
    subst this
    rcases s3 with h | h | ⟨j, h, _⟩
    · cases h
    · cases h
    · omega
  have hpne : pub ≠ y.theirs := fun e => by
    subst e
    have := hpub.inj (py.mono hp0) c2 (pubT_ok hml) (pubT_ok hm)
    simp only [pubT, Term.mk.injEq, List.cons.injEq, and_true, true_and] at this
    exact hmn this
  have hag := agreeX_pub c2 (a := y.mine) hml hpub
  have hyt : y.turn = false := by have := L.turn; rw [ht] at this; simpa using this.symm
  have hw := d6.mono c4
  have hns : x.ns = 0 := by omega
  have hnr : y.nr = 0 := by omega
  have h0 : (turnX x mine r c).ns = 0 := rfl
  have h1 : (turnX x mine r c).pn = 0 := hns
  have h2 : (turnX x mine r c).send = c := rfl
  rw [h0, h1] at c6
  rw [h0, h1] at c1
  have hrc : rcvT us y ⟨pub, 0, 0⟩ w = (turnR y r c pub, us) := by
    unfold rcvT
    simp only [hnr, Nat.sub_self, skipG]
    rw [twoV_again (a := r) (b := c) (by rw [← L.root]; exact d7.mono c4) (by rw [← L.root]; exact d8.mono c4)]
  have hrq : rcvQ us (turnR y r c pub) ⟨pub, 0, 0⟩ = .inr ({ turnR y r c pub with recv := next, nr := 1 }, key, us) := by
    unfold rcvQ
    rw [if_neg (by simp [turnR])]
    simp only [turnR, Nat.sub_self, skipG]
    rw [twoV_again (a := key) (b := next) (by rw [h2] at c6; exact c6.key) (by rw [h2] at c5; exact c5)]
  have oy2 : SeOk { turnR y r c pub with recv := next, nr := 1 } := by
    obtain ⟨o1, o2, o3, o4, o5, o6, o7, o8, o9, o10⟩ := oy
    exact ⟨o1, hpub.len, d7.len, o4, c5.len, o6, by simp, o8, o9, o10⟩
  refine ⟨turnX x mine r c, t1, _, _, body, us, { turnR y r c pub with recv := next, nr := 1 }, d1, o1, d3, h0, h1, c1, c2, by omega, hpub.len, hpub.nz, rfl, rfl, c6.len, ?_, ?_, ?_, oy2, by simp [turnX], rfl, rfl, hpne, L.sky, L.sky⟩
  · unfold rcvV rcvP
    rw [hidx]
    simp only [if_neg hpne, hag]
    rw [if_neg (by simp [hyt]; omega), if_neg (by simp [L.sky]), hw.putN, hw.putT, hrc]
    simp only
    rw [hrq]
    simp only
    rw [c6.open c2]
    simp
  · unfold rcvV rcvP
    have : idxQ (skP pub 0) ({ turnR y r c pub with recv := next, nr := 1 } : Ses).skips 0 = none := by
      show idxQ (skP pub 0) y.skips 0 = none
      rw [L.sky]; rfl
    simp only [this]
    rw [if_pos (by simp [turnR])]
    unfold rcvQ
    rw [if_pos (by simp)]
  · obtain ⟨o1, o2, o3, o4, o5, o6, o7, o8, o9, o10⟩ := o1
    exact ⟨o1, o2, o3, c5.len, o5, by simp, o7, by simp, o9, o10⟩
end Go.Cab
namespace Go.Cab
open Go.RowKit
open Classical
def fb902 : AC := (.seq (.reg [⟨some 0, none, .mov (.const (.bool false)), [], none⟩]) (.seq (.reg [⟨some 15, none, .xc (.dir 6) [] [] [], [], none⟩, ⟨some 1, none, .alloc 1 (.st [1] [(.lit (.pointer .none))]), [], none⟩, ⟨none, none, .store 1 (.tmp 1) (.tmp 15), [], none⟩]) (.seq (.reg [⟨some 17, none, .load true 1 (.tmp 1), [], none⟩, ⟨some 18, none, .rdp (.mkifc 26) [.tmp 17], [], none⟩, ⟨some 19, none, .xc (.dir 7) [.tmp 18] [] [], [], none⟩, ⟨some 16, none, .mov (.tmp 19), [], none⟩, ⟨some 20, none, .ext (.tmp 16) 0, [], none⟩, ⟨some 21, none, .ext (.tmp 16) 1, [], none⟩, ⟨some 22, none, .ext (.tmp 16) 2, [], none⟩, ⟨some 2, none, .alloc 165 (.st [32, 32, 32, 32, 32, 1, 1, 1, 1, 1] [(.arr 1 (List.replicate 32 (.lit (bn 0)))), (.arr 1 (List.replicate 32 (.lit (bn 0)))), (.arr 1 (List.replicate 32 (.lit (bn 0)))), (.arr 1 (List.replicate 32 (.lit (bn 0)))), (.arr 1 (List.replicate 32 (.lit (bn 0)))), (.lit (wn 0)), (.lit (wn 0)), (.lit (wn 0)), (.lit (.bool false)), (.lit (.slice .none 0 0))]), [], none⟩, ⟨some 3, none, .alloc 165 (.st [32, 32, 32, 32, 32, 1, 1, 1, 1, 1] [(.arr 1 (List.replicate 32 (.lit (bn 0)))), (.arr 1 (List.replicate 32 (.lit (bn 0)))), (.arr 1 (List.replicate 32 (.lit (bn 0)))), (.arr 1 (List.replicate 32 (.lit (bn 0)))), (.arr 1 (List.replicate 32 (.lit (bn 0)))), (.lit (wn 0)), (.lit (wn 0)), (.lit (wn 0)), (.lit (.bool false)), (.lit (.slice .none 0 0))]), [], none⟩, ⟨none, none, .store 165 (.tmp 2) (.tmp 20), [], none⟩, ⟨none, none, .store 165 (.tmp 3) (.tmp 21), [], none⟩, ⟨some 4, none, .mov (.tmp 22), [], none⟩]) (.seq (.reg [⟨some 24, none, .load true 1 (.tmp 1), [], none⟩, ⟨some 25, none, .rdp (.mkifc 26) [.tmp 24], [], none⟩, ⟨some 26, none, .load true 165 (.tmp 2), [], none⟩, ⟨some 27, none, .build (.arr 1 (List.replicate 32 (.lit (bn 0)))) [(0, (.const (bn 1)))], [], none⟩, ⟨some 28, none, .build (.arr 1 (List.replicate 32 (.lit (bn 0)))) [(0, (.const (bn 2)))], [], none⟩, ⟨some 29, none, .bslice 32 (.arr 1 (List.replicate 32 (.lit (bn 0)))) 1 [(0, (.tmp 28))], [], none⟩, ⟨some 30, none, .xc (.dir 10) [(.tmp 25), (.tmp 26), (.const (tx [110, 101, 119])), (.tmp 27), (.tmp 29)] [] [], [], none⟩, ⟨some 23, none, .mov (.tmp 30), [], none⟩, ⟨some 31, none, .ext (.tmp 23) 0, [], none⟩, ⟨some 32, none, .ext (.tmp 23) 1, [], none⟩, ⟨some 33, none, .ext (.tmp 23) 2, [], none⟩, ⟨some 34, none, .ext (.tmp 23) 3, [], none⟩, ⟨some 5, none, .alloc 165 (.st [32, 32, 32, 32, 32, 1, 1, 1, 1, 1] [(.arr 1 (List.replicate 32 (.lit (bn 0)))), (.arr 1 (List.replicate 32 (.lit (bn 0)))), (.arr 1 (List.replicate 32 (.lit (bn 0)))), (.arr 1 (List.replicate 32 (.lit (bn 0)))), (.arr 1 (List.replicate 32 (.lit (bn 0)))), (.lit (wn 0)), (.lit (wn 0)), (.lit (wn 0)), (.lit (.bool false)), (.lit (.slice .none 0 0))]), [], none⟩, ⟨some 6, none, .alloc 34 (.st [32, 1, 1] [(.arr 1 (List.replicate 32 (.lit (bn 0)))), (.lit (wn 0)), (.lit (wn 0))]), [], none⟩, ⟨none, none, .store 165 (.tmp 5) (.tmp 31), [], none⟩, ⟨none, none, .store 34 (.tmp 6) (.tmp 32), [], none⟩, ⟨some 7, none, .mov (.tmp 33), [], none⟩, ⟨some 8, none, .mov (.tmp 34), [], none⟩]) (.seq (.reg [⟨some 36, none, .load true 1 (.tmp 1), [], none⟩, ⟨some 37, none, .rdp (.mkifc 26) [.tmp 36], [], none⟩, ⟨some 38, none, .load true 165 (.tmp 3), [], none⟩, ⟨some 39, none, .load true 34 (.tmp 6), [], none⟩, ⟨some 40, none, .build (.arr 1 (List.replicate 32 (.lit (bn 0)))) [(0, (.const (bn 1)))], [], none⟩, ⟨some 41, none, .mov (.tmp 7), [], none⟩, ⟨some 42, none, .xc (.dir 11) [.tmp 37, .tmp 38, .tmp 39, .tmp 40, .tmp 41] [] [], [], none⟩, ⟨some 35, none, .mov (.tmp 42), [], none⟩, ⟨some 43, none, .ext (.tmp 35) 0, [], none⟩, ⟨some 44, none, .ext (.tmp 35) 1, [], none⟩, ⟨some 45, none, .ext (.tmp 35) 2, [], none⟩, ⟨some 9, none, .alloc 165 (.st [32, 32, 32, 32, 32, 1, 1, 1, 1, 1] [(.arr 1 (List.replicate 32 (.lit (bn 0)))), (.arr 1 (List.replicate 32 (.lit (bn 0)))), (.arr 1 (List.replicate 32 (.lit (bn 0)))), (.arr 1 (List.replicate 32 (.lit (bn 0)))), (.arr 1 (List.replicate 32 (.lit (bn 0)))), (.lit (wn 0)), (.lit (wn 0)), (.lit (wn 0)), (.lit (.bool false)), (.lit (.slice .none 0 0))]), [], none⟩, ⟨none, none, .store 165 (.tmp 9) (.tmp 43), [], none⟩, ⟨some 10, none, .mov (.tmp 44), [], none⟩, ⟨some 11, none, .mov (.tmp 45), [], none⟩]) (.seq (.reg [⟨some 47, none, .load true 1 (.tmp 1), [], none⟩, ⟨some 48, none, .rdp (.mkifc 26) [.tmp 47], [], none⟩, ⟨some 49, none, .load true 165 (.tmp 9), [], none⟩, ⟨some 50, none, .load true 34 (.tmp 6), [], none⟩, ⟨some 51, none, .build (.arr 1 (List.replicate 32 (.lit (bn 0)))) [(0, (.const (bn 1)))], [], none⟩, ⟨some 52, none, .mov (.tmp 7), [], none⟩, ⟨some 53, none, .xc (.dir 11) [.tmp 48, .tmp 49, .tmp 50, .tmp 51, .tmp 52] [] [], [], none⟩, ⟨some 46, none, .mov (.tmp 53), [], none⟩, ⟨some 54, none, .ext (.tmp 46) 0, [], none⟩, ⟨some 55, none, .ext (.tmp 46) 1, [], none⟩, ⟨some 56, none, .ext (.tmp 46) 2, [], none⟩, ⟨some 12, none, .alloc 165 (.st [32, 32, 32, 32, 32, 1, 1, 1, 1, 1] [(.arr 1 (List.replicate 32 (.lit (bn 0)))), (.arr 1 (List.replicate 32 (.lit (bn 0)))), (.arr 1 (List.replicate 32 (.lit (bn 0)))), (.arr 1 (List.replicate 32 (.lit (bn 0)))), (.arr 1 (List.replicate 32 (.lit (bn 0)))), (.lit (wn 0)), (.lit (wn 0)), (.lit (wn 0)), (.lit (.bool false)), (.lit (.slice .none 0 0))]), [], none⟩, ⟨none, none, .store 165 (.tmp 12) (.tmp 54), [], none⟩, ⟨some 13, none, .mov (.tmp 55), [], none⟩, ⟨some 14, none, .mov (.tmp 56), [], none⟩]) (.seq (.reg [⟨some 57, none, .mov (.tmp 4), [], none⟩, ⟨some 58, none, .mov (.tmp 57), [], none⟩, ⟨some 59, some (58, true), .mov (.tmp 8), [], none⟩, ⟨some 60, some (58, true), .bin .eql (.tmp 59) (.const (jn 0)), [], none⟩, ⟨some 61, none, .pick (.tmp 58) (.tmp 60) (.const (.bool false)), [], none⟩, ⟨some 62, none, .mov (.tmp 61), [], none⟩, ⟨some 63, some (62, true), .mov (.tmp 11), [], none⟩, ⟨some 64, some (62, true), .bin .eql (.tmp 63) (.const (jn 0)), [], none⟩, ⟨some 65, none, .pick (.tmp 62) (.tmp 64) (.const (.bool false)), [], none⟩, ⟨some 66, none, .mov (.tmp 65), [], none⟩, ⟨some 67, some (66, true), .mov (.tmp 10), [], none⟩, ⟨some 68, some (66, true), .len false (.tmp 67), [], none⟩, ⟨some 69, some (66, true), .bin .eql (.tmp 68) (.const (jn 1)), [], none⟩, ⟨some 70, none, .pick (.tmp 66) (.tmp 69) (.const (.bool false)), [], none⟩, ⟨some 71, none, .mov (.tmp 70), [], none⟩, ⟨some 72, some (71, true), .mov (.tmp 10), [], none⟩, ⟨some 73, some (71, true), .iaddrS 32 (.tmp 72) (.const (jn 0)), [], none⟩, ⟨some 74, some (71, true), .load true 32 (.tmp 73), [], none⟩, ⟨some 75, some (71, true), .build (.arr 1 (List.replicate 32 (.lit (bn 0)))) [(0, (.const (bn 2)))], [], none⟩, ⟨some 76, some (71, true), .eqv 29 false (.tmp 74) (.tmp 75), [], none⟩, ⟨some 77, none, .pick (.tmp 71) (.tmp 76) (.const (.bool false)), [], none⟩, ⟨some 78, none, .mov (.tmp 77), [], none⟩, ⟨some 79, some (78, true), .mov (.tmp 14), [], none⟩, ⟨some 80, some (78, true), .bin .eql (.tmp 79) (.const (jn 10)), [], none⟩, ⟨some 81, none, .pick (.tmp 78) (.tmp 80) (.const (.bool false)), [], none⟩, ⟨some 82, none, .mov (.tmp 81), [], none⟩, ⟨some 83, some (82, true), .faddr 160 5 (.tmp 5), [], none⟩, ⟨some 84, some (82, true), .load false 1 (.tmp 83), [], none⟩, ⟨some 85, some (82, true), .bin .eql (.tmp 84) (.const (wn 1)), [], none⟩, ⟨some 86, none, .pick (.tmp 82) (.tmp 85) (.const (.bool false)), [], none⟩, ⟨some 87, none, .mov (.tmp 86), [], none⟩, ⟨some 88, some (87, true), .faddr 161 6 (.tmp 9), [], none⟩, ⟨some 89, some (87, true), .load false 1 (.tmp 88), [], none⟩, ⟨some 90, some (87, true), .bin .eql (.tmp 89) (.const (wn 1)), [], none⟩, ⟨some 91, none, .pick (.tmp 87) (.tmp 90) (.const (.bool false)), [], none⟩, ⟨some 92, none, .mov (.tmp 91), [], none⟩, ⟨some 93, some (92, true), .faddr 163 8 (.tmp 9), [], none⟩, ⟨some 94, some (92, true), .load false 1 (.tmp 93), [], none⟩, ⟨some 95, none, .pick (.tmp 92) (.tmp 94) (.const (.bool false)), [], none⟩, ⟨some 0, none, .mov (.tmp 95), [], none⟩]) .ret)))))))
def fc902 : FC := ⟨0, 96, [(.tmp 0)], fb902⟩
theorem fc902_eq : compF Go.Proofs.Tryd.prog 5 = some fc902 := by kernel_rfl
attribute [local irreducible] AReg
def key1 : List UInt8 := 1 :: List.replicate 31 0
def key2 : List UInt8 := 2 :: List.replicate 31 0
def key7 : List UInt8 := 7 :: List.replicate 31 0
theorem tgt_pairZ (a : AV) : tgtA Go.Proofs.Tryd.prog (.dir 7) [a] = some (7, [a]) := by kernel_rfl
theorem tgt_sendZ (a b c d e : AV) : tgtA Go.Proofs.Tryd.prog (.dir 10) [a, b, c, d, e] = some (10, [a, b, c, d, e]) := by kernel_rfl
theorem tgt_rcvZ (a b c d e : AV) : tgtA Go.Proofs.Tryd.prog (.dir 11) [a, b, c, d, e] = some (11, [a, b, c, d, e]) := by kernel_rfl
section
variable {H : List (Option Blk)} {t : Tb} {V0 : Value} {ts0 ts ts1 us : List Term}
theorem send_k (hh : TbOk H t V0 ts0) (hn : ts.length + 100 < 90000) {x : Ses} (hx : SeOk x) {draw by_ : List UInt8} (hd : draw.length < 1000) (hb : by_.length = 32) {ks : List (List UInt8)} (hkl : ks.length < 1000) (h32 : ∀ k ∈ ks, k.length = 32)
    {x1 x2 : Ses} {h : HeadV} {body : List UInt8} (hT : TurnOk ts x draw x1 ts1) (hx1 : SeOk x1) (hn1 : ts1.length + 50 < 90000) (e1 : x1.ns < 99) (e2 : x1.pn < 99) (hs : sendS ts1 x1 by_ ks = ((x2, h, body), us)) :
    KC Go.Proofs.Tryd.prog 10 [freeI t.b t.l, sesA x, .lit (tx draw), keyA by_, .sl 32 (klA ks)] H t ts (.tup [sesA x2, headA h, .lit (tx body), .lit (jn 0)]) us := KC.of hh fun H V h => by
  have := send_call h hn hx hd hb hkl h32 hT hx1 hn1 e1 e2
  rw [hs] at this
  exact this
theorem rcv_k (hh : TbOk H t V0 ts0) (hts : TsOk ts) (hn : ts.length + 400 < 90000) {x : Ses} (hx : SeOk x) (hsk : x.skips.length ≤ 16) (hnr : x.nr < 99) {h : HeadV} (hp : h.pub.length = 32) (hz : h.pub ≠ zk) (h1 : h.n < 99) (h2 : h.prev < 99) {by_ body : List UInt8} (hb : by_.length = 32) (hbo : body.length < 1000)
    (hfit : h.pub = x.theirs → idxQ (skP h.pub h.n) x.skips 0 = none → x.nr ≤ h.n → h.n - x.nr + x.skips.length ≤ 16) {o : Ses × List (List UInt8) × Nat} (ho : rcvV ts x h by_ body = (o, us)) :
    KC Go.Proofs.Tryd.prog 11 [freeI t.b t.l, sesA x, headA h, keyA by_, .lit (tx body)] H t ts (rcvA o) us := KC.of hh fun H V h => by
  have := rcv_call h hts hn hx hsk hnr hp hz h1 h2 hb hbo hfit
  rw [ho] at this
  exact this
end
theorem headA_st (h : HeadV) : headA h = .st [32, 1, 1] [keyA h.pub, .lit (wn h.n), .lit (wn h.prev)] := rfl
theorem sesA_st (x : Ses) : sesA x = .st [32, 32, 32, 32, 32, 1, 1, 1, 1, 1] [keyA x.mine, keyA x.theirs, keyA x.root, keyA x.send, keyA x.recv, .lit (wn x.ns), .lit (wn x.nr), .lit (wn x.pn), .lit (.bool x.turn), .sl 65 (x.skips.map skA)] := rfl
set_option maxRecDepth 100000 in
set_option maxHeartbeats 64000000 in
theorem ralive_call : PCall Go.Proofs.Tryd.prog 5 [] (.val (.lit (.bool true))) := by
  have h902 := fc902_eq
  have hc6 : callable Go.Proofs.Tryd.prog 6 = true := by kernel_rfl
  refine PCall.of h902 rfl ?_; show AC.wp _ fb902 (AS.init [] 0 96) (fun x s => match x with | .exit _ => False | _ => Fin [(.tmp 0)] s _); unfold fb902 AS.init
  refine wp_sr (by simp [push_cast]; exact rfl) ?_
  refine wp_sgL ?_
  refine areg_run 0 (by simp [push_cast]; exact rfl) ?_
  refine areg_xq (us := []) rfl (by simp only [tgtA, tgtB, Option.bind_some, hc6, if_true]) (newfree_call _) ⟨_, _, (0, 0), 0, rfl, rfl⟩ (fun r hp' _ t' ht' => by cases ht') ?_
  rintro r H' ⟨l, rr, rfl, rfl⟩
  refine areg_run 0 (by simp [push_cast]; exact rfl) ?_
  refine areg_al' rfl fun l1 => areg_end (by simp [push_cast, freeS_sz, freeS_agg, freeS_tup]; exact rfl) ?_
  refine wp_kit (n := 96) (Lo := [none, some (.box l1 1 (freeS 96 l))] ++ List.replicate 94 none) (fun N t => [.lit (.bool false), .ptr (N + 1) l1 0 []] ++ List.replicate 94 .any) (fun N t => [none, some (.box l1 1 (freeS t.b t.l))] ++ List.replicate 94 none) rfl ?_ ?_ fun N H t V hh hN => ?_
  · simp [leA, RelLe.refl', RelLe.ptr']
  · simp [leB, tbNew, BlkLe.freeS']
  have g1 : ∀ V' ts' L k, (tbOf H t V' ts' ++ L)[N + k]? = L[k]? := fun V' ts' L k => cat1 _ _ _ _ (by rw [tbOf_len, hN])
  have g2 : ∀ V' ts' L k x, (tbOf H t V' ts' ++ L).set (N + k) x = tbOf H t V' ts' ++ L.set k x := fun V' ts' L k x => cat2 _ _ _ _ _ (by rw [tbOf_len, hN])
  obtain ⟨x, y, us, W, ⟨hW, L, ou, lu, ht, hn0, hr0⟩, hpair⟩ := pair_k
  have kp := hpair H t V [] hh
  have k1 : key1.length = 32 := rfl
  have k2 : key2.length = 32 := rfl
  obtain ⟨x1, ts1, x2, h, body, us2, y2, c1, c2, c3, c4, c5, c6, c7, c8, c9, c10, c11, c12, c13, c14, c15, c16, c17, c18, c19, c20, c21, c22, c23⟩ := alive_law ou (by omega) L ht (sec := key2) (by_ := key1) k2 k1
  have ks := send_k hh (ts := us) (by omega) L.ox (draw := [110, 101, 119]) (by decide) k1 (ks := [key2]) (by simp) (by simp [k2]) c1 c2 (by omega) (by omega) (by omega) c6
  have kr := rcv_k hh (ts := us2) c7 (by omega) L.oy (by rw [c22]; simp) (by omega) c9 c10 (by omega) (by omega) k1 (by omega) (fun e => absurd e c21) c14
  have kr2 := rcv_k hh (ts := us2) c7 (by omega) c17 (by rw [c23]; simp) (by omega) c9 c10 (by omega) (by omega) k1 (by omega) (fun _ _ _ => by rw [c23]; simp; omega) c15
  have hk2 := eq_key k2 k2
  have klA1 : klA [key2] = [keyA key2] := rfl
  unfold rcvA at kr kr2
  simp only at kr kr2
  clear hpair hW c1 c6 c14 c15
  refine wp_sg ?_
  refine areg_run 1 (by simp [push_cast, g1, freeS_sz, freeS_agg, freeS_tup]; exact rfl) ?_
  refine areg_rdp (us := [freeS t.b t.l]) rfl (mkifc_free _ _) ?_
  refine areg_k [freeI t.b t.l] hN rfl (tgt_pairZ _) kp (by simp) (by simp) fun V1 => ?_
  refine areg_run 4 (by simp [push_cast]; exact rfl) ?_
  refine areg_al' (z' := zsA) (by rw [zsA, zk_eq]) fun l2 => areg_al' (z' := zsA) (by rw [zsA, zk_eq]) fun l3 => areg_end (by simp [push_cast, g1, g2, sesA_st, zsA, zk_len]; exact rfl) ?_
  refine wp_sg ?_
  refine areg_run 1 (by simp [push_cast, g1, freeS_sz, freeS_agg, freeS_tup]; exact rfl) ?_
  refine areg_rdp (us := [freeS t.b t.l]) rfl (mkifc_free _ _) ?_
  refine areg_run 1 (by simp [push_cast, g1]; exact rfl) ?_
  refine areg_bd (z' := keyA key1) (fill_ar rfl rfl rfl rfl rfl) ?_
  refine areg_bd (z' := keyA key2) (fill_ar rfl rfl rfl rfl rfl) ?_
  refine areg_bsl (k := 32) (els := klA [key2]) (fill_ar rfl rfl rfl rfl rfl) ?_
  refine areg_k [freeI t.b t.l, sesA x, .lit (tx [110, 101, 119]), keyA key1, .sl 32 (klA [key2])] hN rfl (tgt_sendZ _ _ _ _ _) ks (by simp) (by simp) fun V2 => ?_
  refine areg_run 5 (by simp [push_cast]; exact rfl) ?_
  refine areg_al' (z' := zsA) (by rw [zsA, zk_eq]) fun l5 => areg_al' (z' := zhA) (by rw [zhA, zk_eq]) fun l6 => areg_end (by simp [push_cast, g1, g2, sesA_st, headA_st, zsA, zhA, zk_len]; exact rfl) ?_
  refine wp_sg ?_
  refine areg_run 1 (by simp [push_cast, g1, freeS_sz, freeS_agg, freeS_tup]; exact rfl) ?_
  refine areg_rdp (us := [freeS t.b t.l]) rfl (mkifc_free _ _) ?_
  refine areg_run 2 (by simp [push_cast, g1]; exact rfl) ?_
  refine areg_bd (z' := keyA key1) (fill_ar rfl rfl rfl rfl rfl) ?_
  refine areg_run 1 (by simp [push_cast]; exact rfl) ?_
  refine areg_k [freeI t.b t.l, sesA y, headA h, keyA key1, .lit (tx body)] hN rfl (tgt_rcvZ _ _ _ _ _) kr (by simp) (by simp) fun V3 => ?_
  refine areg_run 4 (by simp [push_cast]; exact rfl) ?_
  refine areg_al' (z' := zsA) (by rw [zsA, zk_eq]) fun l9 => areg_end (by simp [push_cast, g1, g2, sesA_st, zsA, zk_len]; exact rfl) ?_
  refine wp_sg ?_
  refine areg_run 1 (by simp [push_cast, g1, freeS_sz, freeS_agg, freeS_tup]; exact rfl) ?_
  refine areg_rdp (us := [freeS t.b t.l]) rfl (mkifc_free _ _) ?_
  refine areg_run 2 (by simp [push_cast, g1]; exact rfl) ?_
  refine areg_bd (z' := keyA key1) (fill_ar rfl rfl rfl rfl rfl) ?_
  refine areg_run 1 (by simp [push_cast]; exact rfl) ?_
  refine areg_k [freeI t.b t.l, sesA y2, headA h, keyA key1, .lit (tx body)] hN rfl (tgt_rcvZ _ _ _ _ _) kr2 (by simp) (by simp) fun V4 => ?_
  refine areg_run 4 (by simp [push_cast]; exact rfl) ?_
  refine areg_al' (z' := zsA) (by rw [zsA, zk_eq]) fun l12 => areg_end (by simp [push_cast, g1, g2, sesA_st, zsA, zk_len]; exact rfl) ?_
  rw [klA1]
  have e1 : wn x2.ns = wn 1 := by rw [c18]
  have e2 : wn y2.nr = wn 1 := by rw [c19]
  have e3 : binVal .eql (wn x2.ns) (wn 1) = some (.bool true) := by rw [bin_eqlw, c18]; rfl
  have e4 : binVal .eql (wn y2.nr) (wn 1) = some (.bool true) := by rw [bin_eqlw, c19]; rfl
  refine wp_sg ?_
  refine areg_run 18 (by simp [push_cast, g1, k2]; exact rfl) ?_
  refine areg_g (by simp [AS.ev, AS.put]) (areg_bd (z' := keyA key2) (fill_ar rfl rfl rfl rfl rfl) ?_)
  refine areg_g (by simp [AS.ev, AS.put]) (areg_eq (by simp [AS.ev, AS.put] <;> exact rfl) (by simp [AS.ev, AS.put] <;> exact rfl) hk2 rfl rfl ?_)
  refine areg_end (by simp [push_cast, g1, e3, e4]; exact rfl) (wp_ret' ?_)
  exact fin_tmp (by simp [RVal, AS.ev, AS.coe, c20]) (by simp)
end Go.Cab
namespace Go.Cab
open Classical
theorem stp1_inj {a b : List UInt8} (h : stp1 a = stp1 b) : a = b := by simpa [stp1] using h
theorem stp2_inj {a b : List UInt8} (h : stp2 a = stp2 b) : a = b := by simpa [stp2] using h
def Chn (us : List Term) : List UInt8 → Nat → List UInt8 → Prop
  | a, 0, k => k = a
  | a, n + 1, k => ∃ d, Nm us (stp2 a) d ∧ Chn us d n k
theorem Chn.mono {us vs : List Term} (p : us <+: vs) : ∀ {n : Nat} {a k : List UInt8}, Chn us a n k → Chn vs a n k
  | 0, _, _, h => h
  | _ + 1, _, _, ⟨d, h1, h2⟩ => ⟨d, h1.mono p, h2.mono p⟩
theorem Chn.inj {us : List Term} (hts : TsOk us) : ∀ {n : Nat} {a b k : List UInt8}, a.length = 32 → b.length = 32 → Chn us a n k → Chn us b n k → a = b
  | 0, _, _, _, _, _, h, g => h.symm.trans g
  | n + 1, a, b, k, ha, hb, ⟨d, h1, h2⟩, ⟨e, g1, g2⟩ => by
    have := Chn.inj hts h1.len g1.len h2 g2
    subst this
    exact stp2_inj (h1.inj g1 hts (stp2_ok ha) (stp2_ok hb))
theorem Chn.of {us : List Term} {f : Nat → List UInt8} : ∀ (n j : Nat), (∀ i, i < n → Nm us (stp2 (f (j + i))) (f (j + i + 1))) → Chn us (f j) n (f (j + n))
  | 0, _, _ => rfl
  | n + 1, j, h => ⟨f (j + 1), h 0 (by omega), by
    have := Chn.of n (j + 1) fun i hi => by have := h (i + 1) (by omega); rwa [show j + (i + 1) = j + 1 + i by omega] at this
    rwa [show j + 1 + n = j + (n + 1) by omega] at this⟩
theorem skipG_pre : ∀ (n : Nat) (x : Ses) (ts : List Term), ts <+: (skipG n x ts).2
  | 0, _, _ => List.prefix_refl _
  | n + 1, x, ts => (twoV_pre _ _ _).trans (skipG_pre n _ _)
theorem skipG_chn : ∀ (n : Nat) (x : Ses) (ts : List Term), Chn (skipG n x ts).2 x.recv n (skipG n x ts).1.recv
  | 0, _, _ => rfl
  | n + 1, x, ts => ⟨_, (twoV_nm ts txStep [x.recv]).2.mono (skipG_pre n _ _), skipG_chn n _ _⟩
theorem skipG_at {us : List Term} {f q : Nat → List UInt8} : ∀ (n : Nat) (x : Ses), (∀ j, x.nr ≤ j → j < x.nr + n → Nm us (stp1 (f j)) (q j) ∧ Nm us (stp2 (f j)) (f (j + 1))) → x.recv = f x.nr →
    skipG n x us = ({ x with recv := f (x.nr + n), nr := x.nr + n, skips := x.skips ++ (List.range n).map fun j => ⟨x.theirs, x.nr + j, q (x.nr + j)⟩ }, us)
  | 0, x, _, hr => by
    rw [skipG]
    simp [← hr]
  | n + 1, x, h, hr => by
    obtain ⟨h1, h2⟩ := h x.nr (by omega) (by omega)
    have ht : twoV us txStep [x.recv] = ((q x.nr, f (x.nr + 1)), us) := by rw [hr]; exact twoV_again h1 h2
    rw [skipG, ht]
    simp only
    rw [skipG_at n _ (fun j g1 g2 => h j (by simp only at g1; omega) (by simp only at g2; omega)) rfl]
    simp only [Prod.mk.injEq, Ses.mk.injEq, true_and, and_true]
    refine ⟨by rw [show x.nr + 1 + n = x.nr + (n + 1) by omega], by omega, ?_⟩
    rw [List.range_succ_eq_map, List.map_cons, List.map_map, List.append_assoc, List.singleton_append]
    simp only [Nat.add_zero]
    congr 2
    refine List.map_congr_left fun j _ => ?_
    simp only [Function.comp, Nat.succ_eq_add_one]
    rw [show x.nr + 1 + j = x.nr + (j + 1) by omega]
structure MgV where
  g : Nat
  n : Nat
  h : HeadV
  body : List UInt8
  sec : List UInt8
  had : Bool
structure GnV where
  G : Nat
  gm : Nat → List UInt8
  gp : Nat → List UInt8
  gr : Nat → List UInt8
  gc : Nat → Nat → List UInt8
  gk : Nat → Nat → List UInt8
  gn : Nat → Nat
structure GnOk (us : List Term) (i : Nat) (Z : GnV) : Prop where
  g1 : 1 ≤ Z.G
  mine : ∀ g, g ≤ Z.G → Mine us i (Z.gm g)
  inj : ∀ g g', g ≤ Z.G → g' ≤ Z.G → Z.gm g = Z.gm g' → g = g'
  pub : ∀ g, g ≤ Z.G → Nm us (pubT (Z.gm g)) (Z.gp g)
  root : ∀ g, g ≤ Z.G → (Z.gr g).length = 32
  c0 : ∀ g, g ≤ Z.G → (Z.gc g 0).length = 32
  key : ∀ g, g ≤ Z.G → ∀ n, n < Z.gn g → Nm us (stp1 (Z.gc g n)) (Z.gk g n)
  next : ∀ g, g ≤ Z.G → ∀ n, n < Z.gn g → Nm us (stp2 (Z.gc g n)) (Z.gc g (n + 1))
  turn : ∀ g, 2 ≤ g → g ≤ Z.G → ∃ w, Nm us (agr (Z.gm g) (Z.gm (g - 1))) w ∧ Nm us (trn1 (Z.gr (g - 1)) w) (Z.gr g) ∧ Nm us (trn2 (Z.gr (g - 1)) w) (Z.gc g 0)
  down : ∃ b, b.length = 32 ∧ Nm us ⟨2, txDown, [b]⟩ (Z.gc 1 0)
  n0 : Z.gn 0 = 0
  nb : ∀ g, Z.G < g → Z.gn g = 0
  ni : ∀ g, Z.gn g ≤ i
theorem GnOk.mono {us vs : List Term} {i : Nat} {Z : GnV} (h : GnOk us i Z) (p : us <+: vs) : GnOk vs i Z := by
  obtain ⟨h1, h2, h3, h4, h5, h6, h7, h8, h9, ⟨b, h10, h11⟩, h12, h13, h14⟩ := h
  refine ⟨h1, fun g hg => (h2 g hg).mono p, h3, fun g hg => (h4 g hg).mono p, h5, h6, fun g hg n hn => (h7 g hg n hn).mono p, fun g hg n hn => (h8 g hg n hn).mono p, fun g hg hG => ?_, ⟨b, h10, h11.mono p⟩, h12, h13, h14⟩
  obtain ⟨w, k1, k2, k3⟩ := h9 g hg hG
  exact ⟨w, k1.mono p, k2.mono p, k3.mono p⟩
theorem GnOk.up {us : List Term} {i : Nat} {Z : GnV} (h : GnOk us i Z) : GnOk us (i + 1) Z := by
  obtain ⟨h1, h2, h3, h4, h5, h6, h7, h8, h9, h10, h12, h13, h14⟩ := h
  exact ⟨h1, fun g hg => (h2 g hg).up, h3, h4, h5, h6, h7, h8, h9, h10, h12, h13, fun g => by have := h14 g; omega⟩
theorem GnOk.m32 {us : List Term} {i : Nat} {Z : GnV} (h : GnOk us i Z) {g : Nat} (hg : g ≤ Z.G) : (Z.gm g).length = 32 := by obtain ⟨_, _, k, _⟩ := h.mine g hg; exact k.len
theorem GnOk.pinj {us : List Term} (hts : TsOk us) {i : Nat} {Z : GnV} (h : GnOk us i Z) {g g' : Nat} (hg : g ≤ Z.G) (hg' : g' ≤ Z.G) (e : Z.gp g = Z.gp g') : g = g' := by
  have k := h.pub g hg
  rw [e] at k
  have := k.inj (h.pub g' hg') hts (pubT_ok (h.m32 hg)) (pubT_ok (h.m32 hg'))
  simp only [pubT, Term.mk.injEq, List.cons.injEq, and_true, true_and] at this
  exact h.inj g g' hg hg' this
theorem GnOk.c32 {us : List Term} {i : Nat} {Z : GnV} (h : GnOk us i Z) {g n : Nat} (hg : g ≤ Z.G) (hn : n ≤ Z.gn g) : (Z.gc g n).length = 32 := by
  cases n with
  | zero => exact h.c0 g hg
  | succ n => exact (h.next g hg n (by omega)).len
structure SsOk (Z : GnV) (S M R : Nat) (x : Ses) : Prop where
  par : M % 2 = S
  hM : Z.G = M ∨ Z.G = M + 1
  hR : R ≤ Z.G
  mr : (R + 1 = M ∧ x.turn = false) ∨ (R = M + 1 ∧ x.turn = true)
  mine : x.mine = Z.gm M
  theirs : x.theirs = Z.gp R
  root : x.root = Z.gr (max M R)
  send : x.send = Z.gc M (Z.gn M)
  ns : x.ns = Z.gn M
  pn : x.pn = Z.gn (M - 2)
  recv : x.recv = Z.gc R x.nr
  nr : x.nr ≤ Z.gn R
  ok : SeOk x
structure MsOk (us : List Term) (Z : GnV) (S R : Nat) (x : Ses) (l : List MgV) : Prop where
  msg : ∀ m ∈ l, m.g ≤ Z.G ∧ m.g % 2 ≠ S ∧ m.n < Z.gn m.g ∧ m.h = ⟨Z.gp m.g, m.n, Z.gn (m.g - 2)⟩ ∧ Msg us (Z.gc m.g m.n) (Z.gm m.g) key7 m.sec m.h (Z.gk m.g m.n) m.body
  uniq : (l.map fun m => (m.g, m.n)).Nodup
  had : ∀ m ∈ l, m.had = true → (m.g < R ∨ m.g = R ∧ m.n < x.nr) ∧ ∀ s ∈ x.skips, ¬ (s.pub = Z.gp m.g ∧ s.n = m.n)
  late : ∀ m ∈ l, m.had = false → (m.g < R ∨ m.g = R ∧ m.n < x.nr) → (⟨Z.gp m.g, m.n, Z.gk m.g m.n⟩ : SkV) ∈ x.skips
  sk : ∀ s ∈ x.skips, ∃ g, s.pub = Z.gp g ∧ (g < R ∨ g = R ∧ s.n < x.nr)
  skn : (x.skips.map fun s => (s.pub, s.n)).Nodup
  cnt : l.countP (fun m => !m.had) = x.skips.length + (Z.gn R - x.nr) + Z.gn (R + 2)
  few : l.countP (fun m => !m.had) ≤ 15
theorem MsOk.mono {us vs : List Term} {Z : GnV} {S R : Nat} {x : Ses} {l : List MgV} (h : MsOk us Z S R x l) (p : us <+: vs) : MsOk vs Z S R x l := by
  obtain ⟨h1, h2, h3, h4, h5, h6, h7, h8⟩ := h
  refine ⟨fun m hm => ?_, h2, h3, h4, h5, h6, h7, h8⟩
  obtain ⟨k1, k2, k3, k4, k5⟩ := h1 m hm
  exact ⟨k1, k2, k3, k4, k5.mono p⟩
end Go.Cab
namespace Go.Cab
open Classical
def GnV.up (Z : GnV) (mine pub r c : List UInt8) : GnV :=
  ⟨Z.G + 1, fun g => if g = Z.G + 1 then mine else Z.gm g, fun g => if g = Z.G + 1 then pub else Z.gp g, fun g => if g = Z.G + 1 then r else Z.gr g, fun g n => if g = Z.G + 1 then c else Z.gc g n, Z.gk, Z.gn⟩
def GnV.msg (Z : GnV) (M : Nat) (key next : List UInt8) : GnV :=
  ⟨Z.G, Z.gm, Z.gp, Z.gr, fun g n => if g = M ∧ n = Z.gn M + 1 then next else Z.gc g n, fun g n => if g = M ∧ n = Z.gn M then key else Z.gk g n, fun g => if g = M then Z.gn M + 1 else Z.gn g⟩
theorem GnOk.turnUp {us : List Term} (hts : TsOk us) {i : Nat} {Z : GnV} (h : GnOk us i Z) {mine pub w r c : List UInt8} (od : TermOk (drawT (116 :: digs i))) (hm : Nm us (drawT (116 :: digs i)) mine) (hp : Nm us (pubT mine) pub)
    (hw : Nm us (agr mine (Z.gm Z.G)) w) (hr : Nm us (trn1 (Z.gr Z.G) w) r) (hc : Nm us (trn2 (Z.gr Z.G) w) c) : GnOk us (i + 1) (Z.up mine pub r c) := by
  have ne : ∀ g, g ≤ Z.G → g ≠ Z.G + 1 := fun g hg => by omega
  have lt : ∀ g, g ≤ Z.G + 1 → g ≠ Z.G + 1 → g ≤ Z.G := fun g h1 h2 => by omega
  have hne : ∀ g, g ≤ Z.G → mine ≠ Z.gm g := fun g hg => (h.mine g hg).ne hts hm od
  have n0 := h.nb (Z.G + 1) (by omega)
  refine ⟨by simp [GnV.up], fun g hg => ?_, fun g g' hg hg' e => ?_, fun g hg => ?_, fun g hg => ?_, fun g hg => ?_, fun g hg n hn => ?_, fun g hg n hn => ?_, fun g h2 hg => ?_, ?_, h.n0, fun g hg => h.nb g (by simp only [GnV.up] at hg; omega), fun g => by have := h.ni g; simp only [GnV.up]; omega⟩
  all_goals simp only [GnV.up] at *
  · by_cases e : g = Z.G + 1
    · rw [if_pos e]; exact ⟨_, od, hm, .inr (.inr ⟨i, by omega, rfl⟩)⟩
    · rw [if_neg e]; exact (h.mine g (lt g hg e)).up
  · by_cases e1 : g = Z.G + 1 <;> by_cases e2 : g' = Z.G + 1
    · omega
    · rw [if_pos e1, if_neg e2] at e; exact absurd e (hne g' (lt g' hg' e2))
    · rw [if_neg e1, if_pos e2] at e; exact absurd e.symm (hne g (lt g hg e1))
    · rw [if_neg e1, if_neg e2] at e; exact h.inj g g' (lt g hg e1) (lt g' hg' e2) e
  · by_cases e : g = Z.G + 1
    · rw [if_pos e, if_pos e]; exact hp
    · rw [if_neg e, if_neg e]; exact h.pub g (lt g hg e)
  · by_cases e : g = Z.G + 1
    · rw [if_pos e]; exact hr.len
    · rw [if_neg e]; exact h.root g (lt g hg e)
  · by_cases e : g = Z.G + 1
    · rw [if_pos e]; exact hc.len
    · rw [if_neg e]; exact h.c0 g (lt g hg e)
  · by_cases e : g = Z.G + 1
    · subst e; omega
    · rw [if_neg e]; exact h.key g (lt g hg e) n hn
  · by_cases e : g = Z.G + 1
    · subst e; omega
    · rw [if_neg e, if_neg e]; exact h.next g (lt g hg e) n hn
  · by_cases e : g = Z.G + 1
    · subst e
      simp only [if_true, Nat.add_sub_cancel, if_neg (ne Z.G (Nat.le_refl _))]
      exact ⟨w, hw, hr, hc⟩
    · obtain ⟨w', k1, k2, k3⟩ := h.turn g h2 (lt g hg e)
      have e' : g - 1 ≠ Z.G + 1 := by omega
      simp only [if_neg e, if_neg e']
      exact ⟨w', k1, k2, k3⟩
  · have h1 := h.g1
    rw [if_neg (by omega)]
    exact h.down
theorem SsOk.turnUp {Z : GnV} {S M R : Nat} {x : Ses} (h : SsOk Z S M R x) (hnb : Z.gn (Z.G + 1) = 0) (ht : x.turn = true) {mine pub r c : List UInt8} (l1 : mine.length = 32) (l2 : r.length = 32) (l3 : c.length = 32) : SsOk (Z.up mine pub r c) S (Z.G + 1) R (turnX x mine r c) := by
  obtain ⟨h1, h2, h3, h4, h5, h6, h7, h8, h9, h10, h11, h12, o1, o2, o3, o4, o5, o6, o7, o8, o9, o10⟩ := h
  have hR : R = M + 1 := by
    rcases h4 with ⟨_, h⟩ | ⟨h, _⟩
    · rw [ht] at h; cases h
    · exact h
  have hG : Z.G = M + 1 := by omega
  have hRn : R ≠ Z.G + 1 := by omega
  refine ⟨by omega, .inl rfl, by simp only [GnV.up]; omega, .inl ⟨by omega, rfl⟩, ?_, ?_, ?_, ?_, ?_, ?_, ?_, h12, ⟨l1, o2, l2, l3, o5, by simp [turnX], o7, by simp only [turnX]; exact o6, o9, o10⟩⟩
  all_goals simp only [GnV.up, turnX]
  · simp
  · rw [if_neg hRn]; exact h6
  · rw [if_pos (by omega)]
  · simp
  · exact hnb.symm
  · rw [show Z.G + 1 - 2 = M by omega]; exact h9
  · rw [if_neg hRn]; exact h11
theorem SsOk.up {Z : GnV} {S M R : Nat} {x : Ses} (h : SsOk Z S M R x) (hG : Z.G = M) {mine pub r c : List UInt8} : SsOk (Z.up mine pub r c) S M R x := by
  obtain ⟨h1, h2, h3, h4, h5, h6, h7, h8, h9, h10, h11, h12, h13⟩ := h
  have hRn : R ≠ Z.G + 1 := by omega
  have hMn : M ≠ Z.G + 1 := by omega
  have hXn : max M R ≠ Z.G + 1 := by omega
  refine ⟨h1, .inr (by simp only [GnV.up]; omega), by simp only [GnV.up]; omega, h4, ?_, ?_, ?_, ?_, h9, h10, ?_, h12, h13⟩
  all_goals simp only [GnV.up]
  · rw [if_neg hMn]; exact h5
  · rw [if_neg hRn]; exact h6
  · rw [if_neg hXn]; exact h7
  · rw [if_neg hMn]; exact h8
  · rw [if_neg hRn]; exact h11
theorem MsOk.up {us : List Term} {Z : GnV} {S R : Nat} {x x' : Ses} {l : List MgV} (h : MsOk us Z S R x l) (hR : R ≤ Z.G) (e1 : x'.skips = x.skips) (e2 : x'.nr = x.nr) {mine pub r c : List UInt8} : MsOk us (Z.up mine pub r c) S R x' l := by
  obtain ⟨h1, h2, h3, h4, h5, h6, h7, h8⟩ := h
  have ne : ∀ g, g ≤ Z.G → g ≠ Z.G + 1 := fun g hg => by omega
  refine ⟨fun m hm => ?_, h2, fun m hm hh => ?_, fun m hm hh => ?_, fun s hs => ?_, ?_, ?_, h8⟩
  all_goals simp only [GnV.up, e1, e2] at *
  · obtain ⟨k1, k2, k3, k4, k5⟩ := h1 m hm
    simp only [if_neg (ne _ k1)]
    exact ⟨by omega, k2, k3, k4, k5⟩
  · rw [if_neg (ne _ (h1 m hm).1)]
    exact h3 m hm hh
  · rw [if_neg (ne _ (h1 m hm).1)]
    exact h4 m hm hh
  · obtain ⟨g, k1, k2⟩ := h5 s hs
    exact ⟨g, by rw [if_neg (by omega)]; exact k1, k2⟩
  · exact h6
  · exact h7
theorem GnOk.msg' {us : List Term} {i : Nat} {Z : GnV} (h : GnOk us i Z) {M : Nat} (hM : M ≤ Z.G) (h0 : 1 ≤ M) (hi : Z.gn M + 1 ≤ i) {key next : List UInt8} (hk : Nm us (stp1 (Z.gc M (Z.gn M))) key) (hn : Nm us (stp2 (Z.gc M (Z.gn M))) next) : GnOk us i (Z.msg M key next) := by
  obtain ⟨h1, h2, h3, h4, h5, h6, h7, h8, h9, h10, h12, h13, h14⟩ := h
  refine ⟨h1, h2, h3, h4, h5, fun g hg => ?_, fun g hg n hn' => ?_, fun g hg n hn' => ?_, fun g h2 hg => ?_, ?_, ?_, fun g hg => ?_, fun g => ?_⟩
  all_goals simp only [GnV.msg] at *
  · rw [if_neg (by omega)]; exact h6 g hg
  · by_cases e : g = M
    · subst e
      rw [if_pos rfl] at hn'
      rw [if_neg (by omega)]
      by_cases e2 : n = Z.gn g
      · rw [if_pos ⟨rfl, e2⟩, e2]; exact hk
      · rw [if_neg (by simp [e2])]; exact h7 g hg n (by omega)
    · rw [if_neg e] at hn'
      rw [if_neg (by simp [e]), if_neg (by simp [e])]; exact h7 g hg n hn'
  · by_cases e : g = M
    · subst e
      rw [if_pos rfl] at hn'
      rw [if_neg (show ¬ (g = g ∧ n = Z.gn g + 1) by omega)]
      by_cases e2 : n = Z.gn g
      · rw [if_pos ⟨rfl, by omega⟩, e2]; exact hn
      · rw [if_neg (by omega)]; exact h8 g hg n (by omega)
    · rw [if_neg e] at hn'
      rw [if_neg (by simp [e]), if_neg (by simp [e])]; exact h8 g hg n hn'
  · rw [if_neg (by omega)]; exact h9 g h2 hg
  · rw [if_neg (by omega)]; exact h10
  · rw [if_neg (by omega)]; exact h12
  · rw [if_neg (by omega)]; exact h13 g hg
  · have := h14 g; have := h14 M; split <;> omega
theorem GnOk.msg {us : List Term} {i : Nat} {Z : GnV} (h : GnOk us i Z) {M : Nat} (hM : M ≤ Z.G) (h0 : 1 ≤ M) {key next : List UInt8} (hk : Nm us (stp1 (Z.gc M (Z.gn M))) key) (hn : Nm us (stp2 (Z.gc M (Z.gn M))) next) : GnOk us (i + 1) (Z.msg M key next) :=
  h.up.msg' hM h0 (by have := h.ni M; omega) hk hn
theorem SsOk.msg {Z : GnV} {S M R : Nat} {x : Ses} (h : SsOk Z S M R x) (ht : x.turn = false) (hb : x.ns + 1 < 4294967296) {key next : List UInt8} (ln : next.length = 32) : SsOk (Z.msg M key next) S M R { x with send := next, ns := x.ns + 1 } := by
  obtain ⟨h1, h2, h3, h4, h5, h6, h7, h8, h9, h10, h11, h12, o1, o2, o3, o4, o5, o6, o7, o8, o9, o10⟩ := h
  have hR : R + 1 = M := by
    rcases h4 with ⟨h, _⟩ | ⟨_, h⟩
    · exact h
    · rw [ht] at h; cases h
  have hRM : R ≠ M := by omega
  refine ⟨h1, h2, h3, h4, h5, h6, h7, ?_, ?_, ?_, ?_, ?_, ⟨o1, o2, o3, ln, o5, hb, o7, o8, o9, o10⟩⟩
  all_goals simp only [GnV.msg]
  · simp
  · rw [h9]; simp
  · rw [if_neg (by omega)]; exact h10
  · rw [if_neg (by simp [hRM])]; exact h11
  · rw [if_neg hRM]; exact h12
theorem SsOk.msgO {Z : GnV} {S M' R' M : Nat} {y : Ses} (h : SsOk Z S M' R' y) (hM : M % 2 ≠ S) (h0 : 1 ≤ M) {key next : List UInt8} : SsOk (Z.msg M key next) S M' R' y := by
  obtain ⟨h1, h2, h3, h4, h5, h6, h7, h8, h9, h10, h11, h12, h13⟩ := h
  have hn : M' ≠ M := fun e => by subst e; exact hM h1
  refine ⟨h1, h2, h3, h4, h5, h6, h7, ?_, ?_, ?_, ?_, ?_, h13⟩
  all_goals simp only [GnV.msg]
  · rw [if_neg hn, if_neg (by simp [hn])]; exact h8
  · rw [if_neg hn]; exact h9
  · rw [if_neg (by omega)]; exact h10
  · rw [if_neg (by intro ⟨e1, e2⟩; subst e1; omega)]; exact h11
  · split
    · rename_i e; subst e; omega
    · exact h12
theorem MsOk.sent {us : List Term} {Z : GnV} {S M R : Nat} {x x' : Ses} {l : List MgV} (h : MsOk us Z S R x l) (hM : M % 2 = S) (h0 : 1 ≤ M) (hR : R + 1 = M) {key next : List UInt8} (e1 : x'.skips = x.skips) (e2 : x'.nr = x.nr) : MsOk us (Z.msg M key next) S R x' l := by
  obtain ⟨h1, h2, h3, h4, h5, h6, h7, h8⟩ := h
  refine ⟨fun m hm => ?_, h2, fun m hm hh => ?_, fun m hm hh => ?_, fun s hs => ?_, ?_, ?_, h8⟩
  all_goals try simp only [GnV.msg, e1, e2] at *
  · obtain ⟨k1, k2, k3, k4, k5⟩ := h1 m hm
    have ne : m.g ≠ M := fun e => by subst e; exact k2 hM
    have ne2 : m.g - 2 ≠ M := by omega
    simp only [if_neg ne, if_neg ne2, ne, false_and, if_false]
    exact ⟨k1, k2, k3, k4, k5⟩
  · exact h3 m hm hh
  · have ne : m.g ≠ M := fun e => by have := (h1 m hm).2.1; subst e; exact this hM
    simp only [ne, false_and, if_false]
    exact h4 m hm hh
  · exact h5 s hs
  · exact h6
  · rw [if_neg (by omega), if_neg (by omega)]; exact h7
theorem MsOk.msgO {us : List Term} {Z : GnV} {S M R : Nat} {y : Ses} {l : List MgV} (h : MsOk us Z S R y l) (hG : M ≤ Z.G) (hG2 : Z.G ≤ M + 1) (hM : M % 2 ≠ S) (h0 : 1 ≤ M) (hR : R = M ∨ R + 2 = M) (hnr : y.nr ≤ Z.gn R) (hf : l.countP (fun m => !m.had) < 15) {key next body sec : List UInt8} {hd : HeadV}
    (hh : hd = ⟨Z.gp M, Z.gn M, Z.gn (M - 2)⟩) (hm : Msg us (Z.gc M (Z.gn M)) (Z.gm M) key7 sec hd key body) : MsOk us (Z.msg M key next) S R y (l ++ [⟨M, Z.gn M, hd, body, sec, false⟩]) := by
  obtain ⟨h1, h2, h3, h4, h5, h6, h7, h8⟩ := h
  refine ⟨fun m hm' => ?_, ?_, fun m hm' hh' => ?_, fun m hm' hh' hs => ?_, h5, h6, ?_, ?_⟩
  all_goals try simp only [GnV.msg] at *
  · rcases List.mem_append.1 hm' with hm' | hm'
    · obtain ⟨k1, k2, k3, k4, k5⟩ := h1 m hm'
      have ne2 : m.g - 2 ≠ M := by omega
      have a1 : ¬ (m.g = M ∧ m.n = Z.gn M + 1) := fun ⟨e1, e2⟩ => by rw [e1] at k3; omega
      have a2 : ¬ (m.g = M ∧ m.n = Z.gn M) := fun ⟨e1, e2⟩ => by rw [e1] at k3; omega
      rw [if_neg a1, if_neg a2, if_neg ne2]
      refine ⟨k1, k2, ?_, k4, k5⟩
      split
      · rename_i e; rw [e] at k3; omega
      · exact k3
    · simp only [List.mem_singleton] at hm'
      subst hm'
      simp only [if_true, true_and]
      rw [if_neg (show M - 2 ≠ M by omega), if_neg (show Z.gn M ≠ Z.gn M + 1 by omega)]
      exact ⟨hG, hM, by omega, hh, hm⟩
  · rw [List.map_append, List.nodup_append]
    refine ⟨h2, by simp, fun a ha b hb e => ?_⟩
    simp only [List.map_cons, List.map_nil, List.mem_singleton] at hb
    obtain ⟨m, hm', rfl⟩ := List.mem_map.1 ha
    have := (h1 m hm').2.2.1
    rw [hb, Prod.mk.injEq] at e
    rw [e.1] at this
    omega
  · rcases List.mem_append.1 hm' with hm' | hm'
    · exact h3 m hm' hh'
    · simp only [List.mem_singleton] at hm'
      subst hm'
      cases hh'
  · rcases List.mem_append.1 hm' with hm' | hm'
    · have k3 := (h1 m hm').2.2.1
      have a2 : ¬ (m.g = M ∧ m.n = Z.gn M) := fun ⟨e1, e2⟩ => by rw [e1] at k3; omega
      rw [if_neg a2]
      exact h4 m hm' hh' hs
    · simp only [List.mem_singleton] at hm'
      subst hm'
      simp only at hs
      rcases hR with rfl | hR <;> omega
  · rw [List.countP_append, h7]
    have e : ([⟨M, Z.gn M, hd, body, sec, false⟩] : List MgV).countP (fun m => !m.had) = 1 := rfl
    rw [e]
    rcases hR with rfl | hR
    · rw [if_pos rfl, if_neg (by omega)]; omega
    · rw [if_neg (by omega), if_pos hR, hR]; omega
  · rw [List.countP_append]
    have e : ([⟨M, Z.gn M, hd, body, sec, false⟩] : List MgV).countP (fun m => !m.had) = 1 := rfl
    omega
def Tk (us : List Term) (i S T : Nat) (x y : Ses) (lx ly : List MgV) : Prop :=
  ∃ Z M R M' R', GnOk us i Z ∧ SsOk Z S M R x ∧ SsOk Z T M' R' y ∧ MsOk us Z S R x lx ∧ MsOk us Z T R' y ly
theorem Tk.symm {us : List Term} {i S T : Nat} {x y : Ses} {lx ly : List MgV} (h : Tk us i S T x y lx ly) : Tk us i T S y x ly lx := by
  obtain ⟨Z, M, R, M', R', h1, h2, h3, h4, h5⟩ := h
  exact ⟨Z, M', R', M, R, h1, h3, h2, h5, h4⟩
theorem Tk.mono {us vs : List Term} {i S T : Nat} {x y : Ses} {lx ly : List MgV} (h : Tk us i S T x y lx ly) (p : us <+: vs) : Tk vs i S T x y lx ly := by
  obtain ⟨Z, M, R, M', R', h1, h2, h3, h4, h5⟩ := h
  exact ⟨Z, M, R, M', R', h1.mono p, h2, h3, h4.mono p, h5.mono p⟩
theorem Tk.up {us : List Term} {i S T : Nat} {x y : Ses} {lx ly : List MgV} (h : Tk us i S T x y lx ly) : Tk us (i + 1) S T x y lx ly := by
  obtain ⟨Z, M, R, M', R', h1, h2, h3, h4, h5⟩ := h
  exact ⟨Z, M, R, M', R', h1.up, h2, h3, h4, h5⟩
set_option maxHeartbeats 2000000 in
theorem talk_send {us : List Term} (hts : TsOk us) (hl : us.length + 40 < 90000) {i S T : Nat} (hi : i < 90) (hS : S < 2) (hT : T < 2) (hST : S ≠ T) {x y : Ses} {lx ly : List MgV} (h : Tk us i S T x y lx ly) (hf : ly.countP (fun m => !m.had) < 15) {sec : List UInt8} (hs : sec.length = 32) :
    ∃ x1 ts1 x2 hd body vs, TurnOk us x (116 :: digs i) x1 ts1 ∧ SeOk x1 ∧ ts1.length ≤ us.length + 4 ∧ x1.ns < 99 ∧ x1.pn < 99 ∧ sendS ts1 x1 key7 [sec] = ((x2, hd, body), vs) ∧ TsOk vs ∧ vs.length ≤ us.length + 9 ∧ us <+: vs ∧ ∃ g n, Tk vs (i + 1) S T x2 y lx (ly ++ [⟨g, n, hd, body, sec, false⟩]) := by
  obtain ⟨Z, M, R, M', R', hZ, hx, hy, hlx, hly⟩ := h
  have p1 := hx.par; have p2 := hy.par; have q1 := hx.hM; have q2 := hy.hM; have r1 := hx.hR; have r2 := hy.hR; have g1 := hZ.g1
  have k7 : key7.length = 32 := rfl
  have hdl := digs_len i
  have od : TermOk (drawT (116 :: digs i)) := drawT_ok (by simp; omega)
  have hbn : x.ns ≤ i := by rw [hx.ns]; exact hZ.ni _
  have hbp : x.pn ≤ i := by rw [hx.pn]; exact hZ.ni _
  cases htn : x.turn with
  | false =>
    have hR1 : R + 1 = M := by
      rcases hx.mr with ⟨h, _⟩ | ⟨_, h⟩
      · exact h
      · rw [htn] at h; cases h
    have hRM : R' = M ∨ R' + 2 = M := by rcases hy.mr with ⟨h, _⟩ | ⟨h, _⟩ <;> omega
    obtain ⟨key, next, pub, body, vs, c1, c2, c3, c4, c5, c6⟩ := send_ev hts (by omega) hx.ok hs k7
    have hp : pub = Z.gp M := by
      have := c6.pub
      simp only [hx.mine] at this
      exact this.fun ((hZ.pub M (by omega)).mono c4)
    rw [hx.send] at c5 c6
    have hk := c6.key
    have hZ' := (hZ.mono c4).msg (M := M) (by omega) (by omega) hk c5
    rw [hx.mine] at c6
    refine ⟨x, us, _, _, body, vs, .inl ⟨htn, rfl, rfl⟩, hx.ok, by omega, by omega, by omega, c1, c2, by omega, c4, M, Z.gn M, Z.msg M key next, M, R, M', R', hZ', hx.msg htn (by omega) c5.len, hy.msgO (by omega) (by omega), (hlx.mono c4).sent p1 (by omega) hR1 rfl rfl, (hly.mono c4).msgO (by omega) (by omega) (by omega) (by omega) hRM hy.nr hf ?_ c6⟩
    rw [hp, hx.ns, hx.pn]
  | true =>
    have hR1 : R = M + 1 := by
      rcases hx.mr with ⟨_, h⟩ | ⟨h, _⟩
      · rw [htn] at h; cases h
      · exact h
    have hG : Z.G = M + 1 := by omega
    have hM' : M' = Z.G := by omega
    have hRy : R' + 1 = M' := by rcases hy.mr with ⟨h, _⟩ | ⟨h, _⟩ <;> omega
    have px : Nm us (pubT (Z.gm Z.G)) x.theirs := by rw [hx.theirs, show R = Z.G by omega]; exact hZ.pub _ (Nat.le_refl _)
    obtain ⟨mine, w, r, c, t1, d1, d2, d3, d4, d5, d6, d7, d8⟩ := turn_ev hts (by omega) hx.ok htn (hZ.m32 (Nat.le_refl _)) px (s := 116 :: digs i) (by simp; omega)
    have hxr : x.root = Z.gr Z.G := by rw [hx.root, show max M R = Z.G by omega]
    rw [hxr] at d7 d8
    have o1 : SeOk (turnX x mine r c) := by
      obtain ⟨o1, o2, o3, o4, o5, o6, o7, o8, o9, o10⟩ := hx.ok
      exact ⟨d5.len, o2, d7.len, d8.len, o5, by simp [turnX], o7, by simp only [turnX]; exact o6, o9, o10⟩
    obtain ⟨key, next, pub, body, vs, c1, c2, c3, c4, c5, c6⟩ := send_ev d2 (by omega) o1 (sec := sec) (by_ := key7) hs k7
    have hp0 := d4.trans c4
    have hpub : Nm vs (pubT mine) pub := c6.pub
    have hZ1 := GnOk.turnUp c2 (hZ.mono hp0) (mine := mine) (pub := pub) od (d5.mono c4) hpub (by rw [agr_comm]; exact d6.mono c4) (d7.mono c4) (d8.mono c4)
    have hx1 := hx.turnUp (hZ.nb _ (by omega)) htn (mine := mine) (pub := pub) d5.len d7.len d8.len
    have hy1 := hy.up hM'.symm (mine := mine) (pub := pub) (r := r) (c := c)
    have hlx1 := (hlx.mono hp0).up r1 (x' := turnX x mine r c) rfl rfl (mine := mine) (pub := pub) (r := r) (c := c)
    have hly1 := (hly.mono hp0).up r2 (x' := y) rfl rfl (mine := mine) (pub := pub) (r := r) (c := c)
    have e1 : (Z.up mine pub r c).G = Z.G + 1 := rfl
    have e2 : (Z.up mine pub r c).gp (Z.G + 1) = pub := by simp [GnV.up]
    have e3 : (Z.up mine pub r c).gm (Z.G + 1) = mine := by simp [GnV.up]
    have e4 : (Z.up mine pub r c).gc (Z.G + 1) ((Z.up mine pub r c).gn (Z.G + 1)) = c := by simp [GnV.up]
    have e5 : (turnX x mine r c).send = c := rfl
    have e6 : (turnX x mine r c).mine = mine := rfl
    rw [e5] at c5
    rw [e5, e6] at c6
    have hk := c6.key
    rw [← e4] at hk c5
    have hni := (hZ1.ni (Z.G + 1))
    have hn0 : (Z.up mine pub r c).gn (Z.G + 1) = 0 := hZ.nb _ (by omega)
    have hn2 : (Z.up mine pub r c).gn (Z.G + 1 - 2) = x.ns := by rw [hx.ns]; show Z.gn (Z.G + 1 - 2) = _; rw [show Z.G + 1 - 2 = M by omega]
    generalize hW : Z.up mine pub r c = W at *
    have hGW : W.G = Z.G + 1 := by rw [← hW]; rfl
    have hZ2 := hZ1.msg' (M := Z.G + 1) (by omega) (by omega) (by omega) hk c5
    rw [← e4, ← e3] at c6
    have hms := hly1.msgO (M := Z.G + 1) (key := key) (next := next) (body := body) (sec := sec) (hd := ⟨pub, (turnX x mine r c).ns, (turnX x mine r c).pn⟩) (by omega) (by omega) (by omega) (by omega) (.inr (by omega)) hy1.nr hf (by rw [e2, hn0, hn2]; rfl) c6
    exact ⟨turnX x mine r c, t1, _, _, body, vs, d1, o1, d3, by simp [turnX], by simp only [turnX]; omega, c1, c2, by omega, hp0, Z.G + 1, W.gn (Z.G + 1), W.msg (Z.G + 1) key next, Z.G + 1, R, M', R', hZ2, hx1.msg rfl (by simp [turnX]) c5.len, hy1.msgO (by omega) (by omega), hlx1.sent (by omega) (by omega) (by omega) rfl rfl, hms⟩
end Go.Cab
namespace Go.Cab
open Classical
theorem idxQ_none {α : Type} (p : α → Bool) : ∀ (l : List α) (i : Nat), (∀ s ∈ l, p s = false) → idxQ p l i = none
  | [], _, _ => rfl
  | s :: l, i, h => by rw [idxQ, h s (by simp)]; exact idxQ_none p l (i + 1) fun s hs => h s (by simp [hs])
theorem idxQ_ex {α : Type} (p : α → Bool) : ∀ (l : List α) (i : Nat), (∃ s ∈ l, p s = true) → ∃ j, idxQ p l i = some j
  | [], _, h => by simp at h
  | k :: l, i, h => by
    rw [idxQ]
    by_cases hk : p k = true
    · exact ⟨i, by rw [if_pos hk]⟩
    · rw [if_neg hk]
      obtain ⟨s, hs, h⟩ := h
      rcases List.mem_cons.1 hs with rfl | hs
      · exact absurd h hk
      · exact idxQ_ex p l (i + 1) ⟨s, hs, h⟩
theorem countP_set' {α : Type} (p : α → Bool) {a m : α} : ∀ {l : List α} {k : Nat}, l[k]? = some m → p m = true → p a = false → (l.set k a).countP p + 1 = l.countP p
  | [], _, h, _, _ => by simp at h
  | b :: l, 0, h, h1, h2 => by
    simp only [List.getElem?_cons_zero, Option.some.injEq] at h
    subst h
    simp [List.countP_cons, h1, h2]
  | b :: l, k + 1, h, h1, h2 => by
    have := countP_set' p (l := l) (k := k) (by simpa using h) h1 h2
    simp only [List.set_cons_succ, List.countP_cons]
    omega
theorem map_set_same {α β : Type} {f : α → β} {l : List α} {k : Nat} {m a : α} (h : l[k]? = some m) (e : f a = f m) : (l.set k a).map f = l.map f := by
  rw [List.map_set, e]
  exact set_same (by rw [List.getElem?_map, h]; rfl)
theorem mem_set_uniq {β : Type} {f : MgV → β} {l : List MgV} (hu : (l.map f).Nodup) {k : Nat} {m a x : MgV} (h : l[k]? = some m) (hx : x ∈ l.set k a) : x = a ∨ (x ∈ l ∧ f x ≠ f m) := by
  obtain ⟨j, hj⟩ := List.mem_iff_getElem?.1 hx
  by_cases e : k = j
  · subst e
    rw [List.getElem?_set_self (List.getElem?_eq_some_iff.1 h).1] at hj
    exact .inl (Option.some.inj hj).symm
  · rw [List.getElem?_set_ne e] at hj
    refine .inr ⟨List.mem_of_getElem? hj, fun he => e ?_⟩
    exact (List.getElem?_inj (by rw [List.length_map]; exact (List.getElem?_eq_some_iff.1 h).1) hu).1 (by rw [List.getElem?_map, List.getElem?_map, h, hj]; simp [he])
def Ses.skp (Z : GnV) (R : Nat) (x : Ses) (to : Nat) : Ses := { x with recv := Z.gc R to, nr := to, skips := x.skips ++ (List.range (to - x.nr)).map fun j => ⟨x.theirs, x.nr + j, Z.gk R (x.nr + j)⟩ }
theorem skp_at {us : List Term} {i : Nat} {Z : GnV} (hZ : GnOk us i Z) {S M R : Nat} {x : Ses} (hx : SsOk Z S M R x) {to : Nat} (h1 : x.nr ≤ to) (h2 : to ≤ Z.gn R) : skipG (to - x.nr) x us = (x.skp Z R to, us) := by
  rw [skipG_at (f := Z.gc R) (q := Z.gk R) (to - x.nr) x (fun j _ hj => ⟨hZ.key R hx.hR j (by omega), hZ.next R hx.hR j (by omega)⟩) hx.recv]
  rw [show x.nr + (to - x.nr) = to by omega]
  rfl
theorem SsOk.skp {us : List Term} {i : Nat} {Z : GnV} (hZ : GnOk us i Z) (hi : i < 1000000) {S M R : Nat} {x : Ses} (h : SsOk Z S M R x) {to : Nat} (h1 : x.nr ≤ to) (h2 : to ≤ Z.gn R) (hs : x.skips.length + (to - x.nr) < 1000) : SsOk Z S M R (x.skp Z R to) := by
  have hl := hZ.c32 h.hR h2
  have hni := hZ.ni R
  have hk := fun n hn => (hZ.key R h.hR n hn).len
  obtain ⟨h1', h2', h3, h4, h5, h6, h7, h8, h9, h10, h11, h12, o1, o2, o3, o4, o5, o6, o7, o8, o9, o10⟩ := h
  refine ⟨h1', h2', h3, h4, h5, h6, h7, h8, h9, h10, rfl, h2, ⟨o1, o2, o3, o4, hl, o6, ?_, o8, ?_, fun s hs => ?_⟩⟩
  · simp only [Ses.skp]; omega
  · simp [Ses.skp]; omega
  · rcases List.mem_append.1 hs with hs | hs
    · exact o10 s hs
    · obtain ⟨j, hj, rfl⟩ := List.mem_map.1 hs
      simp only [List.mem_range] at hj
      exact ⟨o2, by simp only; omega, hk _ (by omega)⟩
theorem MsOk.skp {us : List Term} (hts : TsOk us) {i : Nat} {Z : GnV} (hZ : GnOk us i Z) {S M R : Nat} {x : Ses} (hx : SsOk Z S M R x) {l : List MgV} (h : MsOk us Z S R x l) {to : Nat} (h1 : x.nr ≤ to) (h2 : to ≤ Z.gn R) : MsOk us Z S R (x.skp Z R to) l := by
  have hth := hx.theirs
  have hR := hx.hR
  obtain ⟨k1, k2, k3, k4, k5, k6, k7, k8⟩ := h
  refine ⟨k1, k2, fun m hm hh => ?_, fun m hm hh hs => ?_, fun s hs => ?_, ?_, ?_, k8⟩
  all_goals simp only [Ses.skp] at *
  · obtain ⟨a1, a2⟩ := k3 m hm hh
    refine ⟨by omega, fun s hs he => ?_⟩
    rcases List.mem_append.1 hs with hs | hs
    · exact a2 s hs he
    · obtain ⟨j, hj, rfl⟩ := List.mem_map.1 hs
      simp only [hth] at he
      have := hZ.pinj hts hR (k1 m hm).1 he.1
      omega
  · by_cases ho : m.g < R ∨ m.g = R ∧ m.n < x.nr
    · exact List.mem_append_left _ (k4 m hm hh ho)
    · have e : m.g = R := by omega
      refine List.mem_append_right _ (List.mem_map.2 ⟨m.n - x.nr, by simp only [List.mem_range]; omega, ?_⟩)
      rw [show x.nr + (m.n - x.nr) = m.n by omega, hth, e]
  · rcases List.mem_append.1 hs with hs | hs
    · obtain ⟨g, a1, a2⟩ := k5 s hs
      exact ⟨g, a1, by omega⟩
    · obtain ⟨j, hj, rfl⟩ := List.mem_map.1 hs
      simp only [List.mem_range] at hj
      exact ⟨R, hth, .inr ⟨rfl, by show x.nr + j < to; omega⟩⟩
  · rw [List.map_append, List.nodup_append, List.map_map]
    refine ⟨k6, ?_, fun a ha b hb e => ?_⟩
    · refine List.Pairwise.map _ (fun a b hab => ?_) List.nodup_range
      simp only [Function.comp, ne_eq, Prod.mk.injEq, true_and]
      omega
    · obtain ⟨s, hs, rfl⟩ := List.mem_map.1 ha
      obtain ⟨j, hj, rfl⟩ := List.mem_map.1 hb
      simp only [Function.comp, Prod.mk.injEq, hth] at e
      obtain ⟨g, a1, a2⟩ := k5 s hs
      rw [a1] at e
      have := hZ.pinj hts (by omega) hR e.1
      omega
  · rw [k7]
    simp only [List.length_append, List.length_map, List.length_range]
    omega
theorem MsOk.turnR {us : List Term} {i : Nat} {Z : GnV} (hZ : GnOk us i Z) {S R : Nat} {x x' : Ses} {l : List MgV} (h : MsOk us Z S R x l) (hR : R + 2 = Z.G) (hp : R % 2 ≠ S) (hS : S < 2) (hn : x.nr = Z.gn R) (e1 : x'.skips = x.skips) (e2 : x'.nr = 0) : MsOk us Z S (R + 2) x' l := by
  obtain ⟨k1, k2, k3, k4, k5, k6, k7, k8⟩ := h
  refine ⟨k1, k2, fun m hm hh => ?_, fun m hm hh hs => ?_, fun s hs => ?_, ?_, ?_, k8⟩
  all_goals simp only [e1, e2] at *
  · obtain ⟨a1, a2⟩ := k3 m hm hh
    exact ⟨by omega, a2⟩
  · obtain ⟨a1, a2, a3, _⟩ := k1 m hm
    refine k4 m hm hh ?_
    by_cases e : m.g = R
    · rw [e] at a3; omega
    · omega
  · obtain ⟨g, a1, a2⟩ := k5 s hs
    exact ⟨g, a1, by omega⟩
  · exact k6
  · rw [k7, hZ.nb (R + 2 + 2) (by omega)]
    omega
theorem MsOk.take {us : List Term} (hts : TsOk us) {i : Nat} {Z : GnV} (hZ : GnOk us i Z) {S R : Nat} (hR : R ≤ Z.G) {x x' : Ses} {l : List MgV} (h : MsOk us Z S R x l) {k : Nat} {m : MgV} (hm : l[k]? = some m) (hf : m.had = false) (hg : m.g = R) (hn : m.n = x.nr) (e1 : x'.skips = x.skips) (e2 : x'.nr = x.nr + 1) :
    MsOk us Z S R x' (l.set k { m with had := true }) := by
  obtain ⟨k1, k2, k3, k4, k5, k6, k7, k8⟩ := h
  have hml := List.mem_of_getElem? hm
  have hc := countP_set' (fun m : MgV => !m.had) (a := { m with had := true }) hm (by simp [hf]) (by simp)
  obtain ⟨b1, b2, b3, b4, b5⟩ := k1 m hml
  refine ⟨fun z hz => ?_, ?_, fun z hz hh => ?_, fun z hz hh hs => ?_, fun s hs => ?_, ?_, ?_, by omega⟩
  all_goals simp only [e1, e2] at *
  · rcases mem_set_uniq k2 hm hz with rfl | ⟨hz, _⟩
    · exact ⟨b1, b2, b3, b4, b5⟩
    · exact k1 z hz
  · rw [map_set_same (a := { m with had := true }) hm rfl]; exact k2
  · rcases mem_set_uniq k2 hm hz with rfl | ⟨hz, _⟩
    · refine ⟨.inr ⟨hg, by simp only; omega⟩, fun s hs he => ?_⟩
      simp only at he
      obtain ⟨g, a1, a2⟩ := k5 s hs
      rw [a1] at he
      have := hZ.pinj hts (by omega) b1 he.1
      omega
    · obtain ⟨a1, a2⟩ := k3 z hz hh
      exact ⟨by omega, a2⟩
  · rcases mem_set_uniq k2 hm hz with rfl | ⟨hz, hne⟩
    · cases hh
    · refine k4 z hz hh ?_
      by_cases ho : z.g < R ∨ z.g = R ∧ z.n < x.nr
      · exact ho
      · exact absurd (by simp only [Prod.mk.injEq]; omega) hne
  · obtain ⟨g, a1, a2⟩ := k5 s hs
    exact ⟨g, a1, by omega⟩
  · exact k6
  · rw [hg] at b3; omega
theorem MsOk.del {us : List Term} (hts : TsOk us) {i : Nat} {Z : GnV} (hZ : GnOk us i Z) {S R : Nat} (hR : R ≤ Z.G) {x x' : Ses} {l : List MgV} (h : MsOk us Z S R x l) {k j : Nat} {m : MgV} {s0 : SkV} (hm : l[k]? = some m) (hf : m.had = false) (hs : m.g < R ∨ m.g = R ∧ m.n < x.nr)
    (hj : x.skips[j]? = some s0) (hp : s0.pub = Z.gp m.g ∧ s0.n = m.n) (e1 : x'.skips = x.skips.eraseIdx j) (e2 : x'.nr = x.nr) : MsOk us Z S R x' (l.set k { m with had := true }) := by
  obtain ⟨k1, k2, k3, k4, k5, k6, k7, k8⟩ := h
  have hml := List.mem_of_getElem? hm
  have hc := countP_set' (fun m : MgV => !m.had) (a := { m with had := true }) hm (by simp [hf]) (by simp)
  obtain ⟨b1, b2, b3, b4, b5⟩ := k1 m hml
  have hjl := (List.getElem?_eq_some_iff.1 hj).1
  have hsub : ∀ s ∈ x.skips.eraseIdx j, s ∈ x.skips := fun s hs => List.mem_of_mem_eraseIdx hs
  refine ⟨fun z hz => ?_, ?_, fun z hz hh => ?_, fun z hz hh hs' => ?_, fun s hs => ?_, ?_, ?_, by omega⟩
  all_goals simp only [e1, e2] at *
  · rcases mem_set_uniq k2 hm hz with rfl | ⟨hz, _⟩
    · exact ⟨b1, b2, b3, b4, b5⟩
    · exact k1 z hz
  · rw [map_set_same (a := { m with had := true }) hm rfl]; exact k2
  · rcases mem_set_uniq k2 hm hz with rfl | ⟨hz, _⟩
    · refine ⟨hs, fun s hs he => ?_⟩
      obtain ⟨i', hi', hg⟩ := List.mem_eraseIdx_iff_getElem?.1 hs
      refine hi' ((List.getElem?_inj (by rw [List.length_map]; exact (List.getElem?_eq_some_iff.1 hg).1) k6).1 ?_)
      rw [List.getElem?_map, List.getElem?_map, hg, hj]
      simp [he.1, he.2, hp.1, hp.2]
    · obtain ⟨a1, a2⟩ := k3 z hz hh
      exact ⟨a1, fun s hs => a2 s (hsub s hs)⟩
  · rcases mem_set_uniq k2 hm hz with rfl | ⟨hz, hne⟩
    · cases hh
    · obtain ⟨i', hi'⟩ := List.mem_iff_getElem?.1 (k4 z hz hh hs')
      refine List.mem_eraseIdx_iff_getElem?.2 ⟨i', fun e => hne ?_, hi'⟩
      subst e
      rw [hj] at hi'
      have hi2 := Option.some.inj hi'
      subst hi2
      simp only at hp
      have := hZ.pinj hts (k1 z hz).1 b1 hp.1
      simp only [Prod.mk.injEq]
      exact ⟨this, hp.2⟩
  · exact k5 s (hsub s hs)
  · exact List.Nodup.sublist ((List.eraseIdx_sublist _ _).map _) k6
  · rw [List.length_eraseIdx_of_lt hjl]
    omega
end Go.Cab
namespace Go.Cab
open Classical
theorem SsOk.took {us : List Term} {i : Nat} {Z : GnV} (hZ : GnOk us i Z) (hi : i < 1000000) {S M R : Nat} {x : Ses} (h : SsOk Z S M R x) {n : Nat} (hn : n < Z.gn R) : SsOk Z S M R { x with recv := Z.gc R (n + 1), nr := n + 1 } := by
  have hl := hZ.c32 h.hR (show n + 1 ≤ Z.gn R by omega)
  have hni := hZ.ni R
  obtain ⟨h1', h2', h3, h4, h5, h6, h7, h8, h9, h10, h11, h12, o1, o2, o3, o4, o5, o6, o7, o8, o9, o10⟩ := h
  exact ⟨h1', h2', h3, h4, h5, h6, h7, h8, h9, h10, rfl, hn, ⟨o1, o2, o3, o4, hl, o6, by show n + 1 < 4294967296; omega, o8, o9, o10⟩⟩
theorem SsOk.turnR {us : List Term} {i : Nat} {Z : GnV} (hZ : GnOk us i Z) {S M R : Nat} {x : Ses} (h : SsOk Z S M R x) (hR : R + 2 = Z.G) (hM : R + 1 = M) : SsOk Z S M (R + 2) (turnR x (Z.gr (R + 2)) (Z.gc (R + 2) 0) (Z.gp (R + 2))) := by
  have l1 := hZ.root (R + 2) (by omega)
  have l2 := hZ.c0 (R + 2) (by omega)
  have l3 := (hZ.pub (R + 2) (by omega)).len
  obtain ⟨h1', h2', h3, h4, h5, h6, h7, h8, h9, h10, h11, h12, o1, o2, o3, o4, o5, o6, o7, o8, o9, o10⟩ := h
  exact ⟨h1', h2', by omega, .inr ⟨by omega, rfl⟩, h5, rfl, by rw [show max M (R + 2) = R + 2 by omega]; rfl, h8, h9, h10, rfl, Nat.zero_le _, ⟨o1, l3, l1, o4, l2, o6, by show 0 < 4294967296; omega, o8, o9, o10⟩⟩
theorem rcvQ_at {us : List Term} {i : Nat} {Z : GnV} (hZ : GnOk us i Z) {S M R : Nat} {x : Ses} (hx : SsOk Z S M R x) {h : HeadV} (h1 : x.nr ≤ h.n) (h2 : h.n < Z.gn R) : rcvQ us x h = .inr ({ x.skp Z R h.n with recv := Z.gc R (h.n + 1), nr := h.n + 1 }, Z.gk R h.n, us) := by
  unfold rcvQ
  rw [if_neg (by omega), skp_at hZ hx h1 (by omega)]
  simp only
  rw [show (x.skp Z R h.n).recv = Z.gc R h.n from rfl, twoV_again (hZ.key R hx.hR _ h2) (hZ.next R hx.hR _ h2)]
  rfl
theorem SsOk.rp {Z : GnV} {S M R : Nat} {x : Ses} (h : SsOk Z S M R x) (hS : S < 2) : R % 2 ≠ S ∧ Z.G ≤ R + 2 := by
  have h1 := h.par; have h2 := h.hM
  rcases h.mr with ⟨h3, _⟩ | ⟨h3, _⟩ <;> omega
set_option maxHeartbeats 2000000 in
theorem talk_new {us : List Term} (hts : TsOk us) {i S T : Nat} (hi : i < 90) (hS : S < 2) {x y : Ses} {lx ly : List MgV} (h : Tk us i S T x y lx ly) {k : Nat} {m : MgV} (hm : lx[k]? = some m) (hf : m.had = false) :
    ∃ x', rcvV us x m.h key7 m.body = ((x', [m.sec], 0), us) ∧ Tk us i S T x' y (lx.set k { m with had := true }) ly := by
  obtain ⟨Z, M, R, M', R', hZ, hx, hy, hlx, hly⟩ := h
  obtain ⟨rp1, rp2⟩ := hx.rp hS
  have hR := hx.hR
  have hml := List.mem_of_getElem? hm
  obtain ⟨b1, b2, b3, b4, b5⟩ := hlx.msg m hml
  have hop : ∀ x', rcvO us x x' m.h key7 m.body (Z.gk m.g m.n) = ((x', [m.sec], 0), us) := fun x' => by rw [b5.open hts, if_pos rfl]
  have hpub : m.h.pub = Z.gp m.g := by rw [b4]
  have hn : m.h.n = m.n := by rw [b4]
  have hprev : m.h.prev = Z.gn (m.g - 2) := by rw [b4]
  have hfew := hlx.few
  have hcnt := hlx.cnt
  have hnr := hx.nr
  by_cases hs : m.g < R ∨ m.g = R ∧ m.n < x.nr
  · have hmem := hlx.late m hml hf hs
    obtain ⟨j, hj⟩ := idxQ_ex (skP m.h.pub m.h.n) x.skips 0 ⟨_, hmem, by simp [skP, hpub, hn]⟩
    obtain ⟨_, s0, g1, g2⟩ := idxQ_spec _ _ _ _ hj
    rw [Nat.sub_zero] at g1
    simp only [skP, hpub, hn, Bool.and_eq_true, decide_eq_true_eq] at g2
    obtain ⟨j', hj'⟩ := List.mem_iff_getElem?.1 hmem
    have hjj : j = j' := (List.getElem?_inj (by rw [List.length_map]; exact (List.getElem?_eq_some_iff.1 g1).1) hlx.skn).1 (by rw [List.getElem?_map, List.getElem?_map, g1, hj']; simp [g2.1, g2.2])
    subst hjj
    rw [hj'] at g1
    have hs0 := (Option.some.inj g1).symm
    subst hs0
    refine ⟨{ x with skips := x.skips.take j ++ x.skips.drop (j + 1) }, ?_, Z, M, R, M', R', hZ, ?_, hy, hlx.del hts hZ hR hm hf hs hj' ⟨rfl, rfl⟩ (List.eraseIdx_eq_take_drop_succ _ _).symm rfl, hly⟩
    · unfold rcvV rcvP
      rw [hj]
      simp only [hj', Option.map_some, Option.getD_some]
      exact hop _
    · obtain ⟨c1, c2, c3, c4, c5, c6, c7, c8, c9, c10, c11, c12, c13⟩ := hx
      exact ⟨c1, c2, c3, c4, c5, c6, c7, c8, c9, c10, c11, c12, c13.del j⟩
  · have hidx : idxQ (skP m.h.pub m.h.n) x.skips 0 = none := idxQ_none _ _ _ fun s hs' => by
      obtain ⟨g, a1, a2⟩ := hlx.sk s hs'
      rw [Bool.eq_false_iff]
      intro e
      simp only [skP, hpub, hn, Bool.and_eq_true, decide_eq_true_eq] at e
      rw [a1] at e
      have := hZ.pinj hts (by omega) b1 e.1
      omega
    by_cases hg : m.g = R
    · have hr := rcvQ_at hZ hx (h := m.h) (by omega) (by rw [hn, ← hg]; exact b3)
      rw [hg] at b3 hop
      rw [hn] at hr
      have hx2 := hx.skp hZ (by omega) (to := m.n) (by omega) (by omega) (by omega)
      have hl2 := hlx.skp hts hZ hx (to := m.n) (by omega) (by omega)
      refine ⟨_, ?_, Z, M, R, M', R', hZ, hx2.took hZ (by omega) b3, hy, hl2.take hts hZ hR hm hf hg rfl rfl rfl, hly⟩
      unfold rcvV rcvP
      rw [hidx]
      simp only
      rw [if_pos (by rw [hpub, hg, hx.theirs]), hr]
      exact hop _
    · have hg2 : m.g = R + 2 := by omega
      have hG : R + 2 = Z.G := by omega
      have hM := hx.hM
      have hMR : R + 1 = M ∧ x.turn = false := by
        rcases hx.mr with h | ⟨h, _⟩
        · exact h
        · omega
      obtain ⟨hMR, htn⟩ := hMR
      rw [hg2] at b1 b3 b5 hpub hprev hop
      rw [Nat.add_sub_cancel] at hprev
      have hpne : ¬ m.h.pub = x.theirs := fun e => by
        rw [hpub, hx.theirs] at e
        have := hZ.pinj hts (by omega) hR e
        omega
      have hag := agreeX_pub hts (a := x.mine) (p := m.h.pub) (hZ.m32 (g := R + 2) (by omega)) (by rw [hpub]; exact hZ.pub _ (by omega))
      obtain ⟨w, w1, w2, w3⟩ := hZ.turn (R + 2) (by omega) (by omega)
      rw [show R + 2 - 1 = M by omega] at w1 w2 w3
      rw [agr_comm, ← hx.mine] at w1
      have hx1 := hx.skp hZ (by omega) (to := Z.gn R) hnr (Nat.le_refl _) (by omega)
      have hl1 := hlx.skp hts hZ hx (to := Z.gn R) hnr (Nat.le_refl _)
      have hx2 := hx1.turnR hZ hG hMR
      have hl2 := hl1.turnR hZ (x' := Go.Cab.turnR (x.skp Z R (Z.gn R)) (Z.gr (R + 2)) (Z.gc (R + 2) 0) (Z.gp (R + 2))) hG rp1 hS rfl rfl rfl
      have hrt : rcvT us x m.h w = (Go.Cab.turnR (x.skp Z R (Z.gn R)) (Z.gr (R + 2)) (Z.gc (R + 2) 0) (Z.gp (R + 2)), us) := by
        unfold rcvT
        rw [hprev, skp_at hZ hx hnr (Nat.le_refl _)]
        simp only
        rw [show (x.skp Z R (Z.gn R)).root = Z.gr M by show x.root = _; rw [hx.root, show max M R = M by omega], twoV_again w2 w3, hpub]
      have hsk2 : (Go.Cab.turnR (x.skp Z R (Z.gn R)) (Z.gr (R + 2)) (Z.gc (R + 2) 0) (Z.gp (R + 2))).skips.length = x.skips.length + (Z.gn R - x.nr) := by
        show (x.skp Z R (Z.gn R)).skips.length = _
        simp [Ses.skp]
      have hn0 : (Go.Cab.turnR (x.skp Z R (Z.gn R)) (Z.gr (R + 2)) (Z.gc (R + 2) 0) (Z.gp (R + 2))).nr = 0 := rfl
      generalize Go.Cab.turnR (x.skp Z R (Z.gn R)) (Z.gr (R + 2)) (Z.gc (R + 2) 0) (Z.gp (R + 2)) = x2 at *
      have hr := rcvQ_at hZ hx2 (h := m.h) (by omega) (by rw [hn]; exact b3)
      rw [hn] at hr
      have hx3 := hx2.skp hZ (by omega) (to := m.n) (by omega) (by omega) (by omega)
      have hl3 := hl2.skp hts hZ hx2 (to := m.n) (by omega) (by omega)
      refine ⟨_, ?_, Z, M, R + 2, M', R', hZ, hx3.took hZ (by omega) b3, hy, hl3.take hts hZ (by omega) hm hf hg2 rfl rfl rfl, hly⟩
      unfold rcvV rcvP
      rw [hidx]
      simp only
      rw [if_neg hpne, hag]
      simp only
      rw [if_neg (by rw [htn, hprev]; simp; omega), if_neg (by rw [hprev, hn]; omega), w1.putN, w1.putT, hrt]
      simp only
      rw [hr]
      exact hop _
set_option maxHeartbeats 2000000 in
theorem talk_old {us : List Term} (hts : TsOk us) (hl : us.length + 200 < 90000) {i S T : Nat} (hi : i < 90) (hS : S < 2) {x y : Ses} {lx ly : List MgV} (h : Tk us i S T x y lx ly) {k : Nat} {m : MgV} (hm : lx[k]? = some m) (hf : m.had = true) :
    ∃ e vs, rcvV us x m.h key7 m.body = ((x, [], e), vs) ∧ 0 < e ∧ e < 100 ∧ us <+: vs ∧ TsOk vs ∧ vs.length ≤ us.length + 80 := by
  obtain ⟨Z, M, R, M', R', hZ, hx, hy, hlx, hly⟩ := h
  obtain ⟨rp1, rp2⟩ := hx.rp hS
  have hR := hx.hR
  have hml := List.mem_of_getElem? hm
  obtain ⟨b1, b2, b3, b4, b5⟩ := hlx.msg m hml
  obtain ⟨a1, a2⟩ := hlx.had m hml hf
  have hpub : m.h.pub = Z.gp m.g := by rw [b4]
  have hn : m.h.n = m.n := by rw [b4]
  have hprev : m.h.prev = Z.gn (m.g - 2) := by rw [b4]
  have hfew := hlx.few
  have hcnt := hlx.cnt
  have hnr := hx.nr
  have hidx : idxQ (skP m.h.pub m.h.n) x.skips 0 = none := idxQ_none _ _ _ fun s hs' => by
    rw [Bool.eq_false_iff]
    intro e
    simp only [skP, hpub, hn, Bool.and_eq_true, decide_eq_true_eq] at e
    exact a2 s hs' e
  by_cases hg : m.g = R
  · refine ⟨10, us, ?_, by omega, by omega, List.prefix_refl _, hts, by omega⟩
    unfold rcvV rcvP
    rw [hidx]
    simp only
    rw [if_pos (by rw [hpub, hg, hx.theirs])]
    unfold rcvQ
    rw [if_pos (by omega)]
  · have hpne : ¬ m.h.pub = x.theirs := fun e => by
      rw [hpub, hx.theirs] at e
      have := hZ.pinj hts (by omega) hR e
      omega
    have hm32 := hZ.m32 (g := m.g) b1
    have hag := agreeX_pub hts (a := x.mine) (p := m.h.pub) hm32 (by rw [hpub]; exact hZ.pub _ b1)
    have hxm := hx.ok.mine
    have oa := agr_ok hxm hm32
    have p1 := Nm.put us (agr x.mine (Z.gm m.g))
    have p2 := put_pre us (agr x.mine (Z.gm m.g))
    have p3 := hts.put oa (agr_wf _ _) (by omega)
    have p4 := putT_len us (agr x.mine (Z.gm m.g))
    have hrv : rcvP us x m.h = (if x.turn = true ∨ m.h.prev < x.nr then .inl (12, putT us (agr x.mine (Z.gm m.g))) else if 16 < m.h.prev - x.nr + m.h.n + x.skips.length then .inl (11, putT us (agr x.mine (Z.gm m.g))) else
        rcvQ (rcvT (putT us (agr x.mine (Z.gm m.g))) x m.h (nameK (putN us (agr x.mine (Z.gm m.g))))).2 (rcvT (putT us (agr x.mine (Z.gm m.g))) x m.h (nameK (putN us (agr x.mine (Z.gm m.g))))).1 m.h) := by
      unfold rcvP
      rw [hidx]
      simp only
      rw [if_neg hpne, hag]
    unfold rcvV
    rw [hrv]
    generalize nameK (putN us (agr x.mine (Z.gm m.g))) = w at *
    generalize putT us (agr x.mine (Z.gm m.g)) = u1 at *
    by_cases hA : x.turn = true ∨ m.h.prev < x.nr
    · rw [if_pos hA]
      exact ⟨12, u1, rfl, by omega, by omega, p2, p3, by omega⟩
    rw [if_neg hA]
    by_cases hB : 16 < m.h.prev - x.nr + m.h.n + x.skips.length
    · rw [if_pos hB]
      exact ⟨11, u1, rfl, by omega, by omega, p2, p3, by omega⟩
    rw [if_neg hB]
    simp only [not_or, Nat.not_lt, Bool.not_eq_true] at hA
    have hMR : R + 1 = M := by
      rcases hx.mr with ⟨h, _⟩ | ⟨_, h⟩
      · exact h
      · rw [hA.1] at h; cases h
    have hM := hx.hM
    have hni := hZ.ni R
    obtain ⟨q1, q2, q3, q4, q5, q6⟩ := skipG_ok (m.h.prev - x.nr) x u1 p3 (by omega) hx.ok (by omega) (by omega)
    unfold rcvT
    simp only
    generalize skipG (m.h.prev - x.nr) x u1 = g1 at *
    obtain ⟨x1, u2⟩ := g1
    simp only at q1 q2 q3 q4 q5 q6 ⊢
    have hw := p1.len
    obtain ⟨n1, n2⟩ := twoV_nm u2 txTurn [x1.root, w]
    have n3 := twoV_pre u2 txTurn [x1.root, w]
    have n4 := twoV_ok q1 (by omega) (s := txTurn) (by simp [txTurn]) (ks := [x1.root, w]) (by simp) (by simp [q3.root, hw])
    have n5 := twoV_len u2 txTurn [x1.root, w]
    generalize twoV u2 txTurn [x1.root, w] = tv at *
    obtain ⟨⟨r, c⟩, u3⟩ := tv
    simp only at n1 n2 n3 n4 n5 ⊢
    have o3 : SeOk (turnR x1 r c m.h.pub) := by
      obtain ⟨o1, o2, o3, o4, o5, o6, o7, o8, o9, o10⟩ := q3
      exact ⟨o1, by rw [hpub]; exact (hZ.pub _ b1).len, n1.len, o4, n2.len, o6, by simp [turnR], o8, o9, o10⟩
    unfold rcvQ
    rw [if_neg (by simp [turnR])]
    have e0 : m.h.n - (turnR x1 r c m.h.pub).nr = m.h.n := by simp [turnR]
    rw [e0]
    have ch := skipG_chn m.h.n (turnR x1 r c m.h.pub) u3
    obtain ⟨s1, s2, s3, s4, s5, s6⟩ := skipG_ok m.h.n (turnR x1 r c m.h.pub) u3 n4 (by omega) o3 (by simp only [turnR]; omega) (by simp only [turnR]; omega)
    have er : (turnR x1 r c m.h.pub).recv = c := rfl
    rw [er] at ch
    generalize skipG m.h.n (turnR x1 r c m.h.pub) u3 = g2 at *
    obtain ⟨x2, u4⟩ := g2
    simp only at ch s1 s2 s3 s4 s5 s6 ⊢
    obtain ⟨t1, t2⟩ := twoV_nm u4 txStep [x2.recv]
    have t3 := twoV_pre u4 txStep [x2.recv]
    have t4 := twoV_ok s1 (by omega) (s := txStep) (by simp [txStep]) (ks := [x2.recv]) (by simp) (by simp [s3.recv])
    have t5 := twoV_len u4 txStep [x2.recv]
    generalize twoV u4 txStep [x2.recv] = tw at *
    obtain ⟨⟨key, next⟩, u5⟩ := tw
    simp only at t1 t2 t3 t4 t5 ⊢
    have pre := ((p2.trans q6).trans (n3.trans s6)).trans t3
    rw [(b5.mono pre).open t4]
    have hne : ¬ Z.gk m.g m.n = key := fun e => by
      have hk := (hZ.key m.g b1 m.n b3).mono pre
      rw [e] at hk
      have hc := hZ.c32 b1 (Nat.le_of_lt b3)
      have h1 := stp1_inj (hk.inj t1 t4 (stp1_ok hc) (stp1_ok s3.recv))
      have ch2 : Chn us (Z.gc m.g 0) m.n (Z.gc m.g m.n) := by
        have := Chn.of (us := us) (f := Z.gc m.g) m.n 0 fun i hi => by rw [Nat.zero_add]; exact hZ.next m.g b1 i (by omega)
        rwa [Nat.zero_add] at this
      rw [hn, ← h1] at ch
      have hc0 := hZ.c0 m.g b1
      have h2 := Chn.inj t4 n2.len hc0 (ch.mono t3) (ch2.mono pre)
      have n2' := n2.mono (s6.trans t3)
      rw [h2] at n2'
      by_cases hg2 : 2 ≤ m.g
      · obtain ⟨w', w1, w2, w3⟩ := hZ.turn m.g hg2 b1
        have := n2'.inj (w3.mono pre) t4 (trn2_ok q3.root hw) (trn2_ok (hZ.root _ (by omega)) w1.len)
        simp only [trn2, Term.mk.injEq, List.cons.injEq, and_true, true_and] at this
        have hw2 := p1.mono ((q6.trans (n3.trans s6)).trans t3)
        rw [this.2] at hw2
        have := hw2.inj (w1.mono pre) t4 oa (agr_ok hm32 (hZ.m32 (by omega)))
        have e1 : x.mine ≠ Z.gm m.g := fun e => by
          rw [hx.mine] at e
          have := hZ.inj M m.g (by omega) b1 e
          omega
        have e2 : x.mine ≠ Z.gm (m.g - 1) := fun e => by
          rw [hx.mine] at e
          have := hZ.inj M (m.g - 1) (by omega) (by omega) e
          omega
        unfold agr at this
        split at this <;> split at this <;> simp only [Term.mk.injEq, List.cons.injEq, and_true, true_and] at this
        all_goals first | exact e1 this | exact e2 this | exact e1 this.1 | exact e1 this.2 | exact e2 this.1 | exact e2 this.2
      · have hg1 : m.g = 1 := by
          by_cases h0 : m.g = 0
          · rw [h0, hZ.n0] at b3; omega
          · omega
        obtain ⟨b, hb, hd⟩ := hZ.down
        rw [hg1] at n2'
        have := n2'.inj (hd.mono pre) t4 (trn2_ok q3.root hw) ⟨by simp, by simp [txDown], by simp, by simp [hb]⟩
        simp [trn2] at this
    rw [if_neg hne]
    exact ⟨2, u5, rfl, by omega, by omega, pre, t4, by omega⟩
theorem talk_fit {us : List Term} (hts : TsOk us) {i S T : Nat} (hi : i < 90) (hS : S < 2) {x y : Ses} {lx ly : List MgV} (h : Tk us i S T x y lx ly) {m : MgV} (hml : m ∈ lx) :
    SeOk x ∧ x.skips.length ≤ 16 ∧ x.nr < 99 ∧ m.h.pub.length = 32 ∧ m.h.pub ≠ zk ∧ m.h.n < 99 ∧ m.h.prev < 99 ∧ m.body.length = 32 ∧ m.sec.length = 32 ∧ (m.h.pub = x.theirs → idxQ (skP m.h.pub m.h.n) x.skips 0 = none → x.nr ≤ m.h.n → m.h.n - x.nr + x.skips.length ≤ 16) := by
  obtain ⟨Z, M, R, M', R', hZ, hx, hy, hlx, hly⟩ := h
  have hR := hx.hR
  obtain ⟨b1, b2, b3, b4, b5⟩ := hlx.msg m hml
  have hpub : m.h.pub = Z.gp m.g := by rw [b4]
  have hn : m.h.n = m.n := by rw [b4]
  have hprev : m.h.prev = Z.gn (m.g - 2) := by rw [b4]
  have hfew := hlx.few
  have hcnt := hlx.cnt
  have hnr := hx.nr
  have i1 := hZ.ni R
  have i2 := hZ.ni m.g
  have i3 := hZ.ni (m.g - 2)
  have hp := hZ.pub m.g b1
  refine ⟨hx.ok, by omega, by omega, by rw [hpub]; exact hp.len, by rw [hpub]; exact hp.nz, by omega, by omega, b5.len, b5.s32, fun e _ _ => ?_⟩
  rw [hpub, hx.theirs] at e
  have hg := hZ.pinj hts b1 hR e
  rw [hg] at b3
  omega
theorem Tk.set_had {us : List Term} {i S T : Nat} {x y : Ses} {lx ly : List MgV} (h : Tk us i S T x y lx ly) {k : Nat} {m : MgV} (hm : lx[k]? = some m) (hf : m.had = true) : Tk us i S T x y (lx.set k { m with had := true }) ly := by
  have e : ({ m with had := true } : MgV) = m := by cases m; simp only at hf; rw [hf]
  rw [e, set_same hm]
  exact h
end Go.Cab
namespace Go.Cab
open Classical
theorem talk_fitS {us : List Term} {i S T : Nat} {x y : Ses} {lx ly : List MgV} (h : Tk us i S T x y lx ly) : SeOk x ∧ SeOk y ∧ True := by
  obtain ⟨Z, M, R, M', R', hZ, hx, hy, hlx, hly⟩ := h
  exact ⟨hx.ok, hy.ok, trivial⟩
theorem talk_pub {us : List Term} {i S T : Nat} {x y : Ses} {lx ly : List MgV} {m : MgV} (h : Tk us i S T x y lx (ly ++ [m])) : m.h.pub.length = 32 := by
  obtain ⟨Z, M, R, M', R', hZ, hx, hy, hlx, hly⟩ := h
  obtain ⟨b1, _, _, b4, _⟩ := hly.msg m (by simp)
  rw [b4]
  exact (hZ.pub _ b1).len
theorem talk_start {W : List (List UInt8)} {ts : List Term} {x y : Ses} (L : Lk ts W 0 x y) (ht : x.turn = true) (n1 : x.ns = 0) (n2 : y.nr = 0) (n3 : x.nr = 0) (n4 : x.pn = 0) (n5 : y.pn = 0) (hne : x.mine ≠ y.mine) (hd : ∃ b, b.length = 32 ∧ Nm ts ⟨2, txDown, [b]⟩ x.recv) : Tk ts 0 0 1 x y [] [] := by
  obtain ⟨L, px, py, ox, oy, _, _⟩ := L
  have hyt : y.turn = false := by have := L.turn; rw [ht] at this; simpa using this.symm
  refine ⟨⟨1, fun g => if g = 0 then x.mine else y.mine, fun g => if g = 0 then y.theirs else x.theirs, fun _ => x.root, fun g _ => if g = 0 then x.send else x.recv, fun _ _ => zk, fun _ => 0⟩, 0, 1, 1, 0, ?_, ?_, ?_, ?_, ?_⟩
  · refine ⟨Nat.le_refl _, fun g hg => ?_, fun g g' hg hg' e => ?_, fun g hg => ?_, fun g _ => ox.root, fun g hg => ?_, fun g _ n hn => ?_, fun g _ n hn => ?_, fun g h2 hg => ?_, ?_, rfl, fun _ _ => rfl, fun _ => Nat.le_refl _⟩
    all_goals try simp only at *
    · split
      · exact L.mx
      · exact L.my
    · have h1 : g = 0 ∨ g = 1 := by omega
      have h2 : g' = 0 ∨ g' = 1 := by omega
      rcases h1 with rfl | rfl <;> rcases h2 with rfl | rfl
      · rfl
      · exact absurd (by simpa using e) hne
      · exact absurd (by simpa using e.symm) hne
      · rfl
    · split
      · exact py
      · exact px
    · split
      · exact ox.send
      · exact ox.recv
    · omega
    · omega
    · omega
    · simpa using hd
  · exact ⟨rfl, .inr rfl, Nat.le_refl _, .inr ⟨rfl, ht⟩, rfl, rfl, rfl, rfl, n1, n4, rfl, by simp [n3], ox⟩
  · exact ⟨rfl, .inl rfl, by simp, .inl ⟨rfl, hyt⟩, rfl, rfl, L.root.symm, L.rs.symm, by rw [← L.nr, n3], n5, L.sr.symm, by simp [n2], oy⟩
  · exact ⟨by simp, by simp, by simp, by simp, by simp [L.skx], by simp [L.skx], by simp [L.skx, n3], by simp⟩
  · exact ⟨by simp, by simp, by simp, by simp, by simp [L.sky], by simp [L.sky], by simp [L.sky, n2], by simp⟩
end Go.Cab
namespace Go.Cab
open Go.RowKit
open Classical
def isBoolT (o : Option TypeDesc) : Bool := match o with | some .bool => true | _ => false
def KLit (P : Program) (d : Nat) (t : TypeId) (v : AV) (l : List Lit) : Prop := v.isTup = false ∧ v.sz = P.cellsOf t ∧ ∀ (Imm : Nat → Nat → Prop) (w : World) (cs : List Value), R Imm w v cs → P.keyLits d t cs = some l
theorem mid_cut {α : Type} {pre c post : List α} {a n : Nat} (ha : pre.length = a) (hn : c.length = n) : ((pre ++ c ++ post).drop a).take n = c := by subst ha hn; simp [List.append_assoc]
theorem R.elemD {Imm : Nat → Nat → Prop} {w : World} {esz : Nat} {els : List AV} {cs : List Value} (h : R Imm w (.arr esz els) cs) (i : Nat) (f : AV) (hf : els[i]? = some f) : R Imm w f ((cs.drop (i * esz)).take esz) := by
  obtain ⟨pre, c, post, rfl, h1, h2, h3, _⟩ := R.elem h i f hf
  rw [mid_cut h1 h2]; exact h3
theorem R.fieldD {Imm : Nat → Nat → Prop} {w : World} {ns : List Nat} {fs : List AV} {cs : List Value} (h : R Imm w (.st ns fs) cs) (i n o : Nat) (f : AV) (hn : ns[i]? = some n) (hf : fs[i]? = some f) (ho : (ns.take i).sum = o) : R Imm w f ((cs.drop o).take n) := by
  obtain ⟨pre, c, post, rfl, h1, h2, h3, _⟩ := R.field h i n f hn hf
  rw [mid_cut (h1.trans ho) h2]; exact h3
theorem KLit.arr {P : Program} {d : Nat} {t e : TypeId} {n esz : Nat} {els : List AV} {ls : Nat → List Lit} (hu : P.underlying t = some (.array n e)) (hn : els.length = n) (hc : P.cellsOf t = n * esz) (he : P.cellsOf e = esz)
    (h : ∀ i v, els[i]? = some v → KLit P d e v (ls i)) : KLit P (d + 1) t (.arr esz els) ((List.range n).map ls).flatten := by
  refine ⟨rfl, by simp [AV.sz, hc, hn], fun Imm w cs hr => ?_⟩
  have hl := hr.len rfl
  unfold Program.keyLits
  simp only [hu]
  rw [if_pos (by rw [hl, hc]; simp [AV.sz, hn]), mapM_some (g := ls)]
  · rfl
  · intro i hi
    have hi' : i < n := by simpa using hi
    have hg : els[i]? = some els[i] := List.getElem?_eq_getElem (by omega)
    have := (h i _ hg).2.2 Imm w _ (hr.elemD i _ hg)
    rw [he]
    exact this
theorem KLit.bool {P : Program} {d : Nat} {t : TypeId} {b : Bool} (hu : isBoolT (P.underlying t) = true) (hc : P.cellsOf t = 1) : KLit P (d + 1) t (.lit (.bool b)) [.bool b] := by
  refine ⟨rfl, by simp [AV.sz, hc], fun Imm w cs hr => ?_⟩
  cases hr
  unfold Program.keyLits
  unfold isBoolT at hu
  split at hu
  · rename_i h; simp only [h]
  · cases hu
theorem KLit.key {d : Nat} {k : List UInt8} (hk : k.length = 32) : KLit Go.Proofs.Tryd.prog (d + 2) 29 (keyA k) ((List.range 32).map fun i => Lit.int .u8 (((k.getD i 0).toNat : Nat) : Int)) := by
  have hc : Go.Proofs.Tryd.prog.cellsOf 29 = 32 := by kernel_rfl
  refine ⟨rfl, by simp [keyA, AV.sz, bl_len, hk, hc], fun Imm w cs hr => ?_⟩
  have ex := R_bl hr
  rw [map_range, hk] at ex
  subst ex
  have lt : ∀ i, (k.getD i 0).toNat < 256 := fun i => (k.getD i 0).toNat_lt
  have hu : Go.Proofs.Tryd.prog.underlying 29 = some (.array 32 5) := by kernel_rfl
  have he : Go.Proofs.Tryd.prog.underlying 5 = some (.int .u8) := by kernel_rfl
  have h1 : Go.Proofs.Tryd.prog.cellsOf 5 = 1 := by kernel_rfl
  exact keyLits_row hu he hc h1 (fun i => (((k.getD i 0).toNat : Nat) : Int)) (fun i _ => wf_bn (lt i)) d
theorem KLit.eq {P : Program} {t : TypeId} {D : Nat} {v : AV} {l : List Lit} (h : KLit P D t v l) (hf : ∀ cs : List Value, cs.length = v.sz → (asVal v cs).formed P t = true) : EqAV P t v v true := fun Imm w cs cs' h1 h2 => by
  have e1 := h.2.2 Imm w cs h1
  have e2 := h.2.2 Imm w cs' h2
  exact ⟨D, D, l, l, hf _ (h1.len h.1), hf _ (h2.len h.1), e1, e2, by simp⟩
def litK (k : List UInt8) : List Lit := (List.range 32).map fun i => Lit.int .u8 (((k.getD i 0).toNat : Nat) : Int)
theorem KLit.u32 {P : Program} {d : Nat} {t : TypeId} {n : Nat} (hu : P.underlying t = some (.int .u32)) (hc : P.cellsOf t = 1) (hn : n < 4294967296) : KLit P (d + 1) t (.lit (wn n)) [.int .u32 n] := by
  refine ⟨rfl, by simp [AV.sz, hc], fun Imm w cs hr => ?_⟩
  cases hr
  unfold Program.keyLits
  simp only [hu, wn]
  have hw : (Lit.int .u32 (n : Int)).wf = true := by
    simp [Lit.wf, IntKind.min, IntKind.max, IntKind.signed, IntKind.bits]
    omega
  rw [if_pos ⟨trivial, hw⟩]
theorem KLit.text {P : Program} {d : Nat} {t : TypeId} {s : List UInt8} (hu : P.underlying t = some .string) (hc : P.cellsOf t = 1) (hn : s.length ≤ maxLen) : KLit P (d + 1) t (.lit (tx s)) [.string s] := by
  refine ⟨rfl, by simp [AV.sz, hc], fun Imm w cs hr => ?_⟩
  cases hr
  unfold Program.keyLits
  simp only [hu, tx]
  rw [if_pos (by show s.length ≤ _; exact hn)]
theorem KLit.st3 {P : Program} {d : Nat} {t : TypeId} {fs : Array Field} {f1 f2 f3 : Field} {n1 n2 n3 : Nat} {v1 v2 v3 : AV} {l1 l2 l3 : List Lit} (hu : P.underlying t = some (.struct fs)) (hl : fs.toList = [f1, f2, f3]) (hall : fs.all (·.name != "_") = true)
    (o1 : f1.offset = 0) (o2 : f2.offset = n1) (o3 : f3.offset = n1 + n2) (hc : P.cellsOf t = n1 + n2 + n3) (k1 : KLit P d f1.type v1 l1) (k2 : KLit P d f2.type v2 l2) (k3 : KLit P d f3.type v3 l3) (c1 : P.cellsOf f1.type = n1) (c2 : P.cellsOf f2.type = n2) (c3 : P.cellsOf f3.type = n3) :
    KLit P (d + 1) t (.st [n1, n2, n3] [v1, v2, v3]) (l1 ++ (l2 ++ l3)) := by
  refine ⟨rfl, by rw [hc]; simp [AV.sz, Nat.add_assoc], fun Imm w cs hr => ?_⟩
  have hlen := hr.len rfl
  have e1 := k1.2.2 Imm w _ (hr.fieldD 0 n1 0 _ rfl rfl (by simp))
  have e2 := k2.2.2 Imm w _ (hr.fieldD 1 n2 n1 _ rfl rfl (by simp))
  have e3 := k3.2.2 Imm w _ (hr.fieldD 2 n3 (n1 + n2) _ rfl rfl (by simp))
  unfold Program.keyLits
  simp only [hu]
  rw [if_pos ⟨by rw [hlen, hc]; simp [AV.sz, Nat.add_assoc], hall⟩, hl]
  simp only [List.mapM_cons, List.mapM_nil, o1, o2, o3, c1, c2, c3, e1, e2, e3]
  simp
end Go.Cab
namespace Go.Cab
open Go.RowKit
open Classical
def fb912 : AC := (.seq (.reg [⟨some 2, none, .box 165 (.tmp 0), [], none⟩, ⟨some 3, none, .box 165 (.tmp 1), [], none⟩, ⟨some 4, none, .mov (.const (.bool false)), [], none⟩]) (.seq (.seq (.reg [⟨some 6, none, .faddr 164 9 (.tmp 2), [], none⟩, ⟨some 7, none, .load false 1 (.tmp 6), [], none⟩, ⟨some 8, none, .len false (.tmp 7), [], none⟩, ⟨some 9, none, .faddr 164 9 (.tmp 3), [], none⟩, ⟨some 10, none, .load false 1 (.tmp 9), [], none⟩, ⟨some 11, none, .len false (.tmp 10), [], none⟩, ⟨some 12, none, .bin .neq (.tmp 8) (.tmp 11), [], none⟩]) (.cond (.tmp 12) (.seq (.reg [⟨some 4, none, .mov (.const (.bool false)), [], none⟩]) .ret) .skip)) (.seq (.seq (.reg [⟨some 5, none, .mov (.const (jn 0)), [], none⟩]) (.block 0 (.loop (.seq (.seq (.reg [⟨some 13, none, .mov (.tmp 5), [], none⟩, ⟨some 14, none, .faddr 164 9 (.tmp 2), [], none⟩, ⟨some 15, none, .load false 1 (.tmp 14), [], none⟩, ⟨some 16, none, .len false (.tmp 15), [], none⟩, ⟨some 17, none, .bin .lss (.tmp 13) (.tmp 16), [], none⟩]) (.cond (.tmp 17) .skip (.exit 0))) (.seq (.block 1 (.seq (.reg [⟨some 20, none, .faddr 164 9 (.tmp 2), [], none⟩, ⟨some 21, none, .load false 1 (.tmp 20), [], none⟩, ⟨some 22, none, .mov (.tmp 5), [], none⟩, ⟨some 23, none, .iaddrS 65 (.tmp 21) (.tmp 22), [], none⟩, ⟨some 24, none, .load true 65 (.tmp 23), [], none⟩, ⟨some 25, none, .faddr 164 9 (.tmp 3), [], none⟩, ⟨some 26, none, .load false 1 (.tmp 25), [], none⟩, ⟨some 27, none, .mov (.tmp 5), [], none⟩, ⟨some 28, none, .iaddrS 65 (.tmp 26) (.tmp 27), [], none⟩, ⟨some 29, none, .load true 65 (.tmp 28), [], none⟩, ⟨some 30, none, .eqv 80 true (.tmp 24) (.tmp 29), [], none⟩]) (.cond (.tmp 30) (.seq (.reg [⟨some 4, none, .mov (.const (.bool false)), [], none⟩]) .ret) .skip))) (.reg [⟨some 18, none, .mov (.tmp 5), [], none⟩, ⟨some 19, none, .bin .add (.tmp 18) (.const (jn 1)), [], none⟩, ⟨some 5, none, .mov (.tmp 19), [], none⟩])))))) (.seq (.reg [⟨some 31, none, .faddr 0 0 (.tmp 2), [], none⟩, ⟨some 32, none, .load true 32 (.tmp 31), [], none⟩, ⟨some 33, none, .faddr 0 0 (.tmp 3), [], none⟩, ⟨some 34, none, .load true 32 (.tmp 33), [], none⟩, ⟨some 35, none, .eqv 29 false (.tmp 32) (.tmp 34), [], none⟩, ⟨some 36, none, .mov (.tmp 35), [], none⟩, ⟨some 37, some (36, true), .faddr 32 1 (.tmp 2), [], none⟩, ⟨some 38, some (36, true), .load true 32 (.tmp 37), [], none⟩, ⟨some 39, some (36, true), .faddr 32 1 (.tmp 3), [], none⟩, ⟨some 40, some (36, true), .load true 32 (.tmp 39), [], none⟩, ⟨some 41, some (36, true), .eqv 29 false (.tmp 38) (.tmp 40), [], none⟩, ⟨some 42, none, .pick (.tmp 36) (.tmp 41) (.const (.bool false)), [], none⟩, ⟨some 43, none, .mov (.tmp 42), [], none⟩, ⟨some 44, some (43, true), .faddr 64 2 (.tmp 2), [], none⟩, ⟨some 45, some (43, true), .load true 32 (.tmp 44), [], none⟩, ⟨some 46, some (43, true), .faddr 64 2 (.tmp 3), [], none⟩, ⟨some 47, some (43, true), .load true 32 (.tmp 46), [], none⟩, ⟨some 48, some (43, true), .eqv 29 false (.tmp 45) (.tmp 47), [], none⟩, ⟨some 49, none, .pick (.tmp 43) (.tmp 48) (.const (.bool false)), [], none⟩, ⟨some 50, none, .mov (.tmp 49), [], none⟩, ⟨some 51, some (50, true), .faddr 96 3 (.tmp 2), [], none⟩, ⟨some 52, some (50, true), .load true 32 (.tmp 51), [], none⟩, ⟨some 53, some (50, true), .faddr 96 3 (.tmp 3), [], none⟩, ⟨some 54, some (50, true), .load true 32 (.tmp 53), [], none⟩, ⟨some 55, some (50, true), .eqv 29 false (.tmp 52) (.tmp 54), [], none⟩, ⟨some 56, none, .pick (.tmp 50) (.tmp 55) (.const (.bool false)), [], none⟩, ⟨some 57, none, .mov (.tmp 56), [], none⟩, ⟨some 58, some (57, true), .faddr 128 4 (.tmp 2), [], none⟩, ⟨some 59, some (57, true), .load true 32 (.tmp 58), [], none⟩, ⟨some 60, some (57, true), .faddr 128 4 (.tmp 3), [], none⟩, ⟨some 61, some (57, true), .load true 32 (.tmp 60), [], none⟩, ⟨some 62, some (57, true), .eqv 29 false (.tmp 59) (.tmp 61), [], none⟩, ⟨some 63, none, .pick (.tmp 57) (.tmp 62) (.const (.bool false)), [], none⟩, ⟨some 64, none, .mov (.tmp 63), [], none⟩, ⟨some 65, some (64, true), .faddr 160 5 (.tmp 2), [], none⟩, ⟨some 66, some (64, true), .load false 1 (.tmp 65), [], none⟩, ⟨some 67, some (64, true), .faddr 160 5 (.tmp 3), [], none⟩, ⟨some 68, some (64, true), .load false 1 (.tmp 67), [], none⟩, ⟨some 69, some (64, true), .bin .eql (.tmp 66) (.tmp 68), [], none⟩, ⟨some 70, none, .pick (.tmp 64) (.tmp 69) (.const (.bool false)), [], none⟩, ⟨some 71, none, .mov (.tmp 70), [], none⟩, ⟨some 72, some (71, true), .faddr 161 6 (.tmp 2), [], none⟩, ⟨some 73, some (71, true), .load false 1 (.tmp 72), [], none⟩, ⟨some 74, some (71, true), .faddr 161 6 (.tmp 3), [], none⟩, ⟨some 75, some (71, true), .load false 1 (.tmp 74), [], none⟩, ⟨some 76, some (71, true), .bin .eql (.tmp 73) (.tmp 75), [], none⟩, ⟨some 77, none, .pick (.tmp 71) (.tmp 76) (.const (.bool false)), [], none⟩, ⟨some 78, none, .mov (.tmp 77), [], none⟩, ⟨some 79, some (78, true), .faddr 162 7 (.tmp 2), [], none⟩, ⟨some 80, some (78, true), .load false 1 (.tmp 79), [], none⟩, ⟨some 81, some (78, true), .faddr 162 7 (.tmp 3), [], none⟩, ⟨some 82, some (78, true), .load false 1 (.tmp 81), [], none⟩, ⟨some 83, some (78, true), .bin .eql (.tmp 80) (.tmp 82), [], none⟩, ⟨some 84, none, .pick (.tmp 78) (.tmp 83) (.const (.bool false)), [], none⟩, ⟨some 85, none, .mov (.tmp 84), [], none⟩, ⟨some 86, some (85, true), .faddr 163 8 (.tmp 2), [], none⟩, ⟨some 87, some (85, true), .load false 1 (.tmp 86), [], none⟩, ⟨some 88, some (85, true), .faddr 163 8 (.tmp 3), [], none⟩, ⟨some 89, some (85, true), .load false 1 (.tmp 88), [], none⟩, ⟨some 90, some (85, true), .beq false (.tmp 87) (.tmp 89), [], none⟩, ⟨some 91, none, .pick (.tmp 85) (.tmp 90) (.const (.bool false)), [], none⟩, ⟨some 4, none, .mov (.tmp 91), [], none⟩]) .ret))))
def fc912 : FC := ⟨2, 92, [(.tmp 4)], fb912⟩
theorem fc912_eq : compF Go.Proofs.Tryd.prog 12 = some fc912 := by kernel_rfl
attribute [local irreducible] AReg
theorem st3_of {o : Option TypeDesc} {t1 t2 t3 : TypeId} {n1 n2 : Nat} (h : (match o with | some (.struct fs) => (match fs.toList with | [a, b, c] => a.type == t1 && b.type == t2 && c.type == t3 && a.offset == 0 && b.offset == n1 && c.offset == n2 && fs.all (·.name != "_") | _ => false) | _ => false) = true) :
    ∃ (fs : Array Field) (a b c : Field), o = some (.struct fs) ∧ fs.toList = [a, b, c] ∧ fs.all (·.name != "_") = true ∧ a.type = t1 ∧ b.type = t2 ∧ c.type = t3 ∧ a.offset = 0 ∧ b.offset = n1 ∧ c.offset = n2 := by
  split at h
  · rename_i fs
    split at h
    · rename_i a b c e
      simp only [Bool.and_eq_true, beq_iff_eq] at h
      exact ⟨fs, a, b, c, rfl, e, h.2, h.1.1.1.1.1.1, h.1.1.1.1.1.2, h.1.1.1.1.2, h.1.1.1.2, h.1.1.2, h.1.2⟩
    · cases h
  · cases h
theorem eq_skip {s : SkV} (h : SkOk s) : EqAV Go.Proofs.Tryd.prog 80 (skA s) (skA s) true := by
  obtain ⟨fs, f1, f2, f3, hu, hl, hall, t1, t2, t3, o1, o2, o3⟩ := st3_of (o := Go.Proofs.Tryd.prog.underlying 80) (t1 := 29) (t2 := 30) (t3 := 29) (n1 := 32) (n2 := 33) (by kernel_rfl)
  have cU : Go.Proofs.Tryd.prog.cellsOf 30 = 1 := by kernel_rfl
  have cK : Go.Proofs.Tryd.prog.cellsOf 29 = 32 := by kernel_rfl
  have cS : Go.Proofs.Tryd.prog.cellsOf 80 = 65 := by kernel_rfl
  have uU : Go.Proofs.Tryd.prog.underlying 30 = some (.int .u32) := by kernel_rfl
  have k1 : KLit Go.Proofs.Tryd.prog 2 f1.type (keyA s.pub) (litK s.pub) := by rw [t1]; exact KLit.key (d := 0) h.pub
  have k2 : KLit Go.Proofs.Tryd.prog 2 f2.type (.lit (wn s.n)) [.int .u32 s.n] := by rw [t2]; exact KLit.u32 (d := 1) uU cU h.n
  have k3 : KLit Go.Proofs.Tryd.prog 2 f3.type (keyA s.key) (litK s.key) := by rw [t3]; exact KLit.key (d := 0) h.key
  have kh := KLit.st3 (n1 := 32) (n2 := 1) (n3 := 32) hu hl hall o1 o2 o3 cS k1 k2 k3 (by rw [t1]; exact cK) (by rw [t2]; exact cU) (by rw [t3]; exact cK)
  refine KLit.eq (v := skA s) kh fun cs hcs => ?_
  simp only [skA, AV.sz] at hcs
  simp only [skA, asVal, Value.formed, hu]
  simp [cS, hcs]
set_option maxRecDepth 100000 in
set_option maxHeartbeats 16000000 in
theorem same_call {x : Ses} (h : SeOk x) : PCall Go.Proofs.Tryd.prog 12 [sesA x, sesA x] (.val (.lit (.bool true))) := by
  have h912 := fc912_eq
  have e1 := eq_key h.mine h.mine
  have e2 := eq_key h.theirs h.theirs
  have e3 := eq_key h.root h.root
  have e4 := eq_key h.send h.send
  have e5 := eq_key h.recv h.recv
  rw [decide_eq_true rfl] at e1 e2 e3 e4 e5
  have b6 : binVal .eql (wn x.ns) (wn x.ns) = some (.bool true) := by rw [bin_eqlw]; simp
  have b7 : binVal .eql (wn x.nr) (wn x.nr) = some (.bool true) := by rw [bin_eqlw]; simp
  have b8 : binVal .eql (wn x.pn) (wn x.pn) = some (.bool true) := by rw [bin_eqlw]; simp
  have hsk := h.sk
  have hskl := h.skl
  have hl : (x.skips.map skA).length = x.skips.length := List.length_map _
  have gW : ∀ (i : Nat) (s : SkV), x.skips[i]? = some s → (x.skips.map skA)[i]? = some (AV.st [32, 1, 32] [keyA s.pub, .lit (wn s.n), keyA s.key]) := fun i s h => by rw [List.getElem?_map, h]; rfl
  rw [sesA_st]
  generalize x.skips.map skA = T at *
  generalize x.skips = sk at *
  obtain ⟨mine, theirs, root, send, recv, ns, nr, pn, tn, _⟩ := x
  obtain ⟨x1, x2, x3, x4, x5, _, _, _, _, _⟩ := h
  simp only at e1 e2 e3 e4 e5 b6 b7 b8 x1 x2 x3 x4 x5 ⊢
  refine PCall.of h912 rfl ?_; show AC.wp _ fb912 (AS.init [.st [32, 32, 32, 32, 32, 1, 1, 1, 1, 1] [keyA mine, keyA theirs, keyA root, keyA send, keyA recv, .lit (wn ns), .lit (wn nr), .lit (wn pn), .lit (.bool tn), .sl 65 T], .st [32, 32, 32, 32, 32, 1, 1, 1, 1, 1] [keyA mine, keyA theirs, keyA root, keyA send, keyA recv, .lit (wn ns), .lit (wn nr), .lit (wn pn), .lit (.bool tn), .sl 65 T]] 2 92) (fun x s => match x with | .exit _ => False | _ => Fin [(.tmp 4)] s _); unfold fb912 AS.init
  refine wp_sg (areg_bx rfl rfl fun l2 => areg_bx rfl rfl fun l3 => areg_end (by simp [push_cast]; exact rfl) ?_)
  refine wp_seq' (wp_seq' (wp_r (by simp [push_cast, hl]; exact rfl) ?_))
  refine wp_cond_f (by simp [AS.ev]) (wp_skip' ?_)
  refine wp_seq' (wp_seq' (wp_r (by simp [push_cast]; exact rfl) (wp_block' (wp_loop_to sk.length (fun i => ⟨0, [.any, .any, .ptr 2 l2 0 [], .ptr 3 l3 0 [], .any, .lit (jn i)] ++ List.replicate 86 .any, [none, none, some (.box l2 165 (.st [32, 32, 32, 32, 32, 1, 1, 1, 1, 1] [keyA mine, keyA theirs, keyA root, keyA send, keyA recv, .lit (wn ns), .lit (wn nr), .lit (wn pn), .lit (.bool tn), .sl 65 T])), some (.box l3 165 (.st [32, 32, 32, 32, 32, 1, 1, 1, 1, 1] [keyA mine, keyA theirs, keyA root, keyA send, keyA recv, .lit (wn ns), .lit (wn nr), .lit (wn pn), .lit (.bool tn), .sl 65 T]))] ++ List.replicate 88 none⟩) ?_ ?_ ?_))))
  · exact Le.mk rfl (by simp [leT]) (by simp [leH, keyA])
  · intro i hi
    obtain ⟨s, hs⟩ : ∃ s, sk[i]? = some s := ⟨_, List.getElem?_eq_getElem hi⟩
    have hso := hsk s (List.mem_of_getElem? hs)
    have g1 := gW i s hs
    have g2 : ∀ h, T[i]'h = AV.st [32, 1, 32] [keyA s.pub, .lit (wn s.n), keyA s.key] := fun h => by rw [List.getElem?_eq_getElem h] at g1; exact Option.some.inj g1
    have eW := eq_skip hso
    obtain ⟨w1, w2, w3⟩ := hso
    have q1 : i + 1 < 9223372036854775808 := by omega
    have wA : skA s = .st [32, 1, 32] [keyA s.pub, .lit (wn s.n), keyA s.key] := rfl
    refine wp_seq' (wp_sr (by simp [push_cast, hl, hi]; exact rfl) (wp_cond_t (by simp [AS.ev]) (wp_skip' ?_)))
    refine wp_seq' (wp_block' (wp_sg ?_))
    refine areg_run 10 (by simp [push_cast, hl, hi, g1, g2, w1, w3]; exact rfl) ?_
    refine areg_eq (u := skA s) (v := skA s) (by simp [AS.ev, AS.put, wA, keyA]) (by simp [AS.ev, AS.put, wA, keyA]) eW rfl rfl ?_
    refine areg_end (by simp [push_cast]; exact rfl) ?_
    refine wp_cond_f (by simp [AS.ev, AS.put]) (wp_skip' ?_)
    refine wp_r (by simp [push_cast, q1]; exact rfl) ?_
    exact Le.mk rfl (by simp [leT]) (by simp [leH, keyA])
  · refine wp_seq' (wp_sr (by simp [push_cast, hl]; exact rfl) (wp_cond_f (by simp [AS.ev]) (wp_exit' (if_hit rfl ?_))))
    refine wp_sg ?_
    refine areg_run 4 (by simp [push_cast, x1, x2, x3, x4, x5]; exact rfl) ?_
    refine areg_eq (by simp [AS.ev, AS.put] <;> exact rfl) (by simp [AS.ev, AS.put] <;> exact rfl) e1 rfl rfl ?_
    refine areg_run 5 (by simp [push_cast, x1, x2, x3, x4, x5]; exact rfl) ?_
    refine areg_g (by simp [AS.ev, AS.put]) (areg_eq (by simp [AS.ev, AS.put] <;> exact rfl) (by simp [AS.ev, AS.put] <;> exact rfl) e2 rfl rfl ?_)
    refine areg_run 6 (by simp [push_cast, x1, x2, x3, x4, x5]; exact rfl) ?_
    refine areg_g (by simp [AS.ev, AS.put]) (areg_eq (by simp [AS.ev, AS.put] <;> exact rfl) (by simp [AS.ev, AS.put] <;> exact rfl) e3 rfl rfl ?_)
    refine areg_run 6 (by simp [push_cast, x1, x2, x3, x4, x5]; exact rfl) ?_
    refine areg_g (by simp [AS.ev, AS.put]) (areg_eq (by simp [AS.ev, AS.put] <;> exact rfl) (by simp [AS.ev, AS.put] <;> exact rfl) e4 rfl rfl ?_)
    refine areg_run 6 (by simp [push_cast, x1, x2, x3, x4, x5]; exact rfl) ?_
    refine areg_g (by simp [AS.ev, AS.put]) (areg_eq (by simp [AS.ev, AS.put] <;> exact rfl) (by simp [AS.ev, AS.put] <;> exact rfl) e5 rfl rfl ?_)
    refine areg_end (by simp [push_cast, b6, b7, b8]; exact rfl) (wp_ret' ?_)
    exact fin_tmp (by simp [RVal, AS.ev, AS.coe]) (by simp)
end Go.Cab
namespace Go.Cab
open Go.RowKit
open Classical
def actA (a : Int × Int) : AV := .st [1, 1] [.lit (.int .i64 a.1), .lit (.int .i64 a.2)]
theorem cvt_iu (k : Int) : ∃ m : Nat, m < 18446744073709551616 ∧ cvtA .u64 (.lit (.int .i64 k)) = some (.lit (un m)) := by
  refine ⟨(k % 18446744073709551616).toNat, by omega, ?_⟩
  simp only [cvtA, un]
  have h : IntKind.u64.wrap k = k % 18446744073709551616 := by simp [IntKind.wrap, IntKind.signed, IntKind.bits]
  rw [h]
  have : ((k % 18446744073709551616).toNat : Int) = k % 18446744073709551616 := by omega
  rw [this]
theorem cvt_uj2 (m : Nat) (h : m < 9223372036854775808) : cvtA .i64 (.lit (un m)) = some (.lit (jn m)) := by
  simp only [cvtA, un, wrap_i64 (Int.le_trans (by decide) (Int.natCast_nonneg m)) (by omega)]
  rfl
def zs2 : AV := .arr 165 [zsA, zsA]
end Go.Cab
/- Part 17 of what the proof stands on: V23, V24, V25, JP. -/
import Derived.Test.YtbioecfkifbkbaaGreatDoorCab15
import Derived.Test.YtbioecfkifbkbaaGreatDoorRows
import Derived.Test.YtbioecfkifbkbaaGreatDoorCab14
import Derived.ProofKit
import Derived.ChangeMaps5
import Derived.LaidLaws
import Derived.LaidHandle
import Derived.JoinedOf
set_option linter.unusedSimpArgs false
set_option linter.unnecessarySimpa false
set_option linter.unusedVariables false
set_option linter.unusedSectionVars false
namespace Go.Cab
open Go.RowKit
open Classical
attribute [local irreducible] AReg
section
variable {H : List (Option Blk)} {t : Tb} {V U1 U2 : Value} {u : Rt} {ts us : List Term}
theorem hash_pk (h : Two2 H t V ts u U1 U2 us) {ts1 us1 : List Term} (hn : ts1.length < 100000) {s : List UInt8} (hs : s.length < 100000) {ks : List (List UInt8)} (hk : ks.length < 100000) (h32 : ∀ k ∈ ks, k.length = 32) :
    GC Go.Proofs.Tryz.prog 32 [.ptr t.b t.l 0 [], .lit (tx s), .sl 32 (klA ks)] (pF H t u) (ts1, us1) (keyA (nameK (putN ts1 ⟨2, s, ks⟩))) (putT ts1 ⟨2, s, ks⟩, us1) :=
  GC.ofP h fun H V k => hash_call k hn s hs ks hk h32
set_option maxRecDepth 20000 in
set_option maxHeartbeats 16000000 in
theorem sync2_call {z : Term} (h : Two2 H t V ts u U1 U2 us) (hz : TermOk z) (hz2 : z.kind = 2) (hf : findT (shapeT z) ts 0 = none) (hn : ts.length < 90000) (hus : us = ts ++ [z]) :
    XCall Go.Proofs.Tryz.prog 10 [freeS t.b t.l, kitA u.b u.l] H fun r H' => r = .tup [] ∧ ∃ x, H' = pF H t u (us, us) x := by
  have h735 := fc735_eq
  refine XCall.le ?_
  have hself : H = pF H t u (ts, us) (V, U1, U2) := by unfold pF; rw [h.p.self, h.r.self]
  have G1 : ∀ i x, (pF H t u i x).length = H.length := fun i x => pF_len i x
  have rb : ∀ i x L, (pF H t u i x ++ L)[u.b]? = some (some (.box u.l 2 (.st [1, 1] [.own u.j x.2.1, .own u.m x.2.2]))) := fun i x L => (h.at i x L).r.hb
  have rj : ∀ i x L, (pF H t u i x ++ L)[u.j]? = some (some (.row 78 x.2.1 3 (i.2.map termA) 0)) := fun i x L => (h.at i x L).r.hj
  have tA : termA z = .st [1, 1, 1] [.lit (jn 2), .lit (tx z.text), .sl 32 (klA z.keys)] := by rw [← hz2]; rfl
  have hput : putT ts ⟨2, z.text, z.keys⟩ = ts ++ [z] := by
    have : (⟨2, z.text, z.keys⟩ : Term) = z := by rw [← hz2]
    rw [this]
    unfold putT
    rw [hf]
  have cH := hash_pk h (ts1 := ts) (us1 := us) (by omega) hz.text hz.keys hz.k32
  rw [hput, ← hus] at cH
  generalize keyA (nameK (putN ts ⟨2, z.text, z.keys⟩)) = hk at cH
  have hul : us.length = ts.length + 1 := by rw [hus]; simp
  have cl := len_pk h (ts1 := ts) (us1 := us) (by omega)
  have cr := rlen_pk h (ts1 := ts) (us1 := us) (by omega)
  have cl2 := len_pk h (ts1 := us) (us1 := us) (by omega)
  have cr2 := rlen_pk h (ts1 := us) (us1 := us) (by omega)
  rw [hul] at cr cl2 cr2
  have e1 : (us.map termA)[ts.length]? = some (termA z) := by rw [List.getElem?_map, hus]; simp
  have e2 : ∀ h, (us.map termA)[ts.length]'h = termA z := fun h => by rw [List.getElem?_eq_getElem h] at e1; exact Option.some.inj e1
  have e3 : (us.map termA).length = ts.length + 1 := by rw [List.length_map]; exact hul
  have e4 : ts.length < ts.length + 1 := by omega
  have q1 : ts.length + 1 < 9223372036854775808 := by omega
  refine XCall.of h735 rfl ?_; show AC.wp _ fb735 ⟨H.length, [freeS t.b t.l, kitA u.b u.l] ++ List.replicate (116 - 2) .any, H ++ List.replicate 116 none⟩ (fun x s => match x with | .exit _ => False | _ => ∃ s1, Le s s1 ∧ FinX [] s1 _); unfold fb735
  have hst : ∀ L, H ++ L = pF H t u (ts, us) (V, U1, U2) ++ L := fun L => by rw [← hself]
  rw [hst]
  generalize hN : H.length = N at *
  have g1 : ∀ i y L k, (pF H t u i y ++ L)[N + k]? = L[k]? := fun i y L k => cat1 N _ L k (G1 i y)
  have g2 : ∀ i y L k z, (pF H t u i y ++ L).set (N + k) z = pF H t u i y ++ L.set k z := fun i y L k z => cat2 N _ L k z (G1 i y)
  refine wp_sg (areg_bx rfl (by simp [AS.ev, freeS, AV.sz]) fun l2 => areg_bx rfl (by simp [AS.ev, AS.put, kitA, AV.sz]) fun l3 => areg_end (by simp [push_cast, g2]; exact rfl) ?_)
  refine wp_seqM (fun x : Value × Value × Value => syS H t u N l2 l3 (ts, us) x .any) (fun _ => True) (fun x _ => ?_) ?_
  · unfold syS freeS kitA
    unfold kitA at cr cr2
    refine wp_sg ?_
    refine areg_run 2 (by simp [push_cast, g1]; exact rfl) ?_
    refine areg_gi cl (by simp [AS.ev, AS.put]) fun x1 => areg_end (by simp [push_cast]; exact rfl) ?_
    refine wp_block' (wp_loopN 2 (loopN_succ ?_))
    refine wp_seq' (wp_sg ?_)
    refine areg_run 2 (by simp [push_cast, g1]; exact rfl) ?_
    refine areg_gk [.st [1] [.ptr u.b u.l 0 []]] G1 (by simp [AS.ev, AS.put]) (tgt_dir (by kernel_rfl) _) cr (by simp) (by simp) fun x2 => ?_
    refine areg_end (by simp [push_cast, e4]; exact rfl) ?_
    refine wp_cond_t (by simp [AS.ev]) (wp_skip' ?_)
    refine wp_seq' (wp_block' (wp_sg ?_))
    refine areg_run 8 (by simp [push_cast, g1, rb, rj, e1, e2, e3, e4]; exact rfl) ?_
    refine areg_al' rfl fun l6 => areg_end (by simp [push_cast, g1, g2, tA]; exact rfl) ?_
    refine wp_seq' (wp_sr (by simp [push_cast, g1, tA]; exact rfl) ?_)
    refine wp_block' (wp_sr (by simp [push_cast, g1]; exact rfl) ?_)
    refine wp_cond_f (by simp [AS.ev]) ?_
    refine wp_sr (by simp [push_cast, g1]; exact rfl) ?_
    refine wp_cond_t (by simp [AS.ev]) ?_
    refine wp_rg ?_
    refine areg_run 6 (by simp [push_cast, g1, tA]; exact rfl) ?_
    refine areg_gi cH (by simp [AS.ev, AS.put]) fun x3 => areg_end (by simp [push_cast]; exact rfl) ?_
    refine wp_sg ?_
    refine areg_run 2 (by simp [push_cast, g1]; exact rfl) ?_
    refine areg_gi cl2 (by simp [AS.ev, AS.put]) fun x4 => areg_end (by simp [push_cast]; exact rfl) ?_
    refine wp_cond_f (by simp [AS.ev]) (wp_skip' ?_)
    refine wp_r (by simp [push_cast, q1]; exact rfl) ?_
    refine loopN_succ ?_
    refine wp_seq' (wp_sg ?_)
    refine areg_run 2 (by simp [push_cast, g1]; exact rfl) ?_
    refine areg_gk [.st [1] [.ptr u.b u.l 0 []]] G1 (by simp [AS.ev, AS.put]) (tgt_dir (by kernel_rfl) _) cr2 (by simp) (by simp) fun x5 => ?_
    refine areg_end (by simp [push_cast]; exact rfl) ?_
    refine wp_cond_f (by simp [AS.ev]) (wp_exit' (if_hit rfl ?_))
    exact ⟨_, Le.refl _, [], .tup [], ⟨[], rfl, rfl, by simp⟩, .tup [], _, RelLe.refl _, by simp, HpLe.trim _ _, rfl, x5, rfl⟩
  · refine wp_sg ?_
    unfold freeS kitA
    unfold kitA at cr
    refine areg_run 1 (by simp [push_cast, g1]; exact rfl) ?_
    refine areg_gk [.st [1] [.ptr u.b u.l 0 []]] G1 (by simp [AS.ev, AS.put]) (tgt_dir (by kernel_rfl) _) cr (by simp) (by simp) fun x0 => ?_
    refine areg_end (by simp [push_cast]; exact rfl) ?_
    refine wp_block' (wp_loopN 1 (loopN_succ ?_))
    refine wp_seq' (wp_sg ?_)
    refine areg_run 3 (by simp [push_cast, g1]; exact rfl) ?_
    refine areg_gi cl (by simp [AS.ev, AS.put]) fun x1 => ?_
    refine areg_end (by simp [push_cast]; exact rfl) ?_
    refine wp_cond_f (by simp [AS.ev]) (wp_exit' (if_hit rfl ?_))
    refine ⟨x1, trivial, ?_⟩
    exact Le.cat (by simp [syS, leT]) (by simp [syS, leH, freeS, kitA])
end
end Go.Cab
namespace Go.Cab
open Go.RowKit
open Classical
attribute [local irreducible] AReg
theorem nextV_okT {ts : List Term} (hts : TsOk ts) (hl : ts.length + 2 < 90000) {c : List UInt8} (hc : c.length = 32) : TsOk (nextV ts c).2 := nextV_ok hts hl hc
theorem byV_okT {ts : List Term} (hts : TsOk ts) (hl : ts.length + 1 < 90000) {o : OpV} (ho : OpOk o) (hwo : o.who.length < 1000) (hp : o.parents.length < 1000) : TsOk (byV Go.Lib.itoa ts o).2 := by
  unfold byV
  split
  · exact hts.put (byT_okI ho ‹_› hwo hp) ⟨by simp [byT], by simp [byT]⟩ hl
  · exact hts
theorem byV_pre (it : Int → List UInt8) (ts : List Term) (o : OpV) : ts <+: (byV it ts o).2 := by
  unfold byV
  split
  · exact put_pre _ _
  · exact List.prefix_refl _
def setT (o : OpV) (m : List UInt8) : OpV := { o with text := m }
theorem chIn_set {rats : List Rat} {ws : List WaitV} {o : OpV} (h : ChIn rats ws o) {m : List UInt8} (hm : m.length < 100000) : ChIn rats ws (setT o m) :=
  ⟨h.rl, h.rk, h.w, h.wl, ⟨h.ok.seq, h.ok.parents, h.ok.p32, h.ok.who, h.ok.ofk, h.ok.check, by show m.length < _; omega, h.ok.boxes, h.ok.bok⟩, h.bl, h.wo, h.pa⟩
theorem opens_same {rats : List Rat} {ws : List WaitV} {o : OpV} (h : ChIn rats ws o) {ts : List Term} (hts : TsOk ts) (hl : ts.length < 50) :
    ∃ (A : List AV) (ws' : List WaitV) (m : List UInt8) (e : Nat) (ts' : List Term), ChOut A ws' ts' ∧ e < 100 ∧ ts <+: ts' ∧
      (∀ H t V, TbOk H t V ts → XCall Go.Proofs.Tryz.prog 17 [freeI t.b t.l, ksA (rats.map ratA) (ws.map waitA), opA o] H fun r H' => r = .tup [ksA A (ws'.map waitA), .lit (tx m), .lit (jn e)] ∧ ∃ V', H' = tbOf H t V' ts') ∧
      (∀ H t V U, RtOk H t V U ts' → XCall Go.Proofs.Tryz.prog 18 [kitA t.b t.l, ksA (rats.map ratA) (ws.map waitA), opA o] H fun r H' => r = .tup [ksA A (ws'.map waitA), .lit (tx m), .lit (jn e)] ∧ ∃ V' U', H' = rtOf H t V' U' ts') := by
  have hA : (rats.map ratA).length = 8 := by rw [List.length_map]; exact h.rl
  have o0 : ∀ {ts : List Term}, TsOk ts → ts.length < 100 → ChOut r0s [] ts := fun h1 h2 => ⟨chOut0.al, chOut0.ar, chOut0.w, chOut0.wl, h1.ok, h2⟩
  by_cases hsay : saysV o = true
  · obtain ⟨w, hau, hw⟩ := says_au hsay
    obtain ⟨r, hr⟩ : ∃ r, rats[w]? = some r := ⟨_, List.getElem?_eq_getElem (by rw [h.rl]; exact hw)⟩
    have hrw := h.rk r (List.mem_of_getElem? hr)
    have hwA : (rats.map ratA)[w]? = some (.st [1, 1, 32, 32] [.lit (.bool r.known), .lit (.bool r.open_), keyA r.key, keyA r.chain]) := by rw [List.getElem?_map, hr]; rfl
    cases hk : r.known with
    | false =>
      rw [hk] at hwA
      exact ⟨r0s, [], [], 18, ts, o0 hts (by omega), by decide, List.prefix_refl _, fun H t V hh => copen_none hh h.ok h.bl hsay hau hA hrw.key hrw.chain hwA,
        fun H t V U hh => XCall.mono (ropenN_call h.ok h.bl hsay hau hA hrw.key hrw.chain hwA) fun r H' ⟨h1, h2⟩ => ⟨h1, V, U, by rw [h2, hh.self]⟩⟩
    | true =>
      rw [hk] at hwA
      have hri := says_right hsay
      obtain ⟨i1, i2⟩ := num_it h.ok hri
      have n1 := nextV_len ts r.chain
      have n2 := byV_len Go.Lib.itoa (nextV ts r.chain).2 o
      have t1 := nextV_okT hts (by omega) hrw.chain
      have t2 := byV_okT t1 (by omega) h.ok h.wo h.pa
      obtain ⟨a1, a2, a3⟩ := nextV_nm ts r.chain
      obtain ⟨b1, b2⟩ := byV_nm (it := Go.Lib.itoa) (ts := (nextV ts r.chain).2) hri
      obtain ⟨us, hus⟩ : ∃ us, us = (byV Go.Lib.itoa (nextV ts r.chain).2 o).2 := ⟨_, rfl⟩
      have e1 : nextV us r.chain = ((nextV ts r.chain).1, us) := by rw [hus]; exact nextV_again (a1.mono b2) (a2.mono b2)
      have e2 : byV Go.Lib.itoa us o = ((byV Go.Lib.itoa (nextV ts r.chain).2 o).1, us) := by rw [hus]; exact byV_again hri b1
      have e3 : readV Go.Lib.itoa us o r.chain = readV Go.Lib.itoa ts o r.chain := by
        unfold readV
        rw [e1]
        simp only
        rw [e2, ← hus]
      have e4 : (byV Go.Lib.itoa (nextV us r.chain).2 o).2 = us := by rw [e1]; simp only; rw [e2]
      have e5 : (nextV us r.chain).1.2 = (nextV ts r.chain).1.2 := by rw [e1]
      have hc := fun H t V (hh : TbOk H t V ts) => copen_call hh (by omega) h.ok h.bl h.wo h.pa i1 i2 hsay hau hA hrw.key hrw.chain hwA (ws := ws.map waitA) (by have := h.wl; simp; omega) t2
      rw [← hus] at hc t2 n2 b2
      have hd := fun H t V U (hh : RtOk H t V U us) => ropenC_call hh t2.ok (by omega) h.ok h.bl h.wo h.pa hsay hau hA hrw.key hrw.chain hwA (ws := ws.map waitA) (by rw [e4]; exact t2)
      rw [e3, e4, e5] at hd
      have hn2 : (nextV ts r.chain).1.2.length = 32 := nameK_len _
      have out := chOutN h hr hn2 t2.ok (by omega)
      have pre : ts <+: us := a3.trans b2
      cases hv : readV Go.Lib.itoa ts o r.chain with
      | some s =>
        rw [hv] at hc hd
        exact ⟨_, ws, s, 0, us, out, by decide, pre, hc, hd⟩
      | none =>
        rw [hv] at hc hd
        exact ⟨r0s, [], [], 2, us, o0 t2 (by omega), by decide, pre, hc, hd⟩
  · have hsay' : saysV o = false := by simpa using hsay
    exact ⟨r0s, [], [], 1, ts, o0 hts (by omega), by decide, List.prefix_refl _, fun H t V hh => XCall.mono (copen_bad h.ok h.bl hA hsay') fun r H' ⟨h1, h2⟩ => ⟨h1, V, by rw [h2, hh.self]⟩,
      fun H t V U hh => XCall.mono (ropenE_call h.ok h.bl hA hsay') fun r H' ⟨h1, h2⟩ => ⟨h1, V, U, by rw [h2, hh.self]⟩⟩
end Go.Cab
namespace Go.Cab
open Go.RowKit
open Classical
def fb503 : AC := (.seq (.reg [⟨some 5, none, .box 529 (.tmp 0), [], none⟩, ⟨some 6, none, .box 71 (.tmp 1), [], none⟩, ⟨some 10, none, .mov (.const (.bool false)), [], none⟩]) (.seq (.seq (.reg [⟨some 22, none, .call 5 [], [], none⟩, ⟨some 23, none, .un .not (.tmp 22), [], none⟩]) (.cond (.tmp 23) (.seq (.reg [⟨some 10, none, .mov (.const (.bool false)), [], none⟩]) .ret) .skip)) (.seq (.seq (.reg [⟨some 24, none, .load true 529 (.tmp 5), [], none⟩, ⟨some 25, none, .load true 71 (.tmp 6), [], none⟩, ⟨some 26, none, .mov (.tmp 2), [], none⟩, ⟨some 27, none, .call 6 [.tmp 24, .tmp 25, .tmp 26], [], none⟩, ⟨some 28, none, .mov (.tmp 27), [], none⟩, ⟨some 29, some (28, false), .mov (.tmp 3), [], none⟩, ⟨some 30, some (28, false), .len false (.tmp 29), [], none⟩, ⟨some 31, some (28, false), .bin .gtr (.tmp 30) (.const (jn 5)), [], none⟩, ⟨some 32, none, .pick (.tmp 28) (.const (.bool true)) (.tmp 31), [], none⟩]) (.cond (.tmp 32) (.seq (.reg [⟨some 33, none, .call 5 [], [], none⟩, ⟨some 10, none, .mov (.tmp 33), [], none⟩]) .ret) .skip)) (.seq (.reg [⟨some 34, none, .xc (.dir 7) [] [] [], [], none⟩, ⟨some 35, none, .xc (.dir 8) [] [] [], [], none⟩, ⟨some 11, none, .alloc 1 (.st [1] [(.lit (.pointer .none))]), [], none⟩, ⟨some 12, none, .alloc 1 (.st [1] [(.lit (.pointer .none))]), [], none⟩, ⟨none, none, .store 1 (.tmp 11) (.tmp 34), [], none⟩, ⟨none, none, .store 1 (.tmp 12) (.tmp 35), [], none⟩]) (.seq (.seq (.reg [⟨some 36, none, .mov (.tmp 4), [], none⟩, ⟨some 37, none, .mov (.tmp 36), [], none⟩, ⟨some 38, some (37, true), .faddr 0 0 (.tmp 6), [], none⟩, ⟨some 39, some (37, true), .load false 1 (.tmp 38), [], none⟩, ⟨some 40, some (37, true), .call 13 [.tmp 39], [], none⟩, ⟨some 41, none, .pick (.tmp 37) (.tmp 40) (.const (.bool false)), [], none⟩]) (.cond (.tmp 41) (.seq (.reg [⟨some 43, none, .load true 1 (.tmp 11), [13, 14], (.some 11)⟩, ⟨some 44, none, .rdp (.mkifc 40) [.tmp 43], [], none⟩, ⟨some 45, none, .faddr 0 0 (.tmp 6), [], none⟩, ⟨some 46, none, .load false 1 (.tmp 45), [13, 14], (.some 6)⟩, ⟨some 47, none, .faddr 0 0 (.tmp 5), [], none⟩, ⟨some 48, none, .iaddrA 8 66 (.tmp 47) (.tmp 46), [], none⟩, ⟨some 49, none, .faddr 34 3 (.tmp 48), [], none⟩, ⟨some 50, none, .load true 32 (.tmp 49), [13, 14], (.some 5)⟩, ⟨some 51, none, .bslice 32 (.arr 1 (List.replicate 32 (.lit (bn 0)))) 1 [(0, (.tmp 50))], [], none⟩, ⟨some 52, none, .xc (.dir 14) [(.tmp 44), (.const (tx [115, 97, 121])), (.tmp 51)] [] [13, 14], [], none⟩, ⟨some 42, none, .mov (.tmp 52), [], none⟩, ⟨some 53, none, .ext (.tmp 42) 0, [], none⟩, ⟨some 54, none, .ext (.tmp 42) 1, [], none⟩, ⟨some 13, none, .alloc 32 (.arr 1 (List.replicate 32 (.lit (bn 0)))), [], none⟩, ⟨some 14, none, .alloc 32 (.arr 1 (List.replicate 32 (.lit (bn 0)))), [], none⟩, ⟨none, none, .store 32 (.tmp 13) (.tmp 53), [], none⟩, ⟨none, none, .store 32 (.tmp 14) (.tmp 54), [], none⟩]) (.seq (.reg [⟨some 55, none, .load true 1 (.tmp 11), [], none⟩, ⟨some 56, none, .load true 1 (.tmp 12), [], none⟩, ⟨some 57, none, .xc (.dir 10) [.tmp 55, .tmp 56] [] [], [], none⟩]) (.seq (.reg [⟨some 58, none, .load true 1 (.tmp 12), [], none⟩, ⟨some 59, none, .load true 71 (.tmp 6), [], none⟩, ⟨some 60, none, .xc (.dir 15) [.tmp 58, .tmp 59] [] [], [], none⟩, ⟨some 15, none, .alloc 32 (.arr 1 (List.replicate 32 (.lit (bn 0)))), [], none⟩, ⟨none, none, .store 32 (.tmp 15) (.tmp 60), [], none⟩]) (.seq (.reg [⟨some 61, none, .load true 1 (.tmp 11), [], none⟩, ⟨some 62, none, .load true 1 (.tmp 12), [], none⟩, ⟨some 63, none, .xc (.dir 10) [.tmp 61, .tmp 62] [] [], [], none⟩]) (.reg [⟨some 64, none, .faddr 0 0 (.tmp 11), [], none⟩, ⟨some 65, none, .load false 1 (.tmp 64), [], none⟩, ⟨some 66, none, .load true 32 (.tmp 13), [], none⟩, ⟨some 67, none, .load true 32 (.tmp 15), [], none⟩, ⟨some 68, none, .mov (.tmp 2), [], none⟩, ⟨some 69, none, .mov (.tmp 3), [], none⟩, ⟨some 70, none, .icall 16 (.tmp 65) [.tmp 66, .tmp 67, .tmp 68, .tmp 69], [], none⟩, ⟨some 71, none, .faddr 69 7 (.tmp 6), [], none⟩, ⟨none, none, .store 1 (.tmp 71) (.tmp 70), [], none⟩]))))) .skip)) (.seq (.reg [⟨some 73, none, .load true 1 (.tmp 11), [], none⟩, ⟨some 74, none, .rdp (.mkifc 40) [.tmp 73], [], none⟩, ⟨some 75, none, .load true 529 (.tmp 5), [], none⟩, ⟨some 76, none, .load true 71 (.tmp 6), [], none⟩, ⟨some 77, none, .xc (.dir 17) [.tmp 74, .tmp 75, .tmp 76] [] [], [], none⟩, ⟨some 72, none, .mov (.tmp 77), [], none⟩, ⟨some 78, none, .ext (.tmp 72) 0, [], none⟩, ⟨some 79, none, .ext (.tmp 72) 1, [], none⟩, ⟨some 80, none, .ext (.tmp 72) 2, [], none⟩, ⟨some 16, none, .alloc 529 (.st [528, 1] [(.arr 66 (List.replicate 8 (.st [1, 1, 32, 32] [(.lit (.bool false)), (.lit (.bool false)), (.arr 1 (List.replicate 32 (.lit (bn 0)))), (.arr 1 (List.replicate 32 (.lit (bn 0))))]))), (.lit (.slice .none 0 0))]), [], none⟩, ⟨none, none, .store 529 (.tmp 16) (.tmp 78), [], none⟩, ⟨some 17, none, .mov (.tmp 79), [], none⟩, ⟨some 18, none, .mov (.tmp 80), [], none⟩]) (.seq (.reg [⟨some 81, none, .load true 1 (.tmp 11), [], none⟩, ⟨some 82, none, .load true 1 (.tmp 12), [], none⟩, ⟨some 83, none, .xc (.dir 10) [.tmp 81, .tmp 82] [] [], [], none⟩]) (.seq (.reg [⟨some 85, none, .load true 1 (.tmp 12), [], none⟩, ⟨some 86, none, .load true 529 (.tmp 5), [], none⟩, ⟨some 87, none, .load true 71 (.tmp 6), [], none⟩, ⟨some 88, none, .xc (.dir 18) [.tmp 85, .tmp 86, .tmp 87] [] [], [], none⟩, ⟨some 84, none, .mov (.tmp 88), [], none⟩, ⟨some 89, none, .ext (.tmp 84) 0, [], none⟩, ⟨some 90, none, .ext (.tmp 84) 1, [], none⟩, ⟨some 91, none, .ext (.tmp 84) 2, [], none⟩, ⟨some 19, none, .alloc 529 (.st [528, 1] [(.arr 66 (List.replicate 8 (.st [1, 1, 32, 32] [(.lit (.bool false)), (.lit (.bool false)), (.arr 1 (List.replicate 32 (.lit (bn 0)))), (.arr 1 (List.replicate 32 (.lit (bn 0))))]))), (.lit (.slice .none 0 0))]), [], none⟩, ⟨none, none, .store 529 (.tmp 19) (.tmp 89), [], none⟩, ⟨some 20, none, .mov (.tmp 90), [], none⟩, ⟨some 21, none, .mov (.tmp 91), [], none⟩]) (.seq (.reg [⟨some 92, none, .call 5 [], [], none⟩, ⟨some 93, none, .mov (.tmp 92), [], none⟩, ⟨some 94, some (93, true), .mov (.tmp 17), [], none⟩, ⟨some 95, some (93, true), .mov (.tmp 20), [], none⟩, ⟨some 96, some (93, true), .bin .eql (.tmp 94) (.tmp 95), [], none⟩, ⟨some 97, none, .pick (.tmp 93) (.tmp 96) (.const (.bool false)), [], none⟩, ⟨some 98, none, .mov (.tmp 97), [], none⟩, ⟨some 99, some (98, true), .mov (.tmp 18), [], none⟩, ⟨some 100, some (98, true), .mov (.tmp 21), [], none⟩, ⟨some 101, some (98, true), .bin .eql (.tmp 99) (.tmp 100), [], none⟩, ⟨some 102, none, .pick (.tmp 98) (.tmp 101) (.const (.bool false)), [], none⟩, ⟨some 103, none, .mov (.tmp 102), [], none⟩, ⟨some 104, some (103, true), .load true 529 (.tmp 16), [], none⟩, ⟨some 105, some (103, true), .load true 529 (.tmp 19), [], none⟩, ⟨some 106, some (103, true), .call 12 [.tmp 104, .tmp 105], [], none⟩, ⟨some 107, none, .pick (.tmp 103) (.tmp 106) (.const (.bool false)), [], none⟩, ⟨some 10, none, .mov (.tmp 107), [], none⟩]) .ret)))))))))
def fc503 : FC := ⟨5, 108, [(.tmp 10)], fb503⟩
theorem fc503_eq : compF Go.Proofs.Tryz.prog 4 = some fc503 := by kernel_rfl
attribute [local irreducible] AReg
section
variable {H : List (Option Blk)} {t : Tb} {V U1 U2 : Value} {u : Rt} {ts us : List Term}
theorem sync2_gk (h : Two2 H t V ts u U1 U2 us) {ts1 us1 : List Term} {z : Term} (hok : ∀ y ∈ ts1, TermOk y) (hz : TermOk z) (hz2 : z.kind = 2) (hn : ts1.length < 90000) (hus : us1 = putT ts1 z) :
    GC Go.Proofs.Tryz.prog 10 [freeS t.b t.l, kitA u.b u.l] (pF H t u) (ts1, us1) (.tup []) (us1, us1) := by
  unfold putT at hus
  cases hf : findT (shapeT z) ts1 0 with
  | some n =>
    rw [hf] at hus
    simp only at hus
    subst hus
    exact sync_gk h hok hn (m := us1.length) (by omega) (by simp)
  | none =>
    rw [hf] at hus
    simp only at hus
    intro x L
    refine XCall.mono (sync2_call (h.at (ts1, us1) x L) hz hz2 hf hn hus) ?_
    rintro r H' ⟨h1, y, h2⟩
    exact ⟨h1, y, by rw [h2, pF_at h]⟩
theorem two_pk (h : Two2 H t V ts u U1 U2 us) {ts1 us1 : List Term} (hn : ts1.length + 1 < 100000) {c : List UInt8} (hc : c.length = 32) :
    GC Go.Proofs.Tryz.prog 14 [freeI t.b t.l, .lit (tx txSay), .sl 32 (klA [c])] (pF H t u) (ts1, us1) (.tup [keyA (nextV ts1 c).1.1, keyA (nextV ts1 c).1.2]) ((nextV ts1 c).2, us1) :=
  GC.ofP h fun H V k => two_call k hn (s := txSay) (by simp [txSay]) (ks := [c]) (by simp) (by simp [hc])
theorem by_pk (h : Two2 H t V ts u U1 U2 us) {ts1 us1 : List Term} (hok : ∀ y ∈ us1, TermOk y) (hn : us1.length < 100000) {o : OpV} (ho : OpOk o) (hbb : ∀ b ∈ o.boxes, b.body.length < 9223372036854775808) (hw : o.who.length < 1000) (hp : o.parents.length < 1000) :
    GC Go.Proofs.Tryz.prog 15 [kitA u.b u.l, opA o] (pF H t u) (ts1, us1) (keyA (byV Go.Lib.itoa us1 o).1) (ts1, (byV Go.Lib.itoa us1 o).2) :=
  GC.ofR2 h fun H V U k => byR_call k hok hn ho hbb hw hp
theorem seal_pk (h : Two2 H t V ts u U1 U2 us) {ts1 us1 : List Term} (hn : ts1.length < 100000) {k b s : List UInt8} {ks : List (List UInt8)} (hk : k.length = 32) (hb : b.length = 32) (hs : s.length < 100000) (hks : ks.length < 90000) (h32 : ∀ x ∈ ks, x.length = 32) :
    GC Go.Proofs.Tryz.prog 16 [.ptr t.b t.l 0 [], keyA k, keyA b, .lit (tx s), .sl 32 (klA ks)] (pF H t u) (ts1, us1) (.lit (tx (nameK (putN ts1 (sealK k b s ks))))) (putT ts1 (sealK k b s ks), us1) :=
  GC.ofP h fun H V q => sealK_call q hn hk hb hs hks h32
end
def coM (N : Nat) (s : List UInt8) (KS : AV) (fine : Bool) (l5 l6 l11 l12 : Nat × Nat) : List AV :=
  [.any, .any, .lit (tx s), KS, .lit (.bool fine), .ptr (N + 5) l5 0 [], .ptr (N + 6) l6 0 [], .any, .any, .any, .lit (.bool false), .ptr (N + 11) l11 0 [], .ptr (N + 12) l12 0 []] ++ List.replicate 95 .any
def coL (l5 l6 l11 l12 : Nat × Nat) (K o F R : AV) : List (Option Blk) :=
  [none, none, none, none, none, some (.box l5 529 K), some (.box l6 71 o), none, none, none, none, some (.box l11 1 F), some (.box l12 1 R)] ++ List.replicate 95 none
set_option maxRecDepth 20000 in
set_option maxHeartbeats 64000000 in
theorem chainOpens_call {rats : List Rat} {ws : List WaitV} {o : OpV} {s : List UInt8} {ks : List (List UInt8)} {fine : Bool} (hrl : rats.length = 8) (hrk : ∀ r ∈ rats, RatW r) (hw : ∀ w ∈ ws, WaitW w) (ho : OpRaw o) (hkl : ks.length < 9223372036854775808) (hk32 : ∀ k ∈ ks, k.length = 32) :
    PCall Go.Proofs.Tryz.prog 4 [keysA rats (ws.map waitA), opA o, .lit (tx s), .sl 32 (klA ks), .lit (.bool fine)] (.val (.lit (.bool true))) := by
  have h503 := fc503_eq
  have hc7 : callable Go.Proofs.Tryz.prog 7 = true := by kernel_rfl
  have hc8 : callable Go.Proofs.Tryz.prog 8 = true := by kernel_rfl
  have al := calive_call
  have hA : (rats.map ratA).length = 8 := by rw [List.length_map]; exact hrl
  have cg := greatC_call ⟨ho.ofk, ho.check⟩ ho.text (fun b hb => (ho.bok b hb).2) (A := rats.map ratA) (ws := ws.map waitA) hA (s := s)
  rw [show (ws.map waitA).length = ws.length from List.length_map _] at cg
  have cm := memR_call o.author
  have kl0 : (klA ks).length = ks.length := klA_len _
  have o5 := ho.ofk; have o6 := ho.check
  have z1 : (opA o).sz = 71 := by simp [opA, AV.sz]
  have eK : keysA rats (ws.map waitA) = ksA (rats.map ratA) (ws.map waitA) := rfl
  rw [eK]
  unfold ksA at cg ⊢
  refine PCall.of h503 rfl ?_; show AC.wp _ fb503 (AS.init [.st [528, 1] [.arr 66 (rats.map ratA), .sl 65 (ws.map waitA)], opA o, .lit (tx s), .sl 32 (klA ks), .lit (.bool fine)] 5 108) (fun x s => match x with | .exit _ => False | _ => Fin [(.tmp 10)] s _); unfold fb503 AS.init
  refine wp_sg (areg_bx rfl (by simp [AS.ev, AV.sz, hA]) fun l5 => areg_bx rfl (by simp only [AS.ev, AS.put]; exact z1) fun l6 => areg_end (by simp [push_cast]; exact rfl) ?_)
  refine wp_seq' (wp_seq' (wp_rg ?_))
  refine areg_ca (by simp [AS.ev, AS.coe, AS.put] <;> exact rfl) al ?_
  refine areg_end (by simp [push_cast]; exact rfl) ?_
  refine wp_cond_f rfl (wp_skip' ?_)
  refine wp_seq' (wp_seq' (wp_rg ?_))
  refine areg_run 3 (by simp [push_cast, hA, opA, o5, o6]; exact rfl) ?_
  refine areg_ca (vs := [.st [528, 1] [.arr 66 (rats.map ratA), .sl 65 (ws.map waitA)], opA o, .lit (tx s)]) (by simp [AS.ev, AS.coe, AS.put, opA, keyA]) cg ?_
  cases hgr : (decide (60 < ws.length) || (greatO o || decide (300 < s.length))) with
  | true =>
    refine areg_end (by simp [push_cast]; exact rfl) ?_
    refine wp_cond_t (by simp [AS.ev]) (wp_sg ?_)
    refine areg_ca (by simp [AS.ev, AS.coe, AS.put] <;> exact rfl) al ?_
    refine areg_end (by simp [push_cast]; exact rfl) (wp_ret' ?_)
    exact fin_tmp (by simp [RVal, AS.ev, AS.coe]) (by simp)
  | false =>
  by_cases hk5 : 5 < ks.length
  · refine areg_end (by simp [push_cast, kl0, hk5]; exact rfl) ?_
    refine wp_cond_t (by simp [AS.ev, hk5]) (wp_sg ?_)
    refine areg_ca (by simp [AS.ev, AS.coe, AS.put] <;> exact rfl) al ?_
    refine areg_end (by simp [push_cast]; exact rfl) (wp_ret' ?_)
    exact fin_tmp (by simp [RVal, AS.ev, AS.coe]) (by simp)
  refine areg_end (by simp [push_cast, kl0, hk5]; exact rfl) ?_
  refine wp_cond_f (by simp [AS.ev, hk5]) (wp_skip' ?_)
  obtain ⟨hin, hs⟩ := chIn_of hrl hrk hw ho hgr
  refine wp_sgL ?_
  refine areg_run 0 (by simp [push_cast]; exact rfl) ?_
  refine areg_xq (us := []) rfl (by simp only [tgtA, tgtB, Option.bind_some, hc7, if_true]) (newfree_call _) ⟨_, _, (0, 0), 0, rfl, rfl⟩ (fun r hp' _ t' ht' => by cases ht') ?_
  rintro r H' ⟨l, rr, rfl, rfl⟩
  refine areg_run 0 (by simp [push_cast]; exact rfl) ?_
  refine areg_xq (us := []) rfl (by simp only [tgtA, tgtB, Option.bind_some, hc8, if_true]) (rnew_callN (n := 111) _ rfl) ⟨_, _, (0, 0), rfl, rfl⟩ (fun r hp' _ t' ht' => by cases ht') ?_
  rintro r H' ⟨l2, rfl, rfl⟩
  refine areg_run 0 (by simp [push_cast]; exact rfl) ?_
  refine areg_al' rfl fun l11 => areg_al' rfl fun l12 => areg_end (by simp [push_cast, freeS, kitA]; exact rfl) ?_
  refine wp_kit2 (n := 108) (l := l) (l2 := l2) (r := rr) (Lo := coL l5 l6 l11 l12 (.st [528, 1] [.arr 66 (rats.map ratA), .sl 65 (ws.map waitA)]) (opA o) (freeS 108 l) (kitA 111 l2))
    (fun N t u => coM N s (.sl 32 (klA ks)) fine l5 l6 l11 l12)
    (fun N t u => coL l5 l6 l11 l12 (.st [528, 1] [.arr 66 (rats.map ratA), .sl 65 (ws.map waitA)]) (opA o) (freeS t.b t.l) (kitA u.b u.l)) rfl ?_ ?_ fun N H t V u U1 U2 hh hN => ?_
  · simp [coM, leA, RelLe.refl', RelLe.ptr']
  · simp [coL, leB, tbNew, rtNew, BlkLe.freeS', BlkLe.kitA', BlkLe.refl']
  have G1 : ∀ i x, (pF H t u i x).length = N := fun i x => by rw [pF_len, hN]
  have g1 : ∀ i x L k, (pF H t u i x ++ L)[N + k]? = L[k]? := fun i x L k => cat1 _ _ _ _ (G1 _ _)
  have g2 : ∀ i x L k z, (pF H t u i x ++ L).set (N + k) z = pF H t u i x ++ L.set k z := fun i x L k z => cat2 _ _ _ _ _ (G1 _ _)
  refine wp_seqM (fun y : (List Term × List Term) × (Value × Value × Value) × OpV => ⟨N, coM N s (.sl 32 (klA ks)) fine l5 l6 l11 l12, pF H t u y.1 y.2.1 ++ coL l5 l6 l11 l12 (.st [528, 1] [.arr 66 (rats.map ratA), .sl 65 (ws.map waitA)]) (opA y.2.2) (freeS t.b t.l) (kitA u.b u.l)⟩)
    (fun y => TsOk y.1.1 ∧ y.1.1.length < 50 ∧ y.1.2 <+: y.1.1 ∧ ChIn rats ws y.2.2) ?_ ?_
  · rintro ⟨⟨ts, us⟩, x, o'⟩ ⟨h1, h2, h3, h4⟩
    simp only at h1 h2 h3 h4 ⊢
    obtain ⟨A, ws', m, e, ts', hout, he, pre, k1, k2⟩ := opens_same h4 h1 h2
    have q1 := GC.ofP hh (us1 := us) (fun H V h => k1 H t V h)
    have q2 := GC.ofR2 hh (ts1 := ts') (fun H V U h => k2 H u V U h)
    have hp2 := h3.trans pre
    have qs := sync_gk hh (ts1 := ts') (us1 := us) hout.ok (by have := hout.tl; omega) (m := us.length) hp2.length_le (List.prefix_iff_eq_take.1 hp2)
    have qS := sameK_call hout.al hout.ar hout.w (by have := hout.wl; omega)
    have hA2 := hout.al
    have o5 := h4.ok.ofk; have o6 := h4.ok.check
    unfold ksA at q1 q2 qS
    generalize ws'.map waitA = W2 at *
    generalize ws.map waitA = W1 at *
    generalize rats.map ratA = A1 at *
    unfold coM coL
    refine wp_sg ?_
    refine areg_run 1 (by simp [push_cast, g1, freeS_sz, freeS_agg, freeS_tup]; exact rfl) ?_
    refine areg_rdp (us := [freeS t.b t.l]) rfl (mkifc_free _ _) ?_
    refine areg_run 2 (by simp [push_cast, g1, hA, opA, o5, o6]; exact rfl) ?_
    refine areg_gk [freeI t.b t.l, .st [528, 1] [.arr 66 A1, .sl 65 W1], opA o'] G1 rfl (tgt_copen _ _ _) q1 (by simp) (by simp) fun x2 => ?_
    refine areg_run 4 (by simp [push_cast]; exact rfl) ?_
    refine areg_al' (z' := ks0) rfl fun l16 => areg_end (by simp [push_cast, g1, g2, ks0, hA2]; exact rfl) ?_
    refine wp_sg ?_
    refine areg_run 2 (by simp [push_cast, g1, freeS, kitA]; exact rfl) ?_
    refine areg_gk [freeS t.b t.l, kitA u.b u.l] G1 rfl (tgt_dir (by kernel_rfl) _) qs (by simp) (by simp) fun x3 => ?_
    refine areg_end (by simp [push_cast]; exact rfl) ?_
    refine wp_sg ?_
    refine areg_run 3 (by simp [push_cast, g1, kitA, hA, opA, o5, o6]; exact rfl) ?_
    refine areg_gk [kitA u.b u.l, .st [528, 1] [.arr 66 A1, .sl 65 W1], opA o'] G1 rfl (tgt_dir (by kernel_rfl) _) q2 (by simp) (by simp) fun x4 => ?_
    refine areg_run 4 (by simp [push_cast]; exact rfl) ?_
    refine areg_al' (z' := ks0) rfl fun l19 => areg_end (by simp [push_cast, g1, g2, ks0, hA2]; exact rfl) ?_
    refine wp_sg ?_
    refine areg_ca (by simp [AS.ev, AS.coe, AS.put] <;> exact rfl) al ?_
    refine areg_run 13 (by simp [push_cast, g1, hA2]; exact rfl) ?_
    refine areg_g (by simp [AS.ev, AS.put]) (areg_ca (vs := [.st [528, 1] [.arr 66 A, .sl 65 W2], .st [528, 1] [.arr 66 A, .sl 65 W2]]) (by simp [AS.ev, AS.coe, AS.put]) qS ?_)
    refine areg_end (by simp [push_cast]; exact rfl) (wp_ret' ?_)
    exact fin_tmp (by simp [RVal, AS.ev, AS.coe]) (by simp)
  refine wp_seq' ?_
  have skipped : ChIn rats ws o := hin
  unfold coM coL
  cases fine with
  | false =>
    refine wp_r (by simp [push_cast, g1, opA, o5, o6]; exact rfl) ?_
    refine wp_cond_f (by simp [AS.ev]) (wp_skip' ?_)
    exact ⟨(([], []), (V, U1, U2), o), ⟨TsOk.nil', by simp, List.prefix_refl _, hin⟩, Le.cat (by simp [leT]) (by simp [leH, opA, keyA])⟩
  | true =>
    refine wp_rg ?_
    refine areg_run 4 (by simp [push_cast, g1, opA, o5, o6]; exact rfl) ?_
    refine areg_g (by simp [AS.ev, AS.put]) ?_
    refine areg_ca (by simp [AS.ev, AS.coe, AS.put] <;> exact rfl) cm ?_
    refine areg_end (by simp [push_cast]; exact rfl) ?_
    cases hm : memB o.author with
    | false =>
      refine wp_cond_f (by simp [AS.ev]) (wp_skip' ?_)
      exact ⟨(([], []), (V, U1, U2), o), ⟨TsOk.nil', by simp, List.prefix_refl _, hin⟩, Le.cat (by simp [leT]) (by simp [leH, opA, keyA])⟩
    | true =>
      refine wp_cond_t (by simp [AS.ev]) ?_
      obtain ⟨w, hau, hw8⟩ : ∃ w : Nat, o.author = (w : Int) ∧ w < 8 := ⟨o.author.toNat, by unfold memB at hm; simp at hm; omega, by unfold memB at hm; simp at hm; omega⟩
      have haj : ji o.author = jn w := by rw [hau]; rfl
      obtain ⟨r, hr⟩ : ∃ r, rats[w]? = some r := ⟨_, List.getElem?_eq_getElem (by rw [hrl]; exact hw8)⟩
      have hrw := hrk r (List.mem_of_getElem? hr)
      have rk := hrw.key; have rc := hrw.chain
      have hwA : (rats.map ratA)[w]? = some (.st [1, 1, 32, 32] [.lit (.bool r.known), .lit (.bool r.open_), keyA r.key, keyA r.chain]) := by rw [List.getElem?_map, hr]; rfl
      have hwA' : ∀ h, (rats.map ratA)[w]'h = .st [1, 1, 32, 32] [.lit (.bool r.known), .lit (.bool r.open_), keyA r.key, keyA r.chain] := fun h => by rw [List.getElem?_eq_getElem h] at hwA; exact Option.some.inj hwA
      have hwl : w < (rats.map ratA).length := by omega
      have n1 := nextV_len [] r.chain
      have t1 := nextV_okT TsOk.nil' (by simp) rc
      have n2 := byV_len Go.Lib.itoa (nextV [] r.chain).2 o
      have t2 := byV_okT t1 (by simp at n1; omega) hin.ok hin.wo hin.pa
      have c1 := two_pk hh (ts1 := []) (us1 := []) (by simp) rc
      have cs1 := sync_gk hh (ts1 := (nextV [] r.chain).2) (us1 := []) t1.ok t1.len (m := 0) (by omega) rfl
      have cb := by_pk hh (ts1 := (nextV [] r.chain).2) (us1 := (nextV [] r.chain).2) t1.ok (by have := t1.len; omega) hin.ok hin.bl hin.wo hin.pa
      have cs2 : GC Go.Proofs.Tryz.prog 10 [freeS t.b t.l, kitA u.b u.l] (pF H t u) ((nextV [] r.chain).2, (byV Go.Lib.itoa (nextV [] r.chain).2 o).2) (.tup []) ((byV Go.Lib.itoa (nextV [] r.chain).2 o).2, (byV Go.Lib.itoa (nextV [] r.chain).2 o).2) := by
        by_cases hri : rightV o = true
        · exact sync2_gk hh t1.ok (byT_okI hin.ok hri hin.wo hin.pa) rfl t1.len (by unfold byV; rw [if_pos hri])
        · have e : (byV Go.Lib.itoa (nextV [] r.chain).2 o).2 = (nextV [] r.chain).2 := by unfold byV; rw [if_neg hri]
          rw [e]
          exact sync_gk hh t1.ok t1.len (m := (nextV [] r.chain).2.length) (by omega) (by simp)
      have k1 : (nextV [] r.chain).1.1.length = 32 := nameK_len _
      have k1' : (nextV [] r.chain).1.2.length = 32 := nameK_len _
      have k2 : (byV Go.Lib.itoa (nextV [] r.chain).2 o).1.length = 32 := byV_32 _ _ _
      have so := sealK_ok (s := s) (ks := ks) k1 k2 (by omega) (by omega) hk32
      have cs := seal_pk hh (ts1 := (byV Go.Lib.itoa (nextV [] r.chain).2 o).2) (us1 := (byV Go.Lib.itoa (nextV [] r.chain).2 o).2) (by have := t2.len; omega) k1 k2 (s := s) (ks := ks) (by omega) (by omega) hk32
      have t3 := t2.put so ⟨by simp [sealK], by simp [sealK]⟩ (by simp at n1; omega)
      have n3 := putT_len (byV Go.Lib.itoa (nextV [] r.chain).2 o).2 (sealK (nextV [] r.chain).1.1 (byV Go.Lib.itoa (nextV [] r.chain).2 o).1 s ks)
      have p3 := put_pre (byV Go.Lib.itoa (nextV [] r.chain).2 o).2 (sealK (nextV [] r.chain).1.1 (byV Go.Lib.itoa (nextV [] r.chain).2 o).1 s ks)
      have nl := nameK_len (putN (byV Go.Lib.itoa (nextV [] r.chain).2 o).2 (sealK (nextV [] r.chain).1.1 (byV Go.Lib.itoa (nextV [] r.chain).2 o).1 s ks))
      simp only [List.length_nil] at n1
      generalize putT (byV Go.Lib.itoa (nextV [] r.chain).2 o).2 (sealK (nextV [] r.chain).1.1 (byV Go.Lib.itoa (nextV [] r.chain).2 o).1 s ks) = ts3 at *
      generalize nameK (putN (byV Go.Lib.itoa (nextV [] r.chain).2 o).2 (sealK (nextV [] r.chain).1.1 (byV Go.Lib.itoa (nextV [] r.chain).2 o).1 s ks)) = m at *
      generalize byV Go.Lib.itoa (nextV [] r.chain).2 o = bv at *
      generalize nextV [] r.chain = nv at *
      obtain ⟨⟨ka, kb⟩, ts1⟩ := nv
      obtain ⟨bk, ts2⟩ := bv
      simp only at *
      have hset := chIn_set hin (m := m) (by omega)
      have hoA : opA o = .st [1, 1, 1, 1, 1, 32, 32, 1, 1] [.lit (jn w), .lit (wn o.seq), .sl 32 (klA o.parents), .lit (ji o.kind), .sl 1 (o.who.map fun x => AV.lit (ji x)), keyA o.ofk, keyA o.check, .lit (tx o.text), .sl 36 (o.boxes.map fun x => boxA x)] := by rw [← haj]; rfl
      have hoS : opA (setT o m) = .st [1, 1, 1, 1, 1, 32, 32, 1, 1] [.lit (jn w), .lit (wn o.seq), .sl 32 (klA o.parents), .lit (ji o.kind), .sl 1 (o.who.map fun x => AV.lit (ji x)), keyA o.ofk, keyA o.check, .lit (tx m), .sl 36 (o.boxes.map fun x => boxA x)] := by rw [← haj]; rfl
      rw [hoA] at cb
      rw [haj]
      generalize (o.who.map fun x => AV.lit (ji x)) = WW at *
      generalize (o.boxes.map fun x => boxA x) = BB at *
      generalize ws.map waitA = W1 at *
      generalize rats.map ratA = A1 at *
      refine wp_sg ?_
      refine areg_run 1 (by simp [push_cast, g1, freeS_sz, freeS_agg, freeS_tup]; exact rfl) ?_
      refine areg_rdp (us := [freeS t.b t.l]) rfl (mkifc_free _ _) ?_
      refine areg_run 6 (by simp [push_cast, g1, o5, o6, hA, hwA, hwA', hwl, hw8, rk, rc]; exact rfl) ?_
      refine areg_bsl (k := 32) (els := klA [r.chain]) (fill_ar rfl rfl rfl (by simp [AV.sz, AS.ev, AS.put, rc, bl_len]) rfl) ?_
      refine areg_gk [freeI t.b t.l, .lit (tx txSay), .sl 32 (klA [r.chain])] G1 rfl (tgt_two _ _ _) c1 (by simp) (by simp) fun x1 => ?_
      refine areg_run 3 (by simp [push_cast, g1, k1, k1']; exact rfl) ?_
      refine areg_al' zk_eq.symm fun l13 => areg_al' zk_eq.symm fun l14 => areg_end (by simp [push_cast, g1, g2, k1, k1', zk_len]; exact rfl) ?_
      refine wp_sg ?_
      refine areg_run 2 (by simp [push_cast, g1, freeS, kitA]; exact rfl) ?_
      refine areg_gk [freeS t.b t.l, kitA u.b u.l] G1 rfl (tgt_dir (by kernel_rfl) _) cs1 (by simp) (by simp) fun x2 => ?_
      refine areg_end (by simp [push_cast]; exact rfl) ?_
      refine wp_sg ?_
      refine areg_run 2 (by simp [push_cast, g1, kitA, o5, o6]; exact rfl) ?_
      refine areg_gk [kitA u.b u.l, .st [1, 1, 1, 1, 1, 32, 32, 1, 1] [.lit (jn w), .lit (wn o.seq), .sl 32 (klA o.parents), .lit (ji o.kind), .sl 1 WW, keyA o.ofk, keyA o.check, .lit (tx o.text), .sl 36 BB]] G1 rfl (tgt_dir (by kernel_rfl) _) cb (by simp) (by simp) fun x3 => ?_
      refine areg_al' zk_eq.symm fun l15 => areg_end (by simp [push_cast, g1, g2, k2, zk_len]; exact rfl) ?_
      refine wp_sg ?_
      refine areg_run 2 (by simp [push_cast, g1, freeS, kitA]; exact rfl) ?_
      refine areg_gk [freeS t.b t.l, kitA u.b u.l] G1 rfl (tgt_dir (by kernel_rfl) _) cs2 (by simp) (by simp) fun x4 => ?_
      refine areg_end (by simp [push_cast]; exact rfl) ?_
      refine wp_rg ?_
      refine areg_run 6 (by simp [push_cast, g1, freeS, k1, k2]; exact rfl) ?_
      refine areg_gi cs (by simp [AS.ev, AS.put, keyA]) fun x5 => ?_
      refine areg_end (by simp [push_cast, g1, g2, o5, o6]; exact rfl) ?_
      refine ⟨((ts3, ts2), x5, setT o m), ⟨t3, by simp only; omega, p3, hset⟩, ?_⟩
      simp only [hoS]
      exact Le.cat (by simp [leT]) (by simp [leH, keyA, freeS, kitA])
end Go.Cab
namespace Go.Proofs.YtbioecfkifbkbaaGreatDoor
open Go.ChangeShapes Go.WideShapes Go.ChangeAt Go.RowKit
theorem Tryz.laidOut : laidOutB Tryz.prog = true := by kernel_rfl
theorem Tryz.own : ownKnob Tryz.prog.godebug = none := by kernel_rfl
theorem Tryz.textU : Tryz.prog.underlying 9 = some .string := by kernel_rfl
def tab32 : Array Value := #[0, 1, 28, 2, 29, 14, 24, 3, 30, 22, 20, 15, 25, 17, 4, 8, 31, 27, 13, 23, 21, 19, 16, 7, 26, 12, 18, 6, 11, 5, 10, 9].map fun n => .int .u8 n
def tab64 : Array Value := #[0, 1, 56, 2, 57, 49, 28, 3, 61, 58, 42, 50, 38, 29, 17, 4, 62, 47, 59, 36, 45, 43, 51, 22, 53, 39, 33, 30, 24, 18, 12, 5, 63, 55, 48, 27, 60, 41, 37, 16, 46, 35, 44, 21, 52, 32, 23, 11, 54, 26, 40, 15, 34, 20, 31, 10, 25, 14, 19, 9, 13, 8, 7, 6].map fun n => .int .u8 n
def tab10 : Array Value := #[1, 10, 100, 1000, 10000, 100000, 1000000, 10000000, 100000000, 1000000000, 10000000000, 100000000000, 1000000000000, 10000000000000, 100000000000000, 1000000000000000, 10000000000000000, 100000000000000000, 1000000000000000000, 10000000000000000000].map fun n => .int .u64 n
noncomputable def laidWorld (os : Os) : World :=
  let w0 := World.holding Tryz.prog os ⟨#[], #[], []⟩
  { w0 with heap := ((w0.heap.modify 1 fun
      | .cells _ t frozen => .cells tab10 t frozen
      | o => o).modify 2 fun
      | .cells _ t frozen => .cells tab32 t frozen
      | o => o).modify 3 fun
      | .cells _ t frozen => .cells tab64 t frozen
      | o => o }
theorem laidWorld_met (os : Os) (args : Array Value) : laidMetH Tryz.prog Rows.chainOpensRow.laid ((laidWorld os).forCall (fun _ _ => 0) ⟨#[], args, []⟩).memory :=
  laidMetH_of_parts (laidMet_of_run' 80 (by kernel_rfl) (by kernel_rfl)) (by kernel_rfl)
set_option maxRecDepth 100000 in
theorem chainOpens_lifted (os : Os) (started : os.Started) (H : Type) (enc : TypeId × Value → H) :
    ReturnsInHanded {} Tryz.checked os 4 .any (fun w args => (Rows.chainOpensSpec.pre enc Tryz.prog Tryz.f4 Rows.chainOpensRow.domain false w args ∧ laidMetH Tryz.prog Rows.chainOpensRow.laid w) ∧ sizedMet enc Tryz.prog Tryz.f4 (OpenSpec.ofChange Rows.chainOpensSpec) false w args)
      (Rows.chainOpensSpec.post enc Tryz.prog Tryz.f4 false true false false) := by
  refine returnsInHanded_of_change_and (C := Tryz.checked) (X := fun w _ => laidMetH Tryz.prog Rows.chainOpensRow.laid w) (fun _ _ _ hh h => h.of_heap hh) Tryz.own started (by kernel_rfl) Tryz.func4
    (ChangeSpec.witness_at (enc := enc) (C := Tryz.checked) (os := os) (X := fun w _ => laidMetH Tryz.prog Rows.chainOpensRow.laid w) false (laidWorld os) #[Value.agg ((List.replicate 8 ([Value.bool false, Value.bool false] ++ List.replicate 64 (Value.int .u8 0))).flatten ++ [Value.slice none 0 0]).toArray, Value.agg ([Value.int .i64 0, Value.int .u32 0, Value.slice none 0 0, Value.int .i64 0, Value.slice none 0 0] ++ List.replicate 64 (Value.int .u8 0) ++ [Value.string ⟨#[]⟩, Value.slice none 0 0]).toArray, Value.string ⟨#[]⟩, Value.slice none 0 0, Value.bool false] 8 rfl (by kernel_rfl) (by kernel_rfl) (by kernel_rfl) (by kernel_rfl) (by kernel_rfl) (laidWorld_met os _)) ?_
  intro W base args ds gs before hval0 hW _ _ hLaid _
  have htab := Go.Cab.tabOk_laid hLaid (by kernel_rfl)
  have hval : ∀ (j : Nat) t v, Tryz.f4.params[j]? = some t → args[j]? = some v → Value.okWide Tryz.prog W .any base t v := hval0
  have hW' := hW
  obtain ⟨p, q, hA0, hV, rfl, hfz, hnd⟩ := hW
  have hA : DataW.TrodAll enc Tryz.prog W 0 (fun _ => true) true Tryz.f4.params.toList args.toList ds p := hA0
  rw [Tryz.params4] at hA hval
  obtain ⟨v0, v1, v2, v3, v4, d0, d1, d2, d3, d4, p0, p1, p2, p3, p4, rfl, rfl, rfl, h0, h1, h2, h3, h4⟩ := Go.Cab.trodAll_five hA
  obtain ⟨rfl, rfl⟩ := trodVars_none hV
  obtain ⟨rs0, ws0, k0, r0⟩ := Go.Cab.keys_arg Go.Cab.ty_try (hval 0 29 v0 rfl rfl) h0
  obtain ⟨y1, k1, r1⟩ := Go.Cab.op_arg Go.Cab.ty_try (hval 1 35 v1 rfl rfl) h1
  obtain ⟨s2, rfl, rfl, rfl, ws2⟩ := Go.ChangeMaps.open_string Tryz.textU (hval 2 9 v2 rfl rfl) h2
  obtain ⟨y3, g3, k3, r3⟩ := Go.Cab.klist_arg Go.Cab.ty_try (hval 3 31 v3 rfl rfl) h3
  obtain ⟨b4, rfl, rfl, rfl⟩ := open_bool Tryz.underlying4 (hval 4 4 v4 rfl rfl) h4
  have hc := Go.Cab.chainOpens_call (fine := b4) k0.1 k0.2.1 k0.2.2.2 k1 g3 k3 W (Go.Cab.StOf W (p0 ++ p1 ++ p3)) [_, _, _, _, _] ⟨(fun _ _ h => h.2), htab⟩ ⟨r0.mono (fun _ _ hb => ⟨by simp [hb.1], hb.2⟩) (fun _ _ _ => rfl), r1.mono (fun _ _ hb => ⟨by simp [hb.1], hb.2⟩) (fun _ _ _ => rfl), Go.Cab.Rel.mkLit (v := Go.Cab.tx s2.data.toList) rfl, r3.mono (fun _ _ hb => ⟨by simp [hb.1], hb.2⟩) (fun _ _ _ => rfl), Go.Cab.Rel.mkLit rfl, trivial⟩
  refine Calls.mono hc fun e W' ⟨V, Imm, he, hfr, _, hr⟩ => ?_
  have hV' := (hr.1.lit).1
  subst hV'
  have hb := hfr.below
  have hlt : ∀ x ∈ p0 ++ p1 ++ p3, x.block < W.heap.size := fun x hx => hW'.lt x (by simpa using hx)
  refine ⟨_, he, Go.Cab.post_below rfl hW' hb (fun _ _ _ => trodAll_mk1 (shut_bool Tryz.underlying4 true)) (fun sp hsp => ?_) (fun _ => rfl) (ok_one (by kernel_rfl) rfl (okWide_bool_mk Tryz.underlying4 true))⟩
  have t0 := WideElems.Trod_stays (sp' := sp) Tryz.laidOut (by kernel_rfl) (of_decide_eq_true (by kernel_rfl)) h0 (fun x hx => hb.same (hlt x (by simp [hx]))) (fun x hx => hsp x (by simp [hx]))
  have t1 := WideElems.Trod_stays (sp' := sp) Tryz.laidOut (by kernel_rfl) (of_decide_eq_true (by kernel_rfl)) h1 (fun x hx => hb.same (hlt x (by simp [hx]))) (fun x hx => hsp x (by simp [hx]))
  have t2 := Go.ChangeMaps.shut_string (enc := enc) (w := W') (base := 0) (sp := sp) (held := true) Tryz.textU ws2
  have t3 := WideElems.Trod_stays (sp' := sp) Tryz.laidOut (by kernel_rfl) (of_decide_eq_true (by kernel_rfl)) h3 (fun x hx => hb.same (hlt x (by simp [hx]))) (fun x hx => hsp x (by simp [hx]))
  have t4 := shut_bool (enc := enc) (w := W') (base := 0) (spare := sp) (held := true) Tryz.underlying4 b4
  have s := Go.Cab.trodAll_mk5 t0 t1 t2 t3 t4
  simp only [List.nil_append, List.append_nil, List.append_assoc] at s ⊢
  exact s
theorem chainOpens_holds : Rows.ChainOpensSaid :=
  OpenClaim.holds_of_wide 4 Tryz.f4 rfl rfl rfl rfl rfl rfl rfl ⟨rfl, rfl, rfl, rfl, rfl⟩ rfl rfl rfl rfl rfl (by kernel_rfl) Tryz.func4 (by kernel_rfl)
    (of_decide_eq_true (by kernel_rfl)) (by unfold Func.isWrapper; first | (rw [if_pos (by decide +kernel)]; kernel_rfl) | (rw [if_neg (by decide +kernel)]; exact ⟨rfl, rfl⟩))
    (fun os started H enc _ => chainOpens_lifted os started H enc)
end Go.Proofs.YtbioecfkifbkbaaGreatDoor
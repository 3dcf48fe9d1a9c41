/- Part 10 of what the proof stands on: S8, S9, S10, S11, S12, S13, S14, H11. -/
import Derived.Test.YtihiiojkllaknaaDoorCab09
set_option linter.unusedSimpArgs false
set_option linter.unnecessarySimpa false
set_option linter.unusedVariables false
set_option linter.unusedSectionVars false
/- Secrets: create, update; what an operation does. -/
-- TEXTS
-- KIT
namespace Go.Cab
open Go.RowKit
open Classical
def fb613 : AC := (.seq (.reg [⟨(.some 2), .none, (.mov (.const (.bool .false))), [], .none⟩]) (.seq (.seq (.reg [⟨(.some 4), .none, (.mov (.tmp 0)), [], .none⟩, ⟨(.some 5), .none, (.nilc (.tmp 4)), [], .none⟩, ⟨(.some 6), .none, (.faddr 563 4 (.tmp 5)), [], .none⟩, ⟨(.some 7), .none, (.load .true 71 (.tmp 6)), [], .none⟩, ⟨(.some 8), .none, (.mov (.tmp 0)), [], .none⟩, ⟨(.some 9), .none, (.nilc (.tmp 8)), [], .none⟩, ⟨(.some 10), .none, (.faddr 530 2 (.tmp 9)), [], .none⟩, ⟨(.some 11), .none, (.load .false 1 (.tmp 10)), [], .none⟩, ⟨(.some 12), .none, (.callv 21 [(.tmp 7), (.tmp 11)]), [], .none⟩, ⟨(.some 13), .none, (.un .not (.tmp 12)), [], .none⟩]) (.cond (.tmp 13) (.seq (.reg [⟨(.some 14), .none, (.mov (.tmp 0)), [], .none⟩, ⟨(.some 15), .none, (.xc (.dir 31) [(.tmp 14)] [] []), [], .none⟩, ⟨(.some 16), .none, (.build (.st [1, 1, 32, 32] [(.lit (.bool .false)), (.lit (.bool .false)), (.arr 1 (List.replicate 32 (.lit (bn 0)))), (.arr 1 (List.replicate 32 (.lit (bn 0))))]) [(1, (.const (.bool .true)))]), [], .none⟩, ⟨(.some 17), .none, (.nilc (.tmp 15)), [], .none⟩, ⟨.none, .none, (.store 66 (.tmp 17) (.tmp 16)), [], .none⟩]) (.seq (.reg [⟨(.some 2), .none, (.mov (.const (.bool .true))), [], .none⟩]) .ret)) .skip)) (.seq (.reg [⟨(.some 18), .none, (.build (.arr 1 (List.replicate 8 (.lit .nilFunc))) [(1, (.func 48)), (2, (.func 49)), (3, (.func 50)), (4, (.func 50)), (5, (.func 51)), (6, (.func 52)), (7, (.func 53))]), [], .none⟩, ⟨(.some 3), .none, (.alloc 8 (.arr 1 (List.replicate 8 (.lit .nilFunc)))), [], .none⟩, ⟨.none, .none, (.store 8 (.tmp 3) (.tmp 18)), [], .none⟩]) (.seq (.reg [⟨(.some 19), .none, (.mov (.tmp 0)), [], .none⟩, ⟨(.some 20), .none, (.nilc (.tmp 19)), [], .none⟩, ⟨(.some 21), .none, (.faddr 563 4 (.tmp 20)), [], .none⟩, ⟨(.some 22), .none, (.faddr 3 3 (.tmp 21)), [], .none⟩, ⟨(.some 23), .none, (.load .false 1 (.tmp 22)), [], .none⟩, ⟨(.some 24), .none, (.iaddrA 8 1 (.tmp 3) (.tmp 23)), [], .none⟩, ⟨(.some 25), .none, (.load .false 1 (.tmp 24)), [], .none⟩, ⟨(.some 26), .none, (.mov (.tmp 0)), [], .none⟩, ⟨(.some 27), .none, (.xc .val [(.tmp 25), (.tmp 26)] [] []), [], .none⟩, ⟨(.some 2), .none, (.mov (.tmp 27)), [], .none⟩]) .ret))))
def fc613 : FC := ⟨1, 28, [(.tmp 2)], fb613⟩
theorem fc613_eq : compF Go.Proofs.Tryd.prog 30 = some fc613 := by kernel_rfl

/-- What a seed asks of the state. -/
structure SdOk (ts : List Term) (x : StV) (a : Nat) (r : Rat) (seed : List UInt8) : Prop where
  n : ts.length + x.o.boxes.length + 20 < 90000
  au : AuOk x a
  hr : x.rats[a]? = some r
  k : r.key.length = 32
  c : r.chain.length = 32
  got : x.got = [seed]
  s : seed.length = 32
  id : x.id.length = 32
  wl : x.waits.length + x.o.boxes.length < 10000
  bx : ∀ b ∈ x.o.boxes, memB b.to = true
  bk : ∀ b ∈ x.o.boxes, b.pub.length = 32
theorem seeded_sc {H : List (Option Blk)} {t : Tb} {S : Sb} {x0 x : StV} {Vc0 V0 : Value} {ts0 ts : List Term} (hh : StT H t S x0 Vc0 V0 ts0) {a : Nat} {r : Rat} {seed : List UInt8} (h : SdOk ts x a r seed) :
    SC Go.Proofs.Tryd.prog 67 [.ptr S.b S.l 0 []] H t S x ts (.lit (.bool true)) (seededV ts x a r seed).1 (seededV ts x a r seed).2 :=
  SC.of hh fun H V Vc hh => seeded_call hh h.n h.au h.hr h.k h.c h.got h.s h.id h.wl h.bx h.bk

set_option maxHeartbeats 16000000 in
theorem update_gen {G : List (Option Blk)} {t : Tb} {S : Sb} {x x' : StV} {Vc V : Value} {ts ts' : List Term} (hh : StT G t S x Vc V ts) {a : Nat} {r : Rat} {b : Bool} (ha : AuOk x a) (hr : x.rats[a]? = some r) (sd : SC Go.Proofs.Tryd.prog 67 [.ptr S.b S.l 0 []] G t S x ts (.lit (.bool b)) x' ts') (hkn : r.known = true) :
    XCall Go.Proofs.Tryd.prog 50 [.ptr S.b S.l 0 []] G fun r' H' => r' = .lit (.bool b) ∧ ∃ V' Vc', H' = tbOf (stOf G t S x' Vc') t V' ts' := by
  have h627 := fc627_eq
  refine XCall.le ?_
  have hself := hh.self
  have gb := hh.gb
  have kn := fun Vc V ts L => knownS_call (G := tbOf (stB G S (sbk t S x Vc) (swk x Vc)) t V ts ++ L) (gb _ _ _ _ _) ha hr
  rw [hkn] at kn
  refine XCall.of h627 rfl ?_; show AC.wp _ fb627 ⟨G.length, [.ptr S.b S.l 0 []] ++ List.replicate (9 - 1) .any, G ++ List.replicate 9 none⟩ (fun x s => match x with | .exit _ => False | _ => ∃ s1, Le s s1 ∧ FinX [(.tmp 2)] s1 _); unfold fb627
  rw [← hself]
  unfold stOf
  rw [stB_len]
  generalize hN : G.length = N at *
  refine wp_sr (by simp [push_cast]; exact rfl) (wp_sg ?_)
  refine areg_run 1 (by simp [push_cast]; exact rfl) ?_
  refine areg_xc (vs := [.ptr S.b S.l 0 []]) rfl (kn _ _ _ _) ⟨_, _, rfl, rfl⟩ ?_
  rintro r' H' ⟨rfl, rfl⟩
  refine areg_run 2 (by simp [push_cast]; exact rfl) ?_
  refine areg_g (b := true) (by simp [AS.ev, AS.put]) (areg_xc (vs := [.ptr S.b S.l 0 []]) rfl (sd V Vc _) ⟨_, _, rfl, .slice none 0 0, .slice none 0 0, rfl⟩ ?_)
  rintro r' H' ⟨rfl, V2, Vc2, rfl⟩
  refine areg_end (by simp [push_cast]; exact rfl) (wp_ret' ?_)
  exact ⟨_, Le.refl _, finX1 (v := .lit (.bool b)) (by simp [AS.seals, RVals, RVal, AS.ev, AS.coe]) (by simp) ⟨_, _, RelLe.refl _, by simp, HpLe.trim _ _, rfl, V2, Vc2, (hh.of_of x x' Vc Vc2 V V2 ts ts').symm⟩⟩

theorem update_call {G : List (Option Blk)} {t : Tb} {S : Sb} {x : StV} {Vc V : Value} {ts : List Term} (hh : StT G t S x Vc V ts) {a : Nat} {r : Rat} {seed : List UInt8} (h : SdOk ts x a r seed) (hkn : r.known = true) :
    XCall Go.Proofs.Tryd.prog 50 [.ptr S.b S.l 0 []] G fun r' H' => r' = .lit (.bool true) ∧ ∃ V' Vc', H' = tbOf (stOf G t S (seededV ts x a r seed).1 Vc') t V' (seededV ts x a r seed).2 := update_gen hh h.au h.hr (seeded_sc hh h) hkn

/-! ### create -/
def ratN : Rat := ⟨true, false, zk, zk⟩
def crR (rs : List Rat) (ws : List Int) : List Rat := ws.foldl (fun rs w => rs.set w.toNat ratN) rs
theorem crR_len : ∀ (ws : List Int) (rs : List Rat), (crR rs ws).length = rs.length
  | [], _ => rfl
  | w :: ws, rs => by rw [crR, List.foldl_cons, ← crR, crR_len ws, List.length_set]
def rX (x : StV) (rs : List Rat) : StV := { x with rats := rs }
def crS (N : Nat) (G : List (Option Blk)) (t : Tb) (S : Sb) (x : StV) (Vc V : Value) (ts : List Term) (B : List AV) (y : Nat × List Rat) : AS :=
  ⟨N, [.ptr S.b S.l 0 [], .any, .lit (.bool false), .any, .any, .any, .any, .any, .any, .sl 1 B, .lit (jn B.length), .lit (jn y.1)] ++ List.replicate 13 .any,
    tbOf (stOf G t S (rX x y.2) Vc) t V ts ++ List.replicate 25 none⟩
set_option maxHeartbeats 16000000 in
theorem create_gen {G : List (Option Blk)} {t : Tb} {S : Sb} {x x' : StV} {Vc V : Value} {ts ts' : List Term} (hh : StT G t S x Vc V ts) {b0 : Bool} (sd : SC Go.Proofs.Tryd.prog 67 [.ptr S.b S.l 0 []] G t S (rX x (crR x.rats x.o.who)) ts (.lit (.bool b0)) x' ts') (hwl : x.o.who.length < 100000) (hw : ∀ w ∈ x.o.who, memB w = true) (hrl : x.rats.length = 8) :
    XCall Go.Proofs.Tryd.prog 48 [.ptr S.b S.l 0 []] G fun r' H' => r' = .lit (.bool b0) ∧ ∃ V' Vc', H' = tbOf (stOf G t S x' Vc') t V' ts' := by
  have h626 := fc626_eq
  refine XCall.le ?_
  have hself := hh.self
  have gb := hh.gb
  have gbs := hh.gbs
  have hbl : (x.o.who.map fun w => AV.lit (ji w)).length = x.o.who.length := List.length_map _
  refine XCall.of h626 rfl ?_; show AC.wp _ fb626 ⟨G.length, [.ptr S.b S.l 0 []] ++ List.replicate (25 - 1) .any, G ++ List.replicate 25 none⟩ (fun x s => match x with | .exit _ => False | _ => ∃ s1, Le s s1 ∧ FinX [(.tmp 2)] s1 _); unfold fb626
  rw [← hself]
  unfold stOf
  rw [stB_len]
  generalize hN : G.length = N at *
  refine wp_sr (by simp [push_cast]; exact rfl) ?_
  refine wp_seq' (wp_seq' (wp_r (by simp [push_cast, gb, sbk, stA, opA, hbl]; exact rfl) ?_))
  obtain ⟨B, hB⟩ : ∃ B, B = x.o.who.map fun w => AV.lit (ji w) := ⟨_, rfl⟩
  refine wp_block' (wp_loop_m (crS N G t S x Vc V ts B) (fun y => x.o.who.length - y.1) (fun y => crR y.2 (x.o.who.drop y.1) = crR x.rats x.o.who ∧ y.1 ≤ x.o.who.length ∧ y.2.length = 8) (0, x.rats) ?_ ⟨rfl, by simp, hrl⟩ ?_)
  · refine Le.mk rfl (by simp [crS, leT, hB, hbl]) ?_
    show leH (tbOf (stOf G t S x Vc) t V ts ++ _) (tbOf (stOf G t S x Vc) t V ts ++ _)
    exact leH_app (leH_refl _) (by simp [leH])
  have hBl : B.length = x.o.who.length := by rw [hB]; exact hbl
  rintro ⟨i, rs⟩ ⟨hI, hi, hl⟩
  simp only at hI hi hl ⊢
  unfold crS stOf
  simp only
  rw [hBl]
  by_cases hlt : i < x.o.who.length
  · obtain ⟨b, hb⟩ : ∃ b, x.o.who[i]? = some b := ⟨_, List.getElem?_eq_getElem hlt⟩
    have hdrop : x.o.who.drop i = b :: x.o.who.drop (i + 1) := by
      rw [List.drop_eq_getElem_cons hlt]
      rw [List.getElem?_eq_getElem hlt] at hb
      rw [Option.some.inj hb]
    rw [hdrop, crR, List.foldl_cons, ← crR] at hI
    have hto := hw b (List.mem_of_getElem? hb)
    have j1 : B[i]? = some (.lit (ji b)) := by rw [hB, List.getElem?_map, hb]; rfl
    have j2 : ∀ h, B[i]'h = .lit (ji b) := fun h => by rw [List.getElem?_eq_getElem h] at j1; exact Option.some.inj j1
    obtain ⟨n, rfl⟩ : ∃ n : Nat, b = (n : Int) := ⟨b.toNat, by unfold memB at hto; simp at hto; omega⟩
    have hn8 : n < 8 := by unfold memB at hto; simp at hto; omega
    simp only [show ji (n : Int) = jn n from rfl, Int.toNat_natCast] at j1 j2 hI
    have q1 : i + 1 < 9223372036854775808 := by omega
    have hA : ((rX x rs).rats.map ratA).length = 8 := by rw [List.length_map]; exact hl
    have hwA : n < ((rX x rs).rats.map ratA).length := by omega
    obtain ⟨r0, hr0⟩ : ∃ r0, rs[n]? = some r0 := ⟨_, List.getElem?_eq_getElem (by omega)⟩
    have hg : ((rX x rs).rats.map ratA)[n]? = some (ratA r0) := by rw [List.getElem?_map]; show (rs[n]?).map ratA = _; rw [hr0]; rfl
    have hg4 : ∀ h, ((rX x rs).rats.map ratA)[n]'h = ratA r0 := fun h => by rw [List.getElem?_eq_getElem h] at hg; exact Option.some.inj hg
    have e1 : ∀ n', 1 + (n * 66 + n') = 1 + n * 66 + n' := fun n' => by omega
    have e2 : ratN = ⟨true, false, zk, zk⟩ := rfl
    have hfin : ((rX x rs).rats.map ratA).set n (.st [1, 1, 32, 32] [.lit (.bool true), .lit (.bool false), keyA zk, keyA zk]) = (rX x (rs.set n ratN)).rats.map ratA := by simp [rX, List.map_set, ratA, ratN]
    refine wp_sr (by simp [push_cast, hlt]; exact rfl) (wp_seq' (wp_cond_t (by simp [AS.ev]) (wp_skip' ?_)))
    refine wp_seq' (wp_block' (wp_sr (by simp [push_cast, j1, j2, hBl, hlt]; exact rfl) ?_))
    refine wp_rg ?_
    refine areg_run 2 (by simp [push_cast]; exact rfl) ?_
    refine areg_bd (z' := .st [1, 1, 32, 32] [.lit (.bool true), .lit (.bool false), keyA zk, keyA zk]) (by rw [zk_eq]; exact fill_st rfl rfl rfl rfl rfl rfl) ?_
    refine areg_end (by simp [push_cast, gb, gbs, sbk, stA, hA, hwA, hg, hg4, hn8, e1, zk_len, ratA]; exact rfl) ?_
    refine wp_r (by simp [push_cast, q1]; exact rfl) ?_
    refine Exists.intro (i + 1, rs.set n ratN) ⟨⟨hI, by omega, by simp [hl]⟩, by simp only; omega, Le.mk rfl (by simp [crS, leT, hBl]) ?_⟩
    simp only [crS, stOf]
    unfold sbk stA
    rw [← hfin]
    exact leH_app (leH_refl _) (by simp [leH])
  · have hin : i = x.o.who.length := by omega
    subst hin
    rw [List.drop_length] at hI
    have hI' : rs = crR x.rats x.o.who := hI
    subst hI'
    refine wp_sr (by simp [push_cast]; exact rfl) (wp_seq' (wp_cond_f (by simp [AS.ev]) (wp_exit' (if_hit rfl ?_))))
    refine wp_sg ?_
    refine areg_run 1 (by simp [push_cast]; exact rfl) ?_
    refine areg_xc (vs := [.ptr S.b S.l 0 []]) rfl (sd V Vc _) ⟨_, _, rfl, .slice none 0 0, .slice none 0 0, rfl⟩ ?_
    rintro r' H' ⟨rfl, V2, Vc2, rfl⟩
    refine areg_end (by simp [push_cast]; exact rfl) (wp_ret' ?_)
    exact ⟨_, Le.refl _, finX1 (v := .lit (.bool b0)) (by simp [AS.seals, RVals, RVal, AS.ev, AS.coe]) (by simp) ⟨_, _, RelLe.refl _, by simp, HpLe.trim _ _, rfl, V2, Vc2, (hh.of_of x x' Vc Vc2 V V2 ts ts').symm⟩⟩
theorem create_call {G : List (Option Blk)} {t : Tb} {S : Sb} {x : StV} {Vc V : Value} {ts : List Term} (hh : StT G t S x Vc V ts) {a : Nat} {r : Rat} {seed : List UInt8} (h : SdOk ts (rX x (crR x.rats x.o.who)) a r seed) (hwl : x.o.who.length < 100000) (hw : ∀ w ∈ x.o.who, memB w = true) (hrl : x.rats.length = 8) :
    XCall Go.Proofs.Tryd.prog 48 [.ptr S.b S.l 0 []] G fun r' H' => r' = .lit (.bool true) ∧ ∃ V' Vc', H' = tbOf (stOf G t S (seededV ts (rX x (crR x.rats x.o.who)) a r seed).1 Vc') t V' (seededV ts (rX x (crR x.rats x.o.who)) a r seed).2 :=
  create_gen hh (seeded_sc hh h) hwl hw hrl

/-! ### What an operation does -/
theorem Le.setB {s : AS} {b : Nat} {X X' : Blk} (hb : s.hp[b]? = some (some X)) (hX : BlkLe X X') : Le s ⟨s.nr, s.tm, s.hp.set b (some X')⟩ := by
  have hlt : b < s.hp.length := (List.getElem?_eq_some_iff.1 hb).1
  refine Le.gen rfl (fun t v' hv => .inr (.inl hv)) (fun k => k) (fun k k' x y _ _ e => e) (fun k x hx => ?_)
  simp only at hx
  by_cases hk : b = k
  · subst hk
    rw [List.getElem?_set_self hlt] at hx
    simp only [Option.join_some, Option.some.injEq] at hx
    subst hx
    exact ⟨X, by rw [hb]; rfl, hX⟩
  · rw [List.getElem?_set_ne hk] at hx
    exact ⟨x, hx, BlkLe.refl _⟩
theorem AVle.ar1 {n : Nat} {f f' : AV} {fs fs' : List AV} (h : AVle f f') (k : AVle (.arr n fs) (.arr n fs')) : AVle (.arr n (f :: fs)) (.arr n (f' :: fs')) := fun Imm w cs hr => by
  cases hr with
  | arr1 _ _ _ c d he hc hs hd => exact .arr1 n f' fs' c d (h _ _ _ he) hc hs (k _ _ _ hd)
def fnV (g : FuncId) : AV := .fnv (.func g) [] []
def doT : List AV := [.lit .nilFunc, fnV 48, fnV 49, fnV 50, fnV 50, fnV 51, fnV 52, fnV 53]
def doT0 : List AV := [.lit .nilFunc, fnL 48, fnL 49, fnL 50, fnL 50, fnL 51, fnL 52, fnL 53]
theorem doT_le : AVle (.arr 1 doT0) (.arr 1 doT) :=
  AVle.ar1 (AVle.refl _) (AVle.ar1 (AVle.fn _) (AVle.ar1 (AVle.fn _) (AVle.ar1 (AVle.fn _) (AVle.ar1 (AVle.fn _) (AVle.ar1 (AVle.fn _) (AVle.ar1 (AVle.fn _) (AVle.ar1 (AVle.fn _) (AVle.refl _))))))))
set_option maxHeartbeats 16000000 in
theorem do_call {G : List (Option Blk)} {t : Tb} {S : Sb} {x : StV} {Vc V : Value} {ts : List Term} (hh : StT G t S x Vc V ts) (ho : OpOk x.o) (hf : forV x.o x.me = true) {n : Nat} (hn : x.o.kind = (n : Int)) {f : FuncId} (hfn : doT[n]? = some (fnV f)) (hcl : callable Go.Proofs.Tryd.prog f = true) {b : Bool} {x' : StV} {ts' : List Term}
    (hm : ∀ H V Vc, StT H t S x Vc V ts → XCall Go.Proofs.Tryd.prog f [.ptr S.b S.l 0 []] H fun r' H' => r' = .lit (.bool b) ∧ ∃ V' Vc', H' = tbOf (stOf H t S x' Vc') t V' ts') :
    XCall Go.Proofs.Tryd.prog 30 [.ptr S.b S.l 0 []] G fun r' H' => r' = .lit (.bool b) ∧ ∃ V' Vc', H' = tbOf (stOf G t S x' Vc') t V' ts' := by
  have h613 := fc613_eq
  obtain ⟨rats, waits, me, id, ⟨author, seq, parents, kind, who, ofk, check, text, boxes⟩, of_, got⟩ := x
  simp only at hn hf
  subst hn
  refine XCall.le ?_
  have hself := hh.self
  have G1 : ∀ Y Z V' ts', (tbOf (stB G S Y Z) t V' ts').length = G.length := fun Y Z V' ts' => stB_len _ _ _ _ _ _ _
  have g1 : ∀ Y Z V' ts' L k, (tbOf (stB G S Y Z) t V' ts' ++ L)[G.length + k]? = L[k]? := fun Y Z V' ts' L k => cat1 _ _ _ _ (G1 _ _ _ _)
  have g2 : ∀ Y Z V' ts' L k x, (tbOf (stB G S Y Z) t V' ts' ++ L).set (G.length + k) x = tbOf (stB G S Y Z) t V' ts' ++ L.set k x := fun Y Z V' ts' L k x => cat2 _ _ _ _ _ (G1 _ _ _ _)
  have gb := hh.gb
  have isf := isFor_call ho me
  rw [hf] at isf
  have hsc : SC Go.Proofs.Tryd.prog f [.ptr S.b S.l 0 []] G t S ⟨rats, waits, me, id, ⟨author, seq, parents, (n : Int), who, ofk, check, text, boxes⟩, of_, got⟩ ts (.lit (.bool b)) x' ts' := SC.of hh hm
  have htg : tgtA Go.Proofs.Tryd.prog .val [fnV f, .ptr S.b S.l 0 []] = some (f, [.ptr S.b S.l 0 []]) := by simp [tgtA, tgtB, fnV, hcl]
  have hn8 : n < 8 := (List.getElem?_eq_some_iff.1 hfn).1
  have hT8 : doT.length = 8 := rfl
  refine XCall.of h613 rfl ?_; show AC.wp _ fb613 ⟨G.length, [.ptr S.b S.l 0 []] ++ List.replicate (28 - 1) .any, G ++ List.replicate 28 none⟩ (fun x s => match x with | .exit _ => False | _ => ∃ s1, Le s s1 ∧ FinX [(.tmp 2)] s1 _); unfold fb613
  rw [← hself]
  unfold stOf
  rw [stB_len]
  generalize hN : G.length = N at *
  refine wp_sr (by simp [push_cast]; exact rfl) ?_
  refine wp_seq' (wp_seq' (wp_rg ?_))
  refine areg_run 8 (by simp [push_cast, gb, sbk, stA, opA]; exact rfl) ?_
  refine areg_cv (by simp [AS.ev, AS.coe, AS.put] <;> exact rfl) isf ?_
  refine areg_end (by simp [push_cast]; exact rfl) ?_
  refine wp_cond_f (by simp [AS.ev]) (wp_skip' ?_)
  refine wp_sgL ?_
  refine areg_bd (z' := .arr 1 doT0) (fill_ar rfl rfl rfl rfl (fill_ar rfl rfl rfl rfl (fill_ar rfl rfl rfl rfl (fill_ar rfl rfl rfl rfl (fill_ar rfl rfl rfl rfl (fill_ar rfl rfl rfl rfl (fill_ar rfl rfl rfl rfl rfl))))))) ?_
  refine areg_al' (z' := .arr 1 [.lit .nilFunc, .lit .nilFunc, .lit .nilFunc, .lit .nilFunc, .lit .nilFunc, .lit .nilFunc, .lit .nilFunc, .lit .nilFunc]) rfl fun l3 => areg_end (by simp [push_cast, g1, g2, doT0]; exact rfl) ?_
  refine ⟨_, Le.setB (b := N + 3) (X := .box l3 8 (.arr 1 doT0)) (X' := .box l3 8 (.arr 1 doT)) (by simp only [g1]; rfl) (BlkLe.box doT_le), ?_⟩
  simp only [g2]
  have hT4 : ∀ h, doT[n]'h = fnV f := fun h => by rw [List.getElem?_eq_getElem h] at hfn; exact Option.some.inj hfn
  generalize doT = T at *
  refine wp_sg ?_
  refine areg_run 8 (by simp [push_cast, gb, g1, opA, show ji (n : Int) = jn n from rfl, hfn, hT4, hT8, hn8, fnV]; exact rfl) ?_
  refine areg_sc (x := ⟨rats, waits, me, id, ⟨author, seq, parents, (n : Int), who, ofk, check, text, boxes⟩, of_, got⟩) (Vc := Vc) [fnV f, .ptr S.b S.l 0 []] hN rfl htg hsc (by simp) (by simp) fun V2 Vc2 => ?_
  refine areg_end (by simp [push_cast]; exact rfl) (wp_ret' ?_)
  exact ⟨_, Le.refl _, finX1 (v := .lit (.bool b)) (by simp [AS.seals, RVals, RVal, AS.ev, AS.coe]) (by simp) ⟨_, _, RelLe.refl _, by simp, HpLe.trim _ _, rfl, V2, Vc2, (hh.of_of ⟨rats, waits, me, id, ⟨author, seq, parents, (n : Int), who, ofk, check, text, boxes⟩, of_, got⟩ x' Vc Vc2 V V2 ts ts').symm⟩⟩
end Go.Cab

/- Secrets: begin. -/
-- TEXTS
-- KIT
namespace Go.Cab
open Go.RowKit
open Classical
def fb612 : AC := (.seq (.reg [⟨(.some 8), .none, (.box 529 (.tmp 1)), [], .none⟩, ⟨(.some 10), .none, (.box 32 (.tmp 3)), [], .none⟩, ⟨(.some 11), .none, (.box 71 (.tmp 4)), [], .none⟩, ⟨(.some 12), .none, (.box 71 (.tmp 5)), [], .none⟩, ⟨(.some 14), .none, (.mov (.const (.pointer .none))), [], .none⟩, ⟨(.some 15), .none, (.mov (.const (jn 0))), [], .none⟩]) (.seq (.seq (.reg [⟨(.some 17), .none, (.load .true 71 (.tmp 11)), [], .none⟩, ⟨(.some 18), .none, (.call 26 [(.tmp 17)]), [], .none⟩, ⟨(.some 19), .none, (.un .not (.tmp 18)), [], .none⟩, ⟨(.some 20), .none, (.mov (.tmp 19)), [], .none⟩, ⟨(.some 21), (.some (20, .false)), (.mov (.tmp 2)), [], .none⟩, ⟨(.some 22), (.some (20, .false)), (.bin .lss (.tmp 21) (.const (jn 0))), [], .none⟩, ⟨(.some 23), .none, (.pick (.tmp 20) (.const (.bool .true)) (.tmp 22)), [], .none⟩, ⟨(.some 24), .none, (.mov (.tmp 23)), [], .none⟩, ⟨(.some 25), (.some (24, .false)), (.mov (.tmp 2)), [], .none⟩, ⟨(.some 26), (.some (24, .false)), (.bin .geq (.tmp 25) (.const (jn 8))), [], .none⟩, ⟨(.some 27), .none, (.pick (.tmp 24) (.const (.bool .true)) (.tmp 26)), [], .none⟩]) (.cond (.tmp 27) (.seq (.reg [⟨(.some 14), .none, (.mov (.const (.pointer .none))), [], .none⟩, ⟨(.some 15), .none, (.mov (.const (jn 1))), [], .none⟩]) .ret) .skip)) (.seq (.reg [⟨(.some 28), .none, (.faddr 528 1 (.tmp 8)), [], .none⟩, ⟨(.some 29), .none, (.load .false 1 (.tmp 28)), [], .none⟩, ⟨(.some 30), .none, (.call 29 [(.tmp 29)]), [], .none⟩, ⟨(.some 31), .none, (.faddr 528 1 (.tmp 8)), [], .none⟩, ⟨.none, .none, (.store 1 (.tmp 31) (.tmp 30)), [], .none⟩]) (.seq (.reg [⟨(.some 32), .none, (.mov (.tmp 0)), [], .none⟩, ⟨(.some 33), .none, (.load .true 529 (.tmp 8)), [], .none⟩, ⟨(.some 34), .none, (.mov (.tmp 2)), [], .none⟩, ⟨(.some 35), .none, (.load .true 32 (.tmp 10)), [], .none⟩, ⟨(.some 36), .none, (.load .true 71 (.tmp 11)), [], .none⟩, ⟨(.some 37), .none, (.load .true 71 (.tmp 12)), [], .none⟩, ⟨(.some 38), .none, (.mov (.tmp 6)), [], .none⟩, ⟨(.some 39), .none, (.build (.st [1, 529, 1, 32, 71, 71, 1] [(.lit .nilIface), (.st [528, 1] [(.arr 66 (List.replicate 8 (.st [1, 1, 32, 32] [(.lit (.bool .false)), (.lit (.bool .false)), (.arr 1 (List.replicate 32 (.lit (bn 0)))), (.arr 1 (List.replicate 32 (.lit (bn 0))))]))), (.lit (.slice .none 0 0))]), (.lit (jn 0)), (.arr 1 (List.replicate 32 (.lit (bn 0)))), (.st [1, 1, 1, 1, 1, 32, 32, 1, 1] [(.lit (jn 0)), (.lit (wn 0)), (.lit (.slice .none 0 0)), (.lit (jn 0)), (.lit (.slice .none 0 0)), (.arr 1 (List.replicate 32 (.lit (bn 0)))), (.arr 1 (List.replicate 32 (.lit (bn 0)))), (.lit (tx [])), (.lit (.slice .none 0 0))]), (.st [1, 1, 1, 1, 1, 32, 32, 1, 1] [(.lit (jn 0)), (.lit (wn 0)), (.lit (.slice .none 0 0)), (.lit (jn 0)), (.lit (.slice .none 0 0)), (.arr 1 (List.replicate 32 (.lit (bn 0)))), (.arr 1 (List.replicate 32 (.lit (bn 0)))), (.lit (tx [])), (.lit (.slice .none 0 0))]), (.lit (.slice .none 0 0))]) [(0, (.tmp 32)), (1, (.tmp 33)), (2, (.tmp 34)), (3, (.tmp 35)), (4, (.tmp 36)), (5, (.tmp 37)), (6, (.tmp 38))]), [], .none⟩, ⟨(.some 40), .none, (.box 706 (.tmp 39)), [], .none⟩, ⟨(.some 16), .none, (.mov (.tmp 40)), [], .none⟩]) (.seq (.seq (.reg [⟨(.some 41), .none, (.mov (.tmp 16)), [], .none⟩, ⟨(.some 42), .none, (.icall 30 (.tmp 41) []), [], .none⟩, ⟨(.some 43), .none, (.un .not (.tmp 42)), [], .none⟩]) (.cond (.tmp 43) (.seq (.reg [⟨(.some 14), .none, (.mov (.const (.pointer .none))), [], .none⟩, ⟨(.some 15), .none, (.mov (.const (jn 18))), [], .none⟩]) .ret) .skip)) (.seq (.reg [⟨(.some 44), .none, (.mov (.tmp 16)), [], .none⟩, ⟨(.some 14), .none, (.mov (.tmp 44)), [], .none⟩, ⟨(.some 15), .none, (.mov (.const (jn 0))), [], .none⟩]) .ret))))))
def fc612 : FC := ⟨7, 45, [(.tmp 14), (.tmp 15)], fb612⟩
theorem fc612_eq : compF Go.Proofs.Tryd.prog 19 = some fc612 := by kernel_rfl

/-- A state that was begun: it lies behind the caller's blocks. -/
structure Beg (N : Nat) (t : Tb) (S : Sb) (x : StV) (Vc : Value) (L : List (Option Blk)) (p q : Nat) : Prop where
  b : S.b = N + p
  c : S.c = N + q
  pq : p ≠ q
  hb : L[p]? = some (some (sbk t S x Vc))
  hc : L[q]? = some (some (swk x Vc))
def BegK (H : List (Option Blk)) (t : Tb) (x' : StV) (ts' : List Term) (r : AV) (H' : List (Option Blk)) : Prop :=
  ∃ (S : Sb) (Vc V' : Value) (L : List (Option Blk)) (p q : Nat), Beg H.length t S x' Vc L p q ∧ r = .tup [.ptr S.b S.l 0 [], .lit (jn 0)] ∧ H' = tbOf H t V' ts' ++ L
/-- It is one of the blocks, with the table. -/
theorem Beg.st {H : List (Option Blk)} {t : Tb} {V0 V Vc : Value} {ts0 ts : List Term} (hh : TbOk H t V0 ts0) {S : Sb} {x : StV} {L : List (Option Blk)} {p q : Nat} (h : Beg H.length t S x Vc L p q) : StT (tbOf H t V ts ++ L) t S x Vc V ts := by
  have l := tbOf_len H t V ts
  have lb := hh.lb; have lj := hh.lj; have lm := hh.lm
  have e1 := h.b; have e2 := h.c; have e3 := h.pq
  refine ⟨hh.at V ts L, ⟨by omega, ⟨by omega, by omega, by omega⟩, ⟨by omega, by omega, by omega⟩, ?_, ?_⟩⟩
  · rw [e1, cat1 _ _ _ _ l]; exact h.hb
  · rw [e2, cat1 _ _ _ _ l]; exact h.hc
theorem beg_set {H : List (Option Blk)} {t : Tb} {V0 V V' Vc Vc' : Value} {ts0 ts ts' : List Term} (hh : TbOk H t V0 ts0) {S : Sb} {x x' : StV} {L : List (Option Blk)} {p q : Nat} (h : Beg H.length t S x Vc L p q) :
    tbOf (stOf (tbOf H t V ts ++ L) t S x' Vc') t V' ts' = tbOf H t V' ts' ++ (L.set p (some (sbk t S x' Vc'))).set q (some (swk x' Vc')) := by
  have l := tbOf_len H t V ts
  unfold stOf stB
  rw [h.b, h.c, cat2 _ _ _ _ _ l, cat2 _ _ _ _ _ l, hh.at_of]
theorem Beg.set {N : Nat} {t : Tb} {S : Sb} {x x' : StV} {Vc Vc' : Value} {L : List (Option Blk)} {p q : Nat} (h : Beg N t S x Vc L p q) : Beg N t S x' Vc' ((L.set p (some (sbk t S x' Vc'))).set q (some (swk x' Vc'))) p q := by
  have l1 := (List.getElem?_eq_some_iff.1 h.hb).1
  have l2 := (List.getElem?_eq_some_iff.1 h.hc).1
  refine ⟨h.b, h.c, h.pq, ?_, ?_⟩
  · rw [List.getElem?_set_ne h.pq.symm, List.getElem?_set_self l1]
  · rw [List.getElem?_set_self (by simpa using l2)]

theorem BegK.of {H : List (Option Blk)} {t : Tb} {V V2 Vc : Value} {ts ts' : List Term} (hh : TbOk H t V ts) {S : Sb} {x' : StV} {L : List (Option Blk)} {p q : Nat} (h : Beg H.length t S x' Vc L p q) :
    BegK (tbOf H t V ts) t x' ts' (.tup [.ptr S.b S.l 0 [], .lit (jn 0)]) (tbOf H t V2 ts' ++ L) :=
  ⟨S, Vc, V2, L, p, q, by rw [tbOf_len]; exact h, rfl, by rw [hh.of_of]⟩

/-- What begin asks of the state. -/
structure BgOk (x : StV) : Prop where
  o : OpOk x.o
  of_ : OpOk x.of_
  bl : ∀ b ∈ x.o.boxes, b.body.length < 9223372036854775808
  right : rightV x.o = true
  me : memB x.me = true
  rl : x.rats.length = 8
  id : x.id.length = 32
  wl : x.waits.length < 10000
def begA (t : Tb) (x : StV) : List AV := [freeI t.b t.l, keysA x.rats (x.waits.map waitA), .lit (ji x.me), keyA x.id, opA x.o, opA x.of_, .sl 32 (klA x.got)]
set_option maxHeartbeats 32000000 in
theorem begin_call {H : List (Option Blk)} {t : Tb} {V : Value} {ts : List Term} (hh : TbOk H t V ts) {x x' : StV} {ts' : List Term} (h : BgOk x)
    (hdo : ∀ H V Vc S, StT H t S x Vc V ts → XCall Go.Proofs.Tryd.prog 30 [.ptr S.b S.l 0 []] H fun r' H' => r' = .lit (.bool true) ∧ ∃ V' Vc', H' = tbOf (stOf H t S x' Vc') t V' ts') :
    XCall Go.Proofs.Tryd.prog 19 (begA t x) H (BegK H t x' ts') := by
  have h612 := fc612_eq
  refine XCall.le ?_
  have hself := hh.self
  have G1 : ∀ V' ts', (tbOf H t V' ts').length = H.length := fun V' ts' => tbOf_len _ _ _ _
  have g1 : ∀ V' ts' L k, (tbOf H t V' ts' ++ L)[H.length + k]? = L[k]? := fun V' ts' L k => cat1 _ _ _ _ (G1 _ _)
  have g2 : ∀ V' ts' L k x, (tbOf H t V' ts' ++ L).set (H.length + k) x = tbOf H t V' ts' ++ L.set k x := fun V' ts' L k x => cat2 _ _ _ _ _ (G1 _ _)
  have cr := right_call h.o h.bl
  rw [h.right] at cr
  have cw := cloneW_row (x.waits.map waitA) (by rw [List.length_map]; have := h.wl; omega)
  have hme := h.me
  have hid := h.id
  have hA : (x.rats.map ratA).length = 8 := by rw [List.length_map]; exact h.rl
  have z1 := opA_sz h.o
  have z2 := opA_sz h.of_
  obtain ⟨n, hn⟩ : ∃ n : Nat, x.me = (n : Int) := ⟨x.me.toNat, by unfold memB at hme; simp at hme; omega⟩
  have hn8 : n < 8 := by unfold memB at hme; simp at hme; omega
  unfold begA keysA
  have hm1 : binVal .lss (ji x.me) (jn 0) = some (.bool false) := by rw [hn]; simp [binVal, ji, jn]
  have hm2 : binVal .geq (ji x.me) (jn 8) = some (.bool false) := by rw [hn]; simp [binVal, ji, jn]; omega
  refine XCall.of h612 rfl ?_; show AC.wp _ fb612 ⟨H.length, [freeI t.b t.l, .st [528, 1] [.arr 66 (x.rats.map ratA), .sl 65 (x.waits.map waitA)], .lit (ji x.me), keyA x.id, opA x.o, opA x.of_, .sl 32 (klA x.got)] ++ List.replicate (45 - 7) .any, H ++ List.replicate 45 none⟩ (fun x s => match x with | .exit _ => False | _ => ∃ s1, Le s s1 ∧ FinX [(.tmp 14), (.tmp 15)] s1 _); unfold fb612
  rw [← hself]
  rw [tbOf_len]
  generalize hN : H.length = N at *
  refine wp_sg (areg_bx rfl (by simp [AS.ev, AS.put, AV.sz, hA]) fun l8 => areg_bx rfl (by simp [AS.ev, AS.put, keyA, AV.sz, bl, hid]) fun l10 => areg_bx rfl (by simp only [AS.ev, AS.put]; exact z1) fun l11 => areg_bx rfl (by simp only [AS.ev, AS.put]; exact z2) fun l12 => areg_end (by simp [push_cast, g2]; exact rfl) ?_)
  refine wp_seq' (wp_seq' (wp_rg ?_))
  refine areg_run 1 (by simp [push_cast, g1, opA]; exact rfl) ?_
  refine areg_ca (by simp [AS.ev, AS.coe, AS.put] <;> exact rfl) cr ?_
  refine areg_end (by simp [push_cast, hm1, hm2]; exact rfl) ?_
  refine wp_cond_f (by simp [AS.ev]) (wp_skip' ?_)
  refine wp_sg ?_
  refine areg_run 2 (by simp [push_cast, g1, hA]; exact rfl) ?_
  refine areg_cr (d := 30) (by simp [AS.ev, AS.coe, AS.put] <;> exact rfl) cw fun Vw => ?_
  refine areg_end (by simp [push_cast, g1, g2, hA]; exact rfl) ?_
  refine wp_sg ?_
  refine areg_run 7 (by simp [push_cast, g1, hA, hid, opA]; exact rfl) ?_
  refine areg_bd (z' := stA t ⟨N + 40, (0, 0), N + 30⟩ x Vw) (fill_st rfl rfl rfl rfl rfl (fill_st rfl rfl rfl rfl (by simp [AV.sz, AS.ev, AS.put, hA]) (fill_st rfl rfl rfl rfl rfl (fill_st rfl rfl rfl rfl (by simp [AV.sz, AS.ev, AS.put, keyA, hid, bl_len]) (fill_st rfl rfl rfl rfl z1 (fill_st rfl rfl rfl rfl z2 (fill_st rfl rfl rfl rfl rfl rfl))))))) ?_
  refine areg_bx rfl (by simp only [AS.ev, AS.put]; rfl) fun l40 => areg_end (by simp [push_cast, g1, g2]; exact rfl) ?_
  refine wp_seq' (wp_seq' (wp_rg ?_))
  refine areg_run 1 (by simp [push_cast]; exact rfl) ?_
  have hbg : ∀ L, L[40]? = some (some (sbk t ⟨N + 40, l40, N + 30⟩ x Vw)) → L[30]? = some (some (swk x Vw)) → Beg H.length t ⟨N + 40, l40, N + 30⟩ x Vw L 40 30 := fun L a b => ⟨by rw [hN], by rw [hN], by decide, a, b⟩
  refine areg_xc (vs := [.ptr (N + 40) l40 0 []]) rfl (hdo _ V Vw ⟨N + 40, l40, N + 30⟩ (Beg.st hh (hbg _ rfl rfl))) ⟨_, _, rfl, .slice none 0 0, .slice none 0 0, rfl⟩ ?_
  rintro r' H' ⟨rfl, V2, Vc2, rfl⟩
  rw [beg_set hh (hbg _ rfl rfl)]
  refine areg_end (by simp [push_cast]; exact rfl) ?_
  refine wp_cond_f (by simp [AS.ev]) (wp_skip' ?_)
  refine wp_sr (by simp [push_cast]; exact rfl) (wp_ret' ?_)
  refine ⟨_, Le.refl _, [], _, ⟨_, rfl, by simp [AS.seals, RVals, RVal, AS.ev, AS.coe], by simp⟩, .tup [.ptr (N + 40) l40 0 [], .lit (jn 0)], _, RelLe.refl _, by simp, HpLe.refl _, ?_⟩
  exact BegK.of hh (S := ⟨N + 40, l40, N + 30⟩) (p := 40) (q := 30) (Vc := Vc2) (V2 := V2) ⟨by rw [hN], by rw [hN], by decide, rfl, rfl⟩
end Go.Cab

/- Secrets: Check. -/
-- TEXTS
-- KIT
namespace Go.Cab
open Go.RowKit
open Classical
def fb610 : AC := (.seq (.reg [⟨(.some 7), .none, (.box 529 (.tmp 1)), [], .none⟩, ⟨(.some 9), .none, (.box 71 (.tmp 3)), [], .none⟩, ⟨(.some 10), .none, (.box 71 (.tmp 4)), [], .none⟩, ⟨(.some 12), .none, (.alloc 32 (.arr 1 (List.replicate 32 (.lit (bn 0))))), [], .none⟩, ⟨(.some 13), .none, (.mov (.const (jn 0))), [], .none⟩]) (.seq (.reg [⟨(.some 17), .none, (.mov (.tmp 0)), [], .none⟩, ⟨(.some 18), .none, (.load .true 529 (.tmp 7)), [], .none⟩, ⟨(.some 19), .none, (.mov (.tmp 2)), [], .none⟩, ⟨(.some 20), .none, (.build (.arr 1 (List.replicate 32 (.lit (bn 0)))) []), [], .none⟩, ⟨(.some 21), .none, (.load .true 71 (.tmp 9)), [], .none⟩, ⟨(.some 22), .none, (.load .true 71 (.tmp 10)), [], .none⟩, ⟨(.some 23), .none, (.mov (.tmp 5)), [], .none⟩, ⟨(.some 24), .none, (.xc (.dir 19) [(.tmp 17), (.tmp 18), (.tmp 19), (.tmp 20), (.tmp 21), (.tmp 22), (.tmp 23)] [] []), [], .none⟩, ⟨(.some 16), .none, (.mov (.tmp 24)), [], .none⟩, ⟨(.some 25), .none, (.ext (.tmp 16) 0), [], .none⟩, ⟨(.some 26), .none, (.ext (.tmp 16) 1), [], .none⟩, ⟨(.some 14), .none, (.mov (.tmp 25)), [], .none⟩, ⟨(.some 15), .none, (.mov (.tmp 26)), [], .none⟩]) (.seq (.seq (.reg [⟨(.some 27), .none, (.mov (.tmp 15)), [], .none⟩, ⟨(.some 28), .none, (.bin .neq (.tmp 27) (.const (jn 0))), [], .none⟩]) (.cond (.tmp 28) (.seq (.reg [⟨(.some 29), .none, (.build (.arr 1 (List.replicate 32 (.lit (bn 0)))) []), [], .none⟩, ⟨(.some 30), .none, (.mov (.tmp 15)), [], .none⟩, ⟨.none, .none, (.store 32 (.tmp 12) (.tmp 29)), [], .none⟩, ⟨(.some 13), .none, (.mov (.tmp 30)), [], .none⟩]) .ret) .skip)) (.seq (.reg [⟨(.some 31), .none, (.mov (.tmp 14)), [], .none⟩, ⟨(.some 32), .none, (.icall 20 (.tmp 31) []), [], .none⟩, ⟨.none, .none, (.store 32 (.tmp 12) (.tmp 32)), [], .none⟩, ⟨(.some 13), .none, (.mov (.const (jn 0))), [], .none⟩]) .ret))))
def fc610 : FC := ⟨6, 33, [(.cell 12 .true 32), (.tmp 13)], fb610⟩
theorem fc610_eq : compF Go.Proofs.Tryd.prog 8 = some fc610 := by kernel_rfl

theorem tgt_begin (a b c d e f g : AV) : tgtA Go.Proofs.Tryd.prog (.dir 19) [a, b, c, d, e, f, g] = some (19, [a, b, c, d, e, f, g]) := by kernel_rfl
theorem Beg.app {N n : Nat} {t : Tb} {S : Sb} {x : StV} {Vc : Value} {L : List (Option Blk)} {p q : Nat} (h : Beg (N + n) t S x Vc L p q) {A : List (Option Blk)} (hA : A.length = n) : Beg N t S x Vc (A ++ L) (n + p) (n + q) := by
  subst hA
  refine ⟨by rw [h.b]; omega, by rw [h.c]; omega, fun e => h.pq (by omega), ?_, ?_⟩
  · rw [List.getElem?_append_right (by omega), Nat.add_sub_cancel_left]; exact h.hb
  · rw [List.getElem?_append_right (by omega), Nat.add_sub_cancel_left]; exact h.hc
theorem Beg.drop {N n : Nat} {t : Tb} {S : Sb} {x : StV} {Vc : Value} {L M : List (Option Blk)} {p q : Nat} (h : Beg (N + n) t S x Vc L p q) (hM : M.drop n = L) (hn : n ≤ M.length) : Beg N t S x Vc M (n + p) (n + q) := by
  have := h.app (A := M.take n) (by rw [List.length_take]; omega)
  rwa [← hM, List.take_append_drop] at this
theorem BegK.ex (H : List (Option Blk)) (t : Tb) (x' : StV) (ts' : List Term) : ∃ r H', BegK H t x' ts' r H' :=
  ⟨_, _, ⟨H.length, (0, 0), H.length + 1⟩, .slice none 0 0, .slice none 0 0, [some (sbk t ⟨H.length, (0, 0), H.length + 1⟩ x' (.slice none 0 0)), some (swk x' (.slice none 0 0))], 0, 1, ⟨rfl, rfl, by decide, rfl, rfl⟩, rfl, rfl⟩
set_option maxHeartbeats 32000000 in
/-- The check of an operation that is for oneself. -/
theorem scheck_call {H : List (Option Blk)} {t : Tb} {V : Value} {ts : List Term} (hh : TbOk H t V ts) {x x' : StV} {ts' : List Term} (h : BgOk x) (hid : x.id = zk) (hn' : ts'.length < 90000)
    (hdo : ∀ H V Vc S, StT H t S x Vc V ts → XCall Go.Proofs.Tryd.prog 30 [.ptr S.b S.l 0 []] H fun r' H' => r' = .lit (.bool true) ∧ ∃ V' Vc', H' = tbOf (stOf H t S x' Vc') t V' ts')
    (ho : x'.o = x.o) (hm : x'.me = x.me) {a : Nat} (ha : AuOk x' a) {r : Rat} (hr : x'.rats[a]? = some r) (hk : r.key.length = 32) (hc : r.chain.length = 32) (hf : forV x.o x.me = true) (h7 : x.o.kind ≠ 7) :
    XCall Go.Proofs.Tryd.prog 8 [freeI t.b t.l, keysA x.rats (x.waits.map waitA), .lit (ji x.me), opA x.o, opA x.of_, .sl 32 (klA x.got)] H fun r' H' => r' = .tup [keyA (nameK (putN ts' (chkT r.chain))), .lit (jn 0)] ∧ ∃ V', H' = tbOf H t V' (putT ts' (chkT r.chain)) := by
  have h610 := fc610_eq
  refine XCall.le ?_
  have hself := hh.self
  have G1 : ∀ V' ts', (tbOf H t V' ts').length = H.length := fun V' ts' => tbOf_len _ _ _ _
  have g1 : ∀ V' ts' L k, (tbOf H t V' ts' ++ L)[H.length + k]? = L[k]? := fun V' ts' L k => cat1 _ _ _ _ (G1 _ _)
  have g2 : ∀ V' ts' L k x, (tbOf H t V' ts' ++ L).set (H.length + k) x = tbOf H t V' ts' ++ L.set k x := fun V' ts' L k x => cat2 _ _ _ _ _ (G1 _ _)
  have cb := fun V L => begin_call (hh.at V ts L) h hdo
  have ck := fun {H} {V} {Vc} {S} (hs : StT H t S x' Vc V ts') => check_call hs hn' (by rw [ho]; exact h.o) ha hr hk hc (by rw [ho, hm]; exact hf) (by rw [ho]; exact h7)
  have hA : (x.rats.map ratA).length = 8 := by rw [List.length_map]; exact h.rl
  have z1 := opA_sz h.o
  have z2 := opA_sz h.of_
  have kl := nameK_len (putN ts' (chkT r.chain))
  generalize nameK (putN ts' (chkT r.chain)) = kk at *
  generalize putT ts' (chkT r.chain) = ts2 at *
  unfold begA keysA at cb
  rw [hid] at cb
  unfold keysA
  refine XCall.of h610 rfl ?_; show AC.wp _ fb610 ⟨H.length, [freeI t.b t.l, .st [528, 1] [.arr 66 (x.rats.map ratA), .sl 65 (x.waits.map waitA)], .lit (ji x.me), opA x.o, opA x.of_, .sl 32 (klA x.got)] ++ List.replicate (33 - 6) .any, H ++ List.replicate 33 none⟩ (fun x s => match x with | .exit _ => False | _ => ∃ s1, Le s s1 ∧ FinX [(.cell 12 .true 32), (.tmp 13)] s1 _); unfold fb610
  rw [← hself]
  rw [tbOf_len]
  generalize hN : H.length = N at *
  refine wp_sg (areg_bx rfl (by simp [AS.ev, AS.put, AV.sz, hA]) fun l7 => areg_bx rfl (by simp only [AS.ev, AS.put]; exact z1) fun l9 => areg_bx rfl (by simp only [AS.ev, AS.put]; exact z2) fun l10 => areg_al' zk_eq.symm fun l12 => areg_end (by simp [push_cast, g2]; exact rfl) ?_)
  refine wp_sg ?_
  refine areg_run 3 (by simp [push_cast, g1, hA]; exact rfl) ?_
  refine areg_bd (z' := keyA zk) (by rw [zk_eq]; rfl) ?_
  refine areg_run 3 (by simp [push_cast, g1, opA]; exact rfl) ?_
  refine areg_xq (us := [freeI t.b t.l, .st [528, 1] [.arr 66 (x.rats.map ratA), .sl 65 (x.waits.map waitA)], .lit (ji x.me), keyA zk, opA x.o, opA x.of_, .sl 32 (klA x.got)]) rfl (tgt_begin _ _ _ _ _ _ _) (cb V _) (BegK.ex _ _ _ _) (fun r hp' hK t' ht' => by cases ht') ?_
  rintro r' H' ⟨S, Vc, V2, L, p, q, hB, rfl, rfl⟩
  rw [hh.at_of, List.append_assoc]
  rw [List.length_append, G1] at hB
  have hB' := fun M (hM : List.drop 33 M = L) hl => (Beg.drop (N := H.length) (n := 33) (by rw [hN]; exact hB) hM hl)
  refine areg_end (by simp [push_cast]; exact rfl) ?_
  refine wp_seq' (wp_sr (by simp [push_cast]; exact rfl) ?_)
  refine wp_cond_f (by simp [AS.ev]) (wp_skip' ?_)
  refine wp_sg ?_
  refine areg_run 1 (by simp [push_cast]; exact rfl) ?_
  refine areg_xc (vs := [.ptr S.b S.l 0 []]) rfl (ck (Beg.st hh (hB' _ rfl (by simp)))) ⟨_, _, rfl, .slice none 0 0, rfl⟩ ?_
  rintro r' H' ⟨rfl, V3, rfl⟩
  rw [hh.at_of]
  refine areg_end (by simp [push_cast, g1, g2, kl]; exact rfl) (wp_ret' ?_)
  exact ⟨_, Le.refl _, [], _, ⟨_, rfl, by simp [AS.seals, RVals, RVal, AS.ev, AS.peek, AS.blk, g1, Blk.loc, Blk.cont, Blk.n, AV.nav, AV.isAgg, AV.isTup, AS.coe]; rfl, by simp [keyA]⟩, .tup [keyA kk, .lit (jn 0)], _, RelLe.refl _, by simp, HpLe.trim _ _, rfl, V3, (hh.of_of _ _ _ _).symm⟩
end Go.Cab

/- Secrets: Apply. -/
-- TEXTS
-- KIT
namespace Go.Cab
open Go.RowKit
open Classical
def fb611 : AC := (.seq (.reg [⟨(.some 8), .none, (.box 529 (.tmp 1)), [], .none⟩, ⟨(.some 10), .none, (.box 32 (.tmp 3)), [], .none⟩, ⟨(.some 11), .none, (.box 71 (.tmp 4)), [], .none⟩, ⟨(.some 12), .none, (.box 71 (.tmp 5)), [], .none⟩, ⟨(.some 14), .none, (.alloc 529 (.st [528, 1] [(.arr 66 (List.replicate 8 (.st [1, 1, 32, 32] [(.lit (.bool .false)), (.lit (.bool .false)), (.arr 1 (List.replicate 32 (.lit (bn 0)))), (.arr 1 (List.replicate 32 (.lit (bn 0))))]))), (.lit (.slice .none 0 0))])), [], .none⟩, ⟨(.some 15), .none, (.mov (.const (jn 0))), [], .none⟩]) (.seq (.reg [⟨(.some 19), .none, (.mov (.tmp 0)), [], .none⟩, ⟨(.some 20), .none, (.load .true 529 (.tmp 8)), [], .none⟩, ⟨(.some 21), .none, (.mov (.tmp 2)), [], .none⟩, ⟨(.some 22), .none, (.load .true 32 (.tmp 10)), [], .none⟩, ⟨(.some 23), .none, (.load .true 71 (.tmp 11)), [], .none⟩, ⟨(.some 24), .none, (.load .true 71 (.tmp 12)), [], .none⟩, ⟨(.some 25), .none, (.mov (.tmp 6)), [], .none⟩, ⟨(.some 26), .none, (.xc (.dir 19) [(.tmp 19), (.tmp 20), (.tmp 21), (.tmp 22), (.tmp 23), (.tmp 24), (.tmp 25)] [] []), [], .none⟩, ⟨(.some 18), .none, (.mov (.tmp 26)), [], .none⟩, ⟨(.some 27), .none, (.ext (.tmp 18) 0), [], .none⟩, ⟨(.some 28), .none, (.ext (.tmp 18) 1), [], .none⟩, ⟨(.some 16), .none, (.mov (.tmp 27)), [], .none⟩, ⟨(.some 17), .none, (.mov (.tmp 28)), [], .none⟩]) (.seq (.block 0 (.seq (.reg [⟨(.some 30), .none, (.mov (.tmp 17)), [], .none⟩, ⟨(.some 31), .none, (.bin .neq (.tmp 30) (.const (jn 0))), [], .none⟩, ⟨(.some 29), .none, (.mov (.tmp 31)), [], .none⟩]) (.cond (.tmp 29) (.seq (.reg [⟨(.some 32), .none, (.build (.st [528, 1] [(.arr 66 (List.replicate 8 (.st [1, 1, 32, 32] [(.lit (.bool .false)), (.lit (.bool .false)), (.arr 1 (List.replicate 32 (.lit (bn 0)))), (.arr 1 (List.replicate 32 (.lit (bn 0))))]))), (.lit (.slice .none 0 0))]) []), [], .none⟩, ⟨(.some 33), .none, (.mov (.tmp 17)), [], .none⟩, ⟨.none, .none, (.store 529 (.tmp 14) (.tmp 32)), [], .none⟩, ⟨(.some 15), .none, (.mov (.tmp 33)), [], .none⟩]) .ret) (.seq (.reg [⟨(.some 35), .none, (.load .true 71 (.tmp 11)), [], (.some 11)⟩, ⟨(.some 36), .none, (.mov (.tmp 2)), [], .none⟩, ⟨(.some 37), .none, (.callv 21 [(.tmp 35), (.tmp 36)]), [], (.some 1000000)⟩, ⟨(.some 38), .none, (.mov (.tmp 37)), [], .none⟩, ⟨(.some 39), (.some (38, .true)), (.faddr 3 3 (.tmp 11)), [], .none⟩, ⟨(.some 40), (.some (38, .true)), (.load .false 1 (.tmp 39)), [], (.some 11)⟩, ⟨(.some 41), (.some (38, .true)), (.bin .neq (.tmp 40) (.const (jn 7))), [], .none⟩, ⟨(.some 42), .none, (.pick (.tmp 38) (.tmp 41) (.const (.bool .false))), [], .none⟩, ⟨(.some 43), .none, (.mov (.tmp 42)), [], .none⟩, ⟨(.some 44), (.some (43, .true)), (.mov (.tmp 16)), [], .none⟩, ⟨(.some 45), (.some (43, .true)), (.xc (.dir 20) [(.tmp 44)] [11] []), [], .none⟩, ⟨(.some 46), (.some (43, .true)), (.faddr 37 6 (.tmp 11)), [], .none⟩, ⟨(.some 47), (.some (43, .true)), (.load .true 32 (.tmp 46)), [], (.some 11)⟩, ⟨(.some 48), (.some (43, .true)), (.eqv 23 .true (.tmp 45) (.tmp 47)), [], .none⟩, ⟨(.some 49), .none, (.pick (.tmp 43) (.tmp 48) (.const (.bool .false))), [], .none⟩, ⟨(.some 34), .none, (.mov (.tmp 49)), [], .none⟩]) (.cond (.tmp 34) (.seq (.reg [⟨(.some 50), .none, (.build (.st [528, 1] [(.arr 66 (List.replicate 8 (.st [1, 1, 32, 32] [(.lit (.bool .false)), (.lit (.bool .false)), (.arr 1 (List.replicate 32 (.lit (bn 0)))), (.arr 1 (List.replicate 32 (.lit (bn 0))))]))), (.lit (.slice .none 0 0))]) []), [], .none⟩, ⟨.none, .none, (.store 529 (.tmp 14) (.tmp 50)), [], .none⟩, ⟨(.some 15), .none, (.mov (.const (jn 19))), [], .none⟩]) .ret) .skip))))) (.seq (.reg [⟨(.some 51), .none, (.mov (.tmp 16)), [], .none⟩, ⟨(.some 52), .none, (.nilc (.tmp 51)), [], .none⟩, ⟨(.some 53), .none, (.faddr 1 1 (.tmp 52)), [], .none⟩, ⟨(.some 54), .none, (.load .true 529 (.tmp 53)), [], .none⟩, ⟨.none, .none, (.store 529 (.tmp 14) (.tmp 54)), [], .none⟩, ⟨(.some 15), .none, (.mov (.const (jn 0))), [], .none⟩]) .ret))))
def fc611 : FC := ⟨7, 55, [(.cell 14 .true 529), (.tmp 15)], fb611⟩
theorem fc611_eq : compF Go.Proofs.Tryd.prog 10 = some fc611 := by kernel_rfl

theorem tgt_check (a : AV) : tgtA Go.Proofs.Tryd.prog (.dir 20) [a] = some (20, [a]) := by kernel_rfl
theorem wp_M {P : Program} {b : AC} {Q : AX → AS → Prop} {N : Nat} {tm : List AV} {A M : List (Option Blk)} (Pm : List (Option Blk) → Prop) (h : Pm M) (k : ∀ M, Pm M → b.wp P ⟨N, tm, A ++ M⟩ Q) : b.wp P ⟨N, tm, A ++ M⟩ Q := k M h
def rats0 : List Rat := [rat0, rat0, rat0, rat0, rat0, rat0, rat0, rat0]
/-- What applying comes to: the check is right, or not. -/
def appA (x' : StV) (b : Bool) : AV := if b then .tup [keysA x'.rats (x'.waits.map waitA), .lit (jn 0)] else .tup [keysA rats0 [], .lit (jn 19)]
set_option maxHeartbeats 64000000 in
theorem apply_call {H : List (Option Blk)} {t : Tb} {V : Value} {ts : List Term} (hh : TbOk H t V ts) {x x' : StV} {ts' : List Term} (h : BgOk x) (hn' : ts'.length < 90000)
    (hdo : ∀ H V Vc S, StT H t S x Vc V ts → XCall Go.Proofs.Tryd.prog 30 [.ptr S.b S.l 0 []] H fun r' H' => r' = .lit (.bool true) ∧ ∃ V' Vc', H' = tbOf (stOf H t S x' Vc') t V' ts')
    (ho : x'.o = x.o) (hm : x'.me = x.me) {a : Nat} (ha : AuOk x' a) {r : Rat} (hr : x'.rats[a]? = some r) (hk : r.key.length = 32) (hc : r.chain.length = 32) (hf : forV x.o x.me = true) (h7 : x.o.kind ≠ 7) :
    XCall Go.Proofs.Tryd.prog 10 (begA t x) H fun r' H' => r' = appA x' (decide (nameK (putN ts' (chkT r.chain)) = x.o.check)) ∧ ∃ V', H' = tbOf H t V' (putT ts' (chkT r.chain)) := by
  have h611 := fc611_eq
  refine XCall.le ?_
  have hself := hh.self
  have G1 : ∀ V' ts', (tbOf H t V' ts').length = H.length := fun V' ts' => tbOf_len _ _ _ _
  have g1 : ∀ V' ts' L k, (tbOf H t V' ts' ++ L)[H.length + k]? = L[k]? := fun V' ts' L k => cat1 _ _ _ _ (G1 _ _)
  have g2 : ∀ V' ts' L k x, (tbOf H t V' ts' ++ L).set (H.length + k) x = tbOf H t V' ts' ++ L.set k x := fun V' ts' L k x => cat2 _ _ _ _ _ (G1 _ _)
  have cb := fun V L => begin_call (hh.at V ts L) h hdo
  have ck := fun {H} {V} {Vc} {S} (hs : StT H t S x' Vc V ts') => check_call hs hn' (by rw [ho]; exact h.o) ha hr hk hc (by rw [ho, hm]; exact hf) (by rw [ho]; exact h7)
  have isf := isFor_call h.o x.me
  rw [hf] at isf
  have hA : (x.rats.map ratA).length = 8 := by rw [List.length_map]; exact h.rl
  have hA' : (x'.rats.map ratA).length = 8 := by rw [List.length_map]; exact ha.len
  have z1 := opA_sz h.o
  have z2 := opA_sz h.of_
  have hid := h.id
  have hck := h.o.check
  have kl := nameK_len (putN ts' (chkT r.chain))
  generalize nameK (putN ts' (chkT r.chain)) = kk at *
  generalize putT ts' (chkT r.chain) = ts2 at *
  have heq := eq_key kl hck
  unfold begA keysA at cb
  unfold begA keysA
  refine XCall.of h611 rfl ?_; show AC.wp _ fb611 ⟨H.length, [freeI t.b t.l, .st [528, 1] [.arr 66 (x.rats.map ratA), .sl 65 (x.waits.map waitA)], .lit (ji x.me), keyA x.id, opA x.o, opA x.of_, .sl 32 (klA x.got)] ++ List.replicate (55 - 7) .any, H ++ List.replicate 55 none⟩ (fun x s => match x with | .exit _ => False | _ => ∃ s1, Le s s1 ∧ FinX [(.cell 14 .true 529), (.tmp 15)] s1 _); unfold fb611
  rw [← hself]
  rw [tbOf_len]
  generalize hN : H.length = N at *
  refine wp_sg (areg_bx rfl (by simp [AS.ev, AS.put, AV.sz, hA]) fun l8 => areg_bx rfl (by simp [AS.ev, AS.put, keyA, AV.sz, bl, hid]) fun l10 => areg_bx rfl (by simp only [AS.ev, AS.put]; exact z1) fun l11 => areg_bx rfl (by simp only [AS.ev, AS.put]; exact z2) fun l12 => areg_al' (z' := ks0) rfl fun l14 => areg_end (by simp [push_cast, g2, ks0]; exact rfl) ?_)
  refine wp_sg ?_
  refine areg_run 7 (by simp [push_cast, g1, hA, hid, opA]; exact rfl) ?_
  refine areg_xq (us := [freeI t.b t.l, .st [528, 1] [.arr 66 (x.rats.map ratA), .sl 65 (x.waits.map waitA)], .lit (ji x.me), keyA x.id, opA x.o, opA x.of_, .sl 32 (klA x.got)]) rfl (tgt_begin _ _ _ _ _ _ _) (cb V _) (BegK.ex _ _ _ _) (fun r hp' hK t' ht' => by cases ht') ?_
  rintro r' H' ⟨S, Vc, V2, L, p, q, hB, rfl, rfl⟩
  rw [hh.at_of, List.append_assoc]
  rw [List.length_append, G1] at hB
  have hB' := fun M (hM : List.drop 55 M = L) hl => (Beg.drop (N := H.length) (n := 55) (by rw [hN]; exact hB) hM hl)
  refine areg_end (by simp [push_cast]; exact rfl) ?_
  refine wp_seq' (wp_block' ?_)
  refine wp_sr (by simp [push_cast]; exact rfl) ?_
  refine wp_cond_f (by simp [AS.ev]) ?_
  refine wp_seq' (wp_rg ?_)
  refine areg_run 2 (by simp [push_cast, g1, opA]; exact rfl) ?_
  refine areg_cv (by simp [AS.ev, AS.coe, AS.put] <;> exact rfl) isf ?_ (by intro p hp b V; simp at hp; rcases hp with rfl | rfl <;> simp [AS.ev, AS.put])
  have hneq : binVal .neq (ji x.o.kind) (jn 7) = some (.bool true) := by simp [binVal, ji, jn, h7]
  refine areg_run 6 (by simp [push_cast, g1, opA, hneq]; exact rfl) ?_
  refine areg_run 1 (by simp [push_cast]; exact rfl) ?_
  refine areg_g (b := true) (by simp [AS.ev, AS.put]) (areg_xq (us := [.ptr S.b S.l 0 []]) rfl (tgt_check _) (ck (Beg.st hh (hB' _ rfl (by simp)))) ⟨_, _, rfl, .slice none 0 0, rfl⟩ (fun r hp' hK t' ht' b hb' => ?_) ?_)
  · obtain ⟨_, V', rfl⟩ := hK
    simp at ht'
    subst ht'
    simp [AS.ev, AV.place] at hb'
    subst hb'
    rw [hh.at_of]
    simp only [g1]
  rintro r' H' ⟨rfl, V3, rfl⟩
  rw [hh.at_of]
  refine areg_run 2 (by simp [push_cast, g1, opA, hck]; exact rfl) ?_
  refine areg_g (by simp [AS.ev, AS.put]) (areg_eq (by simp [AS.ev, AS.put] <;> exact rfl) (by simp [AS.ev, AS.put] <;> exact rfl) heq rfl rfl ?_)
  refine areg_end (by simp [push_cast]; exact rfl) ?_
  by_cases hcc : kk = x.o.check
  · refine wp_cond_f (by simp [AS.ev, hcc]) (wp_skip' ?_)
    refine wp_M (A := tbOf H t V3 ts2) (fun M => Beg H.length t S x' Vc M (55 + p) (55 + q) ∧ M[14]? = some (some (.box l14 529 ks0)) ∧ 55 ≤ M.length) ⟨hB' _ rfl (by simp), rfl, by simp⟩ ?_
    rintro M ⟨hM1, hM2, hM3⟩
    have gM : ∀ V ts, (tbOf H t V ts ++ M)[S.b]? = some (some (sbk t S x' Vc)) := fun V ts => (Beg.st hh hM1).st.hb
    have hSc : S.c = N + (55 + q) := by rw [hM1.c, hN]
    unfold ks0 at hM2
    refine wp_sgL ?_
    refine areg_end (by simp [push_cast, g1, g2, gM, sbk, stA, hM2, hA']; exact rfl) ?_
    have hM4 : ∀ X, (M.set 14 (some X))[14]? = some (some X) := fun X => List.getElem?_set_self (by omega)
    have hM5 : ∀ X, (M.set 14 X)[55 + q]? = some (some (swk x' Vc)) := fun X => by rw [List.getElem?_set_ne (by omega)]; exact hM1.hc
    refine ⟨_, Le.sealedF (b := N + 14) (j := S.c) (n := 529) (i := 1) (e := 83) (esz := 65) (sl := 0) (l := l14) (ns := [528, 1]) (fs := [.arr 66 (x'.rats.map ratA), .own S.c Vc]) (els := x'.waits.map waitA) (V := Vc) (by simp only [AS.blk, g1, hM4]; rfl) rfl (by simp only [AS.blk, hSc, g1, hM5]; rfl), ?_⟩
    simp only [hSc, g2, List.set_set]
    refine wp_ret' ?_
    have hr : ∀ X, ((M.set 14 (some X)).set (55 + q) none)[14]? = some (some X) := fun X => by rw [List.getElem?_set_ne (by omega), hM4]
    exact ⟨_, Le.refl _, [], _, ⟨_, rfl, by simp [AS.seals, RVals, RVal, AS.ev, AS.peek, AS.blk, g1, hr, Blk.loc, Blk.cont, Blk.n, AV.nav, AV.isAgg, AV.isTup, AS.coe]; rfl, by simp [keysA]⟩, appA x' true, _, RelLe.refl _, by simp [appA, keysA], HpLe.trim _ _, by simp [hcc], V3, (hh.of_of _ _ _ _).symm⟩
  · refine wp_cond_t (by simp [AS.ev, hcc]) (wp_sg ?_)
    refine areg_bd (z' := ks0) rfl ?_
    unfold ks0
    refine areg_end (by simp [push_cast, g1, g2]; exact rfl) (wp_ret' ?_)
    refine ⟨_, Le.refl _, [], _, ⟨_, rfl, by simp [AS.seals, RVals, RVal, AS.ev, AS.peek, AS.blk, g1, Blk.loc, Blk.cont, Blk.n, AV.nav, AV.isAgg, AV.isTup, AS.coe]; rfl, by simp [keysA]⟩, appA x' false, _, ?_, by simp [appA, keysA], HpLe.trim _ _, by simp [hcc], V3, (hh.of_of _ _ _ _).symm⟩
    exact RelLe.tup (AVle.tupSt ks0_le (AVle.refl _))
end Go.Cab

/- Secrets: the operations of the statement: a beginning, and updates, of the member 0 for the member 1. -/
-- TEXTS
-- KIT
namespace Go.Cab
open Go.RowKit
open Classical

def box1 : BoxV := ⟨1, zk, 0, 0, []⟩
def op0 (c : List UInt8) : OpV := ⟨0, 1, [], 1, [0, 1], zk, c, [], [box1]⟩
def opU (n : Nat) (c : List UInt8) : OpV := ⟨0, n, [key1], 4, [], zk, c, [], [box1]⟩
def opZ : OpV := ⟨0, 0, [], 0, [], zk, zk, [], []⟩
theorem box1_ok : ∀ b ∈ [box1], BoxOk b := fun b hb => by
  simp only [List.mem_singleton] at hb
  subst hb
  exact ⟨zk_len, by simp [box1], by simp [box1]⟩
theorem op0_ok {c : List UInt8} (h : c.length = 32) : OpOk (op0 c) := ⟨by simp [op0], by simp [op0], by simp [op0], by simp [op0], zk_len, h, by simp [op0], by simp [op0], box1_ok⟩
theorem opU_ok {n : Nat} (hn : n < 4294967296) {c : List UInt8} (h : c.length = 32) : OpOk (opU n c) := ⟨hn, by simp [opU], by simp [opU, key1], by simp [opU], zk_len, h, by simp [opU], by simp [opU], box1_ok⟩
theorem opZ_ok : OpOk opZ := ⟨by simp [opZ], by simp [opZ], by simp [opZ], by simp [opZ], zk_len, zk_len, by simp [opZ], by simp [opZ], by simp [opZ]⟩
theorem box1_bl : ∀ b ∈ [box1], b.body.length < 9223372036854775808 := fun b hb => by
  simp only [List.mem_singleton] at hb
  subst hb
  simp [box1]
theorem op0_right {c : List UInt8} (h : c ≠ zk) : rightV (op0 c) = true := by
  simp [rightV, c1V, c2V, c3V, whoV, boxesV, badBox, memB, risV, cmpN, op0, box1, h]
theorem opU_right {n : Nat} (hn : n ≠ 0) {c : List UInt8} (h : c ≠ zk) : rightV (opU n c) = true := by
  simp [rightV, c1V, c2V, c3V, whoV, boxesV, badBox, memB, risV, cmpN, opU, box1, h, hn]
theorem op0_for {c : List UInt8} {me : Int} (h : me = 0 ∨ me = 1) : forV (op0 c) me = true := by
  rcases h with rfl | rfl <;> simp [forV, op0, box1]
theorem opU_for {n : Nat} {c : List UInt8} : forV (opU n c) 1 = true := by simp [forV, opU, box1]

/-- The ratchets then. -/
def rats1 (k c : List UInt8) : List Rat := [⟨true, false, k, c⟩, ratN, rat0, rat0, rat0, rat0, rat0, rat0]
theorem cr_rats : crR rats0 [0, 1] = rats1 zk zk := rfl
/-- What a seed does, of one box. -/
theorem seeded_one {ts : List Term} {x : StV} {k c seed m c' k' : List UInt8} {t3 : List Term} (hx : x.rats = rats1 k c) (hb : x.o.boxes = [box1]) (hu : updV ts (dec2 1) k seed = (m, c', k', t3)) :
    seededV ts x 0 ⟨true, false, k, c⟩ seed = ({ x with rats := rats1 k' c', waits := x.waits ++ [⟨x.id, 1, m⟩] }, t3) := by
  unfold updV at hu
  simp only [Prod.mk.injEq] at hu
  obtain ⟨h1, h2, h3, h4⟩ := hu
  unfold seededV
  rw [hb]
  have e : dec2 box1.to.toNat = dec2 1 := rfl
  simp only [seedW, e, stepX, wX, hx]
  rw [h1, h2, h3, h4]
  rfl

/-- A state of the statement. -/
def stC (me : Int) (id c seed : List UInt8) : StV := ⟨rats0, [], me, id, op0 c, opZ, [seed]⟩
def stU (k c : List UInt8) (ws : List WaitV) (id : List UInt8) (n : Nat) (ch seed : List UInt8) : StV := ⟨rats1 k c, ws, 1, id, opU n ch, opZ, [seed]⟩
theorem stC_bg {me : Int} (hm : me = 0 ∨ me = 1) {id c seed : List UInt8} (hi : id.length = 32) (hc : c.length = 32) (hz : c ≠ zk) : BgOk (stC me id c seed) :=
  ⟨op0_ok hc, opZ_ok, box1_bl, op0_right hz, by rcases hm with rfl | rfl <;> rfl, rfl, hi, by simp [stC]⟩
theorem stU_bg {k c : List UInt8} {ws : List WaitV} (hw : ws.length < 1000) {id : List UInt8} (hi : id.length = 32) {n : Nat} (hn : n < 4294967296) (h0 : n ≠ 0) {ch seed : List UInt8} (hc : ch.length = 32) (hz : ch ≠ zk) : BgOk (stU k c ws id n ch seed) :=
  ⟨opU_ok hn hc, opZ_ok, box1_bl, opU_right h0 hz, rfl, rfl, hi, by simp [stU]; omega⟩
theorem do_C {ts : List Term} (hl : ts.length + 100 < 90000) {me : Int} (hm : me = 0 ∨ me = 1) {id c seed : List UInt8} (hi : id.length = 32) (hc : c.length = 32) (hs : seed.length = 32) {m c' k' : List UInt8} {t3 : List Term} (hu : updV ts (dec2 1) zk seed = (m, c', k', t3)) :
    ∀ H V Vc S t, StT H t S (stC me id c seed) Vc V ts → XCall Go.Proofs.Tryd.prog 30 [.ptr S.b S.l 0 []] H fun r' H' => r' = .lit (.bool true) ∧ ∃ V' Vc', H' = tbOf (stOf H t S ⟨rats1 k' c', [⟨id, 1, m⟩], me, id, op0 c, opZ, [seed]⟩ Vc') t V' t3 := by
  intro H V Vc S t hst
  refine do_call hst (op0_ok hc) (op0_for hm) (n := 1) rfl (f := 48) rfl (by kernel_rfl) fun H V Vc h => ?_
  have hsd : SdOk ts (rX (stC me id c seed) (crR rats0 [0, 1])) 0 ⟨true, false, zk, zk⟩ seed :=
    ⟨by simp [rX, stC, op0]; omega, ⟨rfl, by omega, rfl⟩, rfl, zk_len, zk_len, rfl, hs, hi, by simp [rX, stC, op0], by simp [rX, stC, op0, box1, memB], by simp [rX, stC, op0, box1, zk_len]⟩
  have h1 := create_call h (a := 0) (r := ⟨true, false, zk, zk⟩) (seed := seed) hsd (by simp [stC, op0]) (by simp [stC, op0, memB]) rfl
  have h2 := seeded_one (x := rX (stC me id c seed) (crR rats0 [0, 1])) (k := zk) (c := zk) rfl rfl hu
  have h3 : crR (stC me id c seed).rats (stC me id c seed).o.who = crR rats0 [0, 1] := rfl
  rw [h3, h2] at h1
  exact h1
theorem do_U {ts : List Term} (hl : ts.length + 100 < 90000) {k c : List UInt8} {ws : List WaitV} (hw : ws.length < 1000) {id : List UInt8} {n : Nat} {ch seed : List UInt8} (hn : n < 4294967296) (hi : id.length = 32) (hc : ch.length = 32) (hk : k.length = 32) (hcc : c.length = 32) (hs : seed.length = 32) {m c' k' : List UInt8} {t3 : List Term} (hu : updV ts (dec2 1) k seed = (m, c', k', t3)) :
    ∀ H V Vc S t, StT H t S (stU k c ws id n ch seed) Vc V ts → XCall Go.Proofs.Tryd.prog 30 [.ptr S.b S.l 0 []] H fun r' H' => r' = .lit (.bool true) ∧ ∃ V' Vc', H' = tbOf (stOf H t S ⟨rats1 k' c', ws ++ [⟨id, 1, m⟩], 1, id, opU n ch, opZ, [seed]⟩ Vc') t V' t3 := by
  intro H V Vc S t hst
  refine do_call hst (opU_ok hn hc) opU_for (n := 4) rfl (f := 50) rfl (by kernel_rfl) fun H V Vc h => ?_
  have hsd : SdOk ts (stU k c ws id n ch seed) 0 ⟨true, false, k, c⟩ seed :=
    ⟨by simp [stU, opU]; omega, ⟨rfl, by omega, rfl⟩, rfl, hk, hcc, rfl, hs, hi, by simp [stU, opU]; omega, by simp [stU, opU, box1, memB], by simp [stU, opU, box1, zk_len]⟩
  have h1 := update_call h hsd rfl
  have h2 := seeded_one (x := stU k c ws id n ch seed) (k := k) (c := c) rfl rfl hu
  rw [h2] at h1
  exact h1
end Go.Cab

/- Secrets: calls of the statement; its beginning; a box's content. -/
-- TEXTS
-- KIT
namespace Go.Cab
open Go.RowKit
open Classical
def fb603 : AC := (.seq (.reg [⟨(.some 3), .none, (.box 32 (.tmp 1)), [], .none⟩, ⟨(.some 4), .none, (.alloc 71 (.st [1, 1, 1, 1, 1, 32, 32, 1, 1] [(.lit (jn 0)), (.lit (wn 0)), (.lit (.slice .none 0 0)), (.lit (jn 0)), (.lit (.slice .none 0 0)), (.arr 1 (List.replicate 32 (.lit (bn 0)))), (.arr 1 (List.replicate 32 (.lit (bn 0)))), (.lit (tx [])), (.lit (.slice .none 0 0))])), [], .none⟩]) (.seq (.reg [⟨(.some 6), .none, (.bslice 1 (.lit (jn 0)) 2 [(0, (.const (jn 0))), (1, (.const (jn 1)))]), [], .none⟩, ⟨(.some 7), .none, (.build (.arr 1 (List.replicate 32 (.lit (bn 0)))) [(0, (.const (bn 1)))]), [], .none⟩, ⟨(.some 8), .none, (.build (.st [1, 34, 1] [(.lit (jn 0)), (.st [32, 1, 1] [(.arr 1 (List.replicate 32 (.lit (bn 0)))), (.lit (wn 0)), (.lit (wn 0))]), (.lit (tx []))]) [(0, (.const (jn 1)))]), [], .none⟩, ⟨(.some 9), .none, (.bslice 36 (.st [1, 34, 1] [(.lit (jn 0)), (.st [32, 1, 1] [(.arr 1 (List.replicate 32 (.lit (bn 0)))), (.lit (wn 0)), (.lit (wn 0))]), (.lit (tx []))]) 1 [(0, (.tmp 8))]), [], .none⟩, ⟨(.some 10), .none, (.build (.st [1, 1, 1, 1, 1, 32, 32, 1, 1] [(.lit (jn 0)), (.lit (wn 0)), (.lit (.slice .none 0 0)), (.lit (jn 0)), (.lit (.slice .none 0 0)), (.arr 1 (List.replicate 32 (.lit (bn 0)))), (.arr 1 (List.replicate 32 (.lit (bn 0)))), (.lit (tx [])), (.lit (.slice .none 0 0))]) [(1, (.const (wn 1))), (3, (.const (jn 1))), (4, (.tmp 6)), (6, (.tmp 7)), (8, (.tmp 9))]), [], .none⟩, ⟨(.some 5), .none, (.alloc 71 (.st [1, 1, 1, 1, 1, 32, 32, 1, 1] [(.lit (jn 0)), (.lit (wn 0)), (.lit (.slice .none 0 0)), (.lit (jn 0)), (.lit (.slice .none 0 0)), (.arr 1 (List.replicate 32 (.lit (bn 0)))), (.arr 1 (List.replicate 32 (.lit (bn 0)))), (.lit (tx [])), (.lit (.slice .none 0 0))])), [], .none⟩, ⟨.none, .none, (.store 71 (.tmp 5) (.tmp 10)), [], .none⟩]) (.seq (.reg [⟨(.some 12), .none, (.mov (.tmp 0)), [], .none⟩, ⟨(.some 13), .none, (.build (.st [528, 1] [(.arr 66 (List.replicate 8 (.st [1, 1, 32, 32] [(.lit (.bool .false)), (.lit (.bool .false)), (.arr 1 (List.replicate 32 (.lit (bn 0)))), (.arr 1 (List.replicate 32 (.lit (bn 0))))]))), (.lit (.slice .none 0 0))]) []), [], .none⟩, ⟨(.some 14), .none, (.load .true 71 (.tmp 5)), [], .none⟩, ⟨(.some 15), .none, (.build (.st [1, 1, 1, 1, 1, 32, 32, 1, 1] [(.lit (jn 0)), (.lit (wn 0)), (.lit (.slice .none 0 0)), (.lit (jn 0)), (.lit (.slice .none 0 0)), (.arr 1 (List.replicate 32 (.lit (bn 0)))), (.arr 1 (List.replicate 32 (.lit (bn 0)))), (.lit (tx [])), (.lit (.slice .none 0 0))]) []), [], .none⟩, ⟨(.some 16), .none, (.load .true 32 (.tmp 3)), [], .none⟩, ⟨(.some 17), .none, (.bslice 32 (.arr 1 (List.replicate 32 (.lit (bn 0)))) 1 [(0, (.tmp 16))]), [], .none⟩, ⟨(.some 18), .none, (.xc (.dir 8) [(.tmp 12), (.tmp 13), (.const (jn 0)), (.tmp 14), (.tmp 15), (.tmp 17)] [] []), [], .none⟩, ⟨(.some 11), .none, (.mov (.tmp 18)), [], .none⟩, ⟨(.some 19), .none, (.ext (.tmp 11) 0), [], .none⟩, ⟨(.some 20), .none, (.ext (.tmp 11) 1), [], .none⟩, ⟨(.some 21), .none, (.faddr 37 6 (.tmp 5)), [], .none⟩, ⟨.none, .none, (.store 32 (.tmp 21) (.tmp 19)), [], .none⟩]) (.seq (.reg [⟨(.some 22), .none, (.load .true 71 (.tmp 5)), [], .none⟩, ⟨.none, .none, (.store 71 (.tmp 4) (.tmp 22)), [], .none⟩]) .ret))))
def fc603 : FC := ⟨2, 23, [(.cell 4 .true 71)], fb603⟩
theorem fc603_eq : compF Go.Proofs.Tryd.prog 12 = some fc603 := by kernel_rfl
def fb632 : AC := (.seq (.reg [⟨(.some 5), .none, (.box 529 (.tmp 0)), [], .none⟩, ⟨(.some 6), .none, (.box 71 (.tmp 1)), [], .none⟩, ⟨(.some 7), .none, (.box 71 (.tmp 2)), [], .none⟩, ⟨(.some 8), .none, (.box 32 (.tmp 3)), [], .none⟩, ⟨(.some 10), .none, (.mov (.const (.slice .none 0 0))), [], .none⟩]) (.seq (.seq (.reg [⟨(.some 13), .none, (.load .true 71 (.tmp 6)), [], .none⟩, ⟨(.some 14), .none, (.call 26 [(.tmp 13)]), [], .none⟩, ⟨(.some 15), .none, (.un .not (.tmp 14)), [], .none⟩]) (.cond (.tmp 15) (.seq (.reg [⟨(.some 10), .none, (.mov (.const (.slice .none 0 0))), [], .none⟩]) .ret) .skip)) (.seq (.block 0 (.seq (.seq (.reg [⟨(.some 17), .none, (.faddr 3 3 (.tmp 6)), [], .none⟩, ⟨(.some 18), .none, (.load .false 1 (.tmp 17)), [], .none⟩, ⟨(.some 19), .none, (.bin .eql (.tmp 18) (.const (jn 1))), [], .none⟩, ⟨(.some 16), .none, (.mov (.tmp 19)), [], .none⟩]) (.cond (.tmp 16) .skip (.seq (.reg [⟨(.some 20), .none, (.faddr 3 3 (.tmp 6)), [], .none⟩, ⟨(.some 21), .none, (.load .false 1 (.tmp 20)), [], .none⟩, ⟨(.some 22), .none, (.bin .eql (.tmp 21) (.const (jn 4))), [], .none⟩, ⟨(.some 16), .none, (.mov (.tmp 22)), [], .none⟩]) (.cond (.tmp 16) .skip (.reg [⟨(.some 23), .none, (.faddr 3 3 (.tmp 6)), [], .none⟩, ⟨(.some 24), .none, (.load .false 1 (.tmp 23)), [], .none⟩, ⟨(.some 25), .none, (.bin .eql (.tmp 24) (.const (jn 3))), [], .none⟩, ⟨(.some 16), .none, (.mov (.tmp 25)), [], .none⟩]))))) (.cond (.tmp 16) (.seq (.reg [⟨(.some 26), .none, (.load .true 32 (.tmp 8)), [], .none⟩, ⟨(.some 27), .none, (.ef (.bown 23 32 (.arr 1 (List.replicate 32 (.lit (bn 0)))) 1 [0]) [(.tmp 26)]), [], .none⟩, ⟨(.some 10), .none, (.mov (.tmp 27)), [], .none⟩]) .ret) (.seq (.seq (.reg [⟨(.some 29), .none, (.load .true 71 (.tmp 6)), [], .none⟩, ⟨(.some 30), .none, (.mov (.tmp 4)), [], .none⟩, ⟨(.some 31), .none, (.call 27 [(.tmp 29), (.tmp 30)]), [], .none⟩, ⟨(.some 28), .none, (.mov (.tmp 31)), [], .none⟩]) (.cond (.tmp 28) .skip (.reg [⟨(.some 32), .none, (.faddr 3 3 (.tmp 6)), [], .none⟩, ⟨(.some 33), .none, (.load .false 1 (.tmp 32)), [], .none⟩, ⟨(.some 34), .none, (.bin .eql (.tmp 33) (.const (jn 6))), [], .none⟩, ⟨(.some 35), .none, (.mov (.tmp 34)), [], .none⟩, ⟨(.some 36), (.some (35, .true)), (.load .true 71 (.tmp 7)), [], .none⟩, ⟨(.some 37), (.some (35, .true)), (.mov (.tmp 4)), [], .none⟩, ⟨(.some 38), (.some (35, .true)), (.call 27 [(.tmp 36), (.tmp 37)]), [], .none⟩, ⟨(.some 39), .none, (.pick (.tmp 35) (.tmp 38) (.const (.bool .false))), [], .none⟩, ⟨(.some 28), .none, (.mov (.tmp 39)), [], .none⟩]))) (.cond (.tmp 28) (.seq (.reg [⟨(.some 40), .none, (.faddr 0 0 (.tmp 6)), [], .none⟩, ⟨(.some 41), .none, (.load .false 1 (.tmp 40)), [], .none⟩, ⟨(.some 42), .none, (.faddr 0 0 (.tmp 5)), [], .none⟩, ⟨(.some 43), .none, (.iaddrA 8 66 (.tmp 42) (.tmp 41)), [], .none⟩, ⟨(.some 44), .none, (.faddr 2 2 (.tmp 43)), [], .none⟩, ⟨(.some 45), .none, (.load .true 32 (.tmp 44)), [], .none⟩, ⟨(.some 46), .none, (.ef (.bown 23 32 (.arr 1 (List.replicate 32 (.lit (bn 0)))) 1 [0]) [(.tmp 45)]), [], .none⟩, ⟨(.some 10), .none, (.mov (.tmp 46)), [], .none⟩]) .ret) (.seq (.reg [⟨(.some 48), .none, (.faddr 3 3 (.tmp 6)), [], .none⟩, ⟨(.some 49), .none, (.load .false 1 (.tmp 48)), [], .none⟩, ⟨(.some 50), .none, (.bin .eql (.tmp 49) (.const (jn 5))), [], .none⟩, ⟨(.some 51), .none, (.mov (.tmp 50)), [], .none⟩, ⟨(.some 52), (.some (51, .true)), (.load .true 71 (.tmp 7)), [], .none⟩, ⟨(.some 53), (.some (51, .true)), (.mov (.tmp 4)), [], .none⟩, ⟨(.some 54), (.some (51, .true)), (.call 21 [(.tmp 52), (.tmp 53)]), [], .none⟩, ⟨(.some 55), (.some (51, .true)), (.un .not (.tmp 54)), [], .none⟩, ⟨(.some 56), .none, (.pick (.tmp 51) (.tmp 55) (.const (.bool .false))), [], .none⟩, ⟨(.some 47), .none, (.mov (.tmp 56)), [], .none⟩]) (.cond (.tmp 47) (.seq (.reg [⟨(.some 11), .none, (.alloc 32 (.arr 1 (List.replicate 32 (.lit (bn 0))))), [], .none⟩]) (.seq (.seq (.reg [⟨(.some 57), .none, (.load .true 529 (.tmp 5)), [], .none⟩, ⟨(.some 58), .none, (.faddr 5 5 (.tmp 6)), [], .none⟩, ⟨(.some 59), .none, (.load .true 32 (.tmp 58)), [], .none⟩, ⟨(.some 60), .none, (.faddr 0 0 (.tmp 6)), [], .none⟩, ⟨(.some 61), .none, (.load .false 1 (.tmp 60)), [], .none⟩, ⟨(.some 62), .none, (.lcall 28 [(.tmp 57), (.tmp 59), (.tmp 61)]), [], .none⟩, ⟨(.some 12), .none, (.mov (.tmp 62)), [], .none⟩]) (.seq (.reg [⟨(.some 63), .none, (.mov (.tmp 12)), [], .none⟩, ⟨(.some 64), .none, (.bin .geq (.tmp 63) (.const (jn 0))), [], .none⟩]) (.cond (.tmp 64) (.reg [⟨(.some 65), .none, (.faddr 528 1 (.tmp 5)), [], .none⟩, ⟨(.some 66), .none, (.load .false 1 (.tmp 65)), [], .none⟩, ⟨(.some 67), .none, (.mov (.tmp 12)), [], .none⟩, ⟨(.some 68), .none, (.iaddrS 65 (.tmp 66) (.tmp 67)), [], .none⟩, ⟨(.some 69), .none, (.faddr 33 2 (.tmp 68)), [], .none⟩, ⟨(.some 70), .none, (.load .true 32 (.tmp 69)), [], .none⟩, ⟨.none, .none, (.store 32 (.tmp 11) (.tmp 70)), [], .none⟩]) .skip))) (.seq (.reg [⟨(.some 71), .none, (.load .true 32 (.tmp 11)), [], .none⟩, ⟨(.some 72), .none, (.ef (.bown 23 32 (.arr 1 (List.replicate 32 (.lit (bn 0)))) 1 [0]) [(.tmp 71)]), [], .none⟩, ⟨(.some 10), .none, (.mov (.tmp 72)), [], .none⟩]) .ret))) .skip))))))) (.seq (.reg [⟨(.some 10), .none, (.mov (.const (.slice .none 0 0))), [], .none⟩]) .ret))))
def fc632 : FC := ⟨5, 73, [(.tmp 10)], fb632⟩
theorem fc632_eq : compF Go.Proofs.Tryd.prog 16 = some fc632 := by kernel_rfl

abbrev nilL : AV := .lit (.slice none 0 0)
def bx1A : AV := .st [1, 34, 1] [.lit (jn 1), .st [32, 1, 1] [keyA zk, .lit (wn 0), .lit (wn 0)], .lit (tx [])]
def o0A (c : List UInt8) : AV := .st [1, 1, 1, 1, 1, 32, 32, 1, 1] [.lit (jn 0), .lit (wn 1), nilL, .lit (jn 1), .sl 1 [.lit (jn 0), .lit (jn 1)], keyA zk, keyA c, .lit (tx []), .sl 36 [bx1A]]
def ozA : AV := .st [1, 1, 1, 1, 1, 32, 32, 1, 1] [.lit (jn 0), .lit (wn 0), nilL, .lit (jn 0), nilL, keyA zk, keyA zk, .lit (tx []), nilL]
def uA (n : Nat) (c : List UInt8) : AV := .st [1, 1, 1, 1, 1, 32, 32, 1, 1] [.lit (jn 0), .lit (wn n), .sl 32 [keyA key1], .lit (jn 4), nilL, keyA zk, keyA c, .lit (tx []), .sl 36 [bx1A]]
theorem o0A_le (c : List UInt8) : RelLe (o0A c) (opA (op0 c)) := RelLe.st (AVle.st1 (AVle.refl _) (AVle.st1 (AVle.refl _) (AVle.st1 (AVle.nilS 32) (AVle.refl _))))
theorem ozA_le : RelLe ozA (opA opZ) := RelLe.st (AVle.st1 (AVle.refl _) (AVle.st1 (AVle.refl _) (AVle.st1 (AVle.nilS 32) (AVle.st1 (AVle.refl _) (AVle.st1 (AVle.nilS 1) (AVle.st1 (AVle.refl _) (AVle.st1 (AVle.refl _) (AVle.st1 (AVle.refl _) (AVle.st1 (AVle.nilS 36) AVle.st0)))))))))
theorem uA_le (n : Nat) (c : List UInt8) : RelLe (uA n c) (opA (opU n c)) := RelLe.st (AVle.st1 (AVle.refl _) (AVle.st1 (AVle.refl _) (AVle.st1 (AVle.refl _) (AVle.st1 (AVle.refl _) (AVle.st1 (AVle.nilS 1) (AVle.refl _))))))
theorem ks0_rel : RelLe ks0 (keysA rats0 []) := RelLe.st ks0_le
theorem tgt_scheck (a b c d e f : AV) : tgtA Go.Proofs.Tryd.prog (.dir 8) [a, b, c, d, e, f] = some (8, [a, b, c, d, e, f]) := by kernel_rfl
theorem tgt_apply (a b c d e f g : AV) : tgtA Go.Proofs.Tryd.prog (.dir 10) [a, b, c, d, e, f, g] = some (10, [a, b, c, d, e, f, g]) := by kernel_rfl
section
variable {H : List (Option Blk)} {t : Tb} {V0 : Value} {ts0 ts : List Term} {seed m c' k' : List UInt8} {t3 : List Term}
theorem ccr_k (hh : TbOk H t V0 ts0) (hl : ts.length + 100 < 90000) (hs : seed.length = 32) (h3 : t3.length < 90000) (hc' : c'.length = 32) (hk' : k'.length = 32) (hu : updV ts (dec2 1) zk seed = (m, c', k', t3)) {c : List UInt8} (hc : c.length = 32) (hz : c ≠ zk) :
    KC Go.Proofs.Tryd.prog 8 [freeI t.b t.l, ks0, .lit (jn 0), o0A c, ozA, .sl 32 (klA [seed])] H t ts (.tup [keyA (nameK (putN t3 (chkT c'))), .lit (jn 0)]) (putT t3 (chkT c')) :=
  KC.args (vs' := [freeI t.b t.l, keysA rats0 [], .lit (ji 0), opA (op0 c), opA opZ, .sl 32 (klA [seed])]) ⟨RelLe.refl _, ks0_rel, RelLe.refl _, o0A_le c, ozA_le, RelLe.refl _, trivial⟩
    (KC.of hh fun H V h => scheck_call h (x := stC 0 zk c seed) (stC_bg (.inl rfl) zk_len hc hz) rfl h3 (fun H V Vc S hst => do_C hl (.inl rfl) zk_len hc hs hu H V Vc S t hst) rfl rfl (a := 0) ⟨rfl, by omega, rfl⟩ (r := ⟨true, false, k', c'⟩) rfl hk' hc' (op0_for (.inl rfl)) (by simp [stC, op0]))
theorem acr_k (hh : TbOk H t V0 ts0) (hl : ts.length + 100 < 90000) (hs : seed.length = 32) (h3 : t3.length < 90000) (hc' : c'.length = 32) (hk' : k'.length = 32) (hu : updV ts (dec2 1) zk seed = (m, c', k', t3)) {c : List UInt8} (hc : c.length = 32) (hz : c ≠ zk) {me : Nat} (hm : me = 0 ∨ me = 1) {id : List UInt8} (hi : id.length = 32) :
    KC Go.Proofs.Tryd.prog 10 [freeI t.b t.l, ks0, .lit (jn me), keyA id, o0A c, ozA, .sl 32 (klA [seed])] H t ts (if nameK (putN t3 (chkT c')) = c then .tup [keysA (rats1 k' c') [waitA ⟨id, 1, m⟩], .lit (jn 0)] else .tup [keysA rats0 [], .lit (jn 19)]) (putT t3 (chkT c')) := by
  have hm' : (me : Int) = 0 ∨ (me : Int) = 1 := by omega
  refine KC.args (vs' := [freeI t.b t.l, keysA rats0 [], .lit (ji me), keyA id, opA (op0 c), opA opZ, .sl 32 (klA [seed])]) ⟨RelLe.refl _, ks0_rel, RelLe.refl _, RelLe.refl _, o0A_le c, ozA_le, RelLe.refl _, trivial⟩
    (KC.of hh fun H V h => XCall.mono (apply_call h (x := stC me id c seed) (stC_bg hm' hi hc hz) h3 (fun H V Vc S hst => do_C hl hm' hi hc hs hu H V Vc S t hst) rfl rfl (a := 0) ⟨rfl, by omega, rfl⟩ (r := ⟨true, false, k', c'⟩) rfl hk' hc' (op0_for hm') (by simp [stC, op0])) ?_)
  rintro r H' ⟨rfl, h2⟩
  refine ⟨?_, h2⟩
  show appA _ (decide (nameK (putN t3 (chkT c')) = c)) = _
  by_cases e : nameK (putN t3 (chkT c')) = c <;> simp [appA, e]
theorem cup_k (hh : TbOk H t V0 ts0) (hl : ts.length + 100 < 90000) (hs : seed.length = 32) (h3 : t3.length < 90000) (hc' : c'.length = 32) (hk' : k'.length = 32) {k c : List UInt8} (hk : k.length = 32) (hcc : c.length = 32) {ws : List WaitV} (hw : ws.length < 1000) {n : Nat} (hn : n < 4294967296) (h0 : n ≠ 0) (hu : updV ts (dec2 1) k seed = (m, c', k', t3)) {ch : List UInt8} (hc : ch.length = 32) (hz : ch ≠ zk) :
    KC Go.Proofs.Tryd.prog 8 [freeI t.b t.l, keysA (rats1 k c) (ws.map waitA), .lit (jn 1), uA n ch, ozA, .sl 32 (klA [seed])] H t ts (.tup [keyA (nameK (putN t3 (chkT c'))), .lit (jn 0)]) (putT t3 (chkT c')) :=
  KC.args (vs' := [freeI t.b t.l, keysA (rats1 k c) (ws.map waitA), .lit (ji 1), opA (opU n ch), opA opZ, .sl 32 (klA [seed])]) ⟨RelLe.refl _, RelLe.refl _, RelLe.refl _, uA_le n ch, ozA_le, RelLe.refl _, trivial⟩
    (KC.of hh fun H V h => scheck_call h (x := stU k c ws zk n ch seed) (stU_bg hw zk_len hn h0 hc hz) rfl h3 (fun H V Vc S hst => do_U hl hw hn zk_len hc hk hcc hs hu H V Vc S t hst) rfl rfl (a := 0) ⟨rfl, by omega, rfl⟩ (r := ⟨true, false, k', c'⟩) rfl hk' hc' opU_for (by simp [stU, opU]))
theorem aup_k (hh : TbOk H t V0 ts0) (hl : ts.length + 100 < 90000) (hs : seed.length = 32) (h3 : t3.length < 90000) (hc' : c'.length = 32) (hk' : k'.length = 32) {k c : List UInt8} (hk : k.length = 32) (hcc : c.length = 32) {ws : List WaitV} (hw : ws.length < 1000) {n : Nat} (hn : n < 4294967296) (h0 : n ≠ 0) (hu : updV ts (dec2 1) k seed = (m, c', k', t3)) {ch : List UInt8} (hc : ch.length = 32) (hz : ch ≠ zk) (he : nameK (putN t3 (chkT c')) = ch) {id : List UInt8} (hi : id.length = 32) :
    KC Go.Proofs.Tryd.prog 10 [freeI t.b t.l, keysA (rats1 k c) (ws.map waitA), .lit (jn 1), keyA id, uA n ch, ozA, .sl 32 (klA [seed])] H t ts (.tup [keysA (rats1 k' c') ((ws ++ [(⟨id, 1, m⟩ : WaitV)]).map waitA), .lit (jn 0)]) (putT t3 (chkT c')) := by
  refine KC.args (vs' := [freeI t.b t.l, keysA (rats1 k c) (ws.map waitA), .lit (ji 1), keyA id, opA (opU n ch), opA opZ, .sl 32 (klA [seed])]) ⟨RelLe.refl _, RelLe.refl _, RelLe.refl _, RelLe.refl _, uA_le n ch, ozA_le, RelLe.refl _, trivial⟩
    (KC.of hh fun H V h => XCall.mono (apply_call h (x := stU k c ws id n ch seed) (stU_bg hw hi hn h0 hc hz) h3 (fun H V Vc S hst => do_U hl hw hn hi hc hk hcc hs hu H V Vc S t hst) rfl rfl (a := 0) ⟨rfl, by omega, rfl⟩ (r := ⟨true, false, k', c'⟩) rfl hk' hc' opU_for (by simp [stU, opU])) ?_)
  rintro r H' ⟨rfl, h2⟩
  refine ⟨?_, h2⟩
  show appA _ (decide (nameK (putN t3 (chkT c')) = ch)) = _
  simp [appA, he]
end

set_option maxHeartbeats 16000000 in
/-- The statement's beginning. -/
theorem cre_call {H : List (Option Blk)} {t : Tb} {V : Value} {ts : List Term} (hh : TbOk H t V ts) (hl : ts.length + 100 < 90000) {seed m c' k' : List UInt8} {t3 : List Term} (hs : seed.length = 32) (h3 : t3.length < 90000) (hc' : c'.length = 32) (hk' : k'.length = 32) (hu : updV ts (dec2 1) zk seed = (m, c', k', t3)) :
    XCall Go.Proofs.Tryd.prog 12 [freeI t.b t.l, keyA seed] H fun r H' => r = o0A (nameK (putN t3 (chkT c'))) ∧ ∃ V', H' = tbOf H t V' (putT t3 (chkT c')) := by
  have h603 := fc603_eq
  refine XCall.le ?_
  have hself := hh.self
  have G1 : ∀ V' ts', (tbOf H t V' ts').length = H.length := fun V' ts' => tbOf_len _ _ _ _
  have g1 : ∀ V' ts' L k, (tbOf H t V' ts' ++ L)[H.length + k]? = L[k]? := fun V' ts' L k => cat1 _ _ _ _ (G1 _ _)
  have g2 : ∀ V' ts' L k x, (tbOf H t V' ts' ++ L).set (H.length + k) x = tbOf H t V' ts' ++ L.set k x := fun V' ts' L k x => cat2 _ _ _ _ _ (G1 _ _)
  have ck := ccr_k hh hl hs h3 hc' hk' hu (c := key1) (by simp [key1]) (by decide)
  have kl := nameK_len (putN t3 (chkT c'))
  generalize nameK (putN t3 (chkT c')) = kk at *
  generalize putT t3 (chkT c') = ts2 at *
  have hk1 : key1.length = 32 := rfl
  refine XCall.of h603 rfl ?_; show AC.wp _ fb603 ⟨H.length, [freeI t.b t.l, keyA seed] ++ List.replicate (23 - 2) .any, H ++ List.replicate 23 none⟩ (fun x s => match x with | .exit _ => False | _ => ∃ s1, Le s s1 ∧ FinX [(.cell 4 .true 71)] s1 _); unfold fb603
  rw [← hself]
  rw [tbOf_len]
  generalize hN : H.length = N at *
  refine wp_sg (areg_bx rfl (by simp [AS.ev, AS.put, keyA, AV.sz, bl, hs]) fun l3 => areg_al' (z' := ozA) rfl fun l4 => areg_end (by simp [push_cast, g2]; exact rfl) ?_)
  refine wp_sg ?_
  refine areg_bsl (k := 1) (els := [.lit (jn 0), .lit (jn 1)]) (fill_ar rfl rfl rfl rfl (fill_ar rfl rfl rfl rfl rfl)) ?_
  refine areg_bd (z' := keyA key1) (fill_ar rfl rfl rfl rfl rfl) ?_
  refine areg_bd (z' := bx1A) (fill_st rfl rfl rfl rfl rfl rfl) ?_
  refine areg_bsl (k := 36) (els := [bx1A]) (fill_ar rfl rfl rfl rfl rfl) ?_
  refine areg_bd (z' := o0A key1) (fill_st rfl rfl rfl rfl rfl (fill_st rfl rfl rfl rfl rfl (fill_st rfl rfl rfl rfl rfl (fill_st rfl rfl rfl rfl rfl (fill_st rfl rfl rfl rfl rfl rfl))))) ?_
  refine areg_al' (z' := ozA) rfl fun l5 => areg_end (by simp [push_cast, g1, g2, ozA, o0A, zk_len]; exact rfl) ?_
  refine wp_sg ?_
  refine areg_run 1 (by simp [push_cast]; exact rfl) ?_
  refine areg_bd (z' := ks0) rfl ?_
  refine areg_run 1 (by simp [push_cast, g1, hk1, zk_len]; exact rfl) ?_
  refine areg_bd (z' := ozA) rfl ?_
  refine areg_run 1 (by simp [push_cast, g1, hs]; exact rfl) ?_
  refine areg_bsl (k := 32) (els := klA [seed]) (fill_ar rfl rfl rfl (by simp [AV.sz, AS.ev, AS.put, hs, bl_len]) rfl) ?_
  refine areg_k [freeI t.b t.l, ks0, .lit (jn 0), o0A key1, ozA, .sl 32 (klA [seed])] hN rfl (tgt_scheck _ _ _ _ _ _) ck (by simp) (by simp) fun V2 => ?_
  refine areg_end (by simp [push_cast, g1, g2, kl, hk1, zk_len]; exact rfl) ?_
  refine wp_sr (by simp [push_cast, g1, g2, kl, zk_len]; exact rfl) (wp_ret' ?_)
  exact ⟨_, Le.refl _, [], _, ⟨by simp [AS.seals, RVals, RVal, AS.ev, AS.peek, AS.blk, g1, Blk.loc, Blk.cont, Blk.n, AV.nav, AV.isAgg, AV.isTup, AS.coe]; rfl, by simp [o0A]⟩, o0A kk, _, RelLe.refl _, by simp [o0A], HpLe.trim _ _, rfl, V2, (hh.of_of _ _ _ _).symm⟩
end Go.Cab

/- Secrets: a box's content at a beginning; digits; all keys that somebody knows. -/
-- TEXTS
-- KIT
namespace Go.Cab
open Go.RowKit
open Classical
def fb642 : AC := (.seq (.reg [⟨(.some 1), .none, (.box 529 (.tmp 0)), [], .none⟩, ⟨(.some 2), .none, (.mov (.const (.slice .none 0 0))), [], .none⟩]) (.seq (.reg [⟨(.some 3), .none, (.mov (.const (.slice .none 0 0))), [], .none⟩]) (.seq (.seq (.reg [⟨(.some 4), .none, (.mov (.const (jn 0))), [], .none⟩]) (.block 0 (.loop (.seq (.seq (.reg [⟨(.some 6), .none, (.mov (.tmp 4)), [], .none⟩, ⟨(.some 7), .none, (.bin .lss (.tmp 6) (.const (jn 8))), [], .none⟩]) (.cond (.tmp 7) .skip (.exit 0))) (.seq (.block 1 (.reg [⟨(.some 10), .none, (.mov (.tmp 3)), [], .none⟩, ⟨(.some 11), .none, (.mov (.tmp 4)), [], .none⟩, ⟨(.some 12), .none, (.faddr 0 0 (.tmp 1)), [], .none⟩, ⟨(.some 13), .none, (.iaddrA 8 66 (.tmp 12) (.tmp 11)), [], .none⟩, ⟨(.some 14), .none, (.faddr 2 2 (.tmp 13)), [], .none⟩, ⟨(.some 15), .none, (.load .true 32 (.tmp 14)), [], (.some 1)⟩, ⟨(.some 16), .none, (.mov (.tmp 4)), [], .none⟩, ⟨(.some 17), .none, (.faddr 0 0 (.tmp 1)), [], .none⟩, ⟨(.some 18), .none, (.iaddrA 8 66 (.tmp 17) (.tmp 16)), [], .none⟩, ⟨(.some 19), .none, (.faddr 34 3 (.tmp 18)), [], .none⟩, ⟨(.some 20), .none, (.load .true 32 (.tmp 19)), [], (.some 1)⟩, ⟨(.some 21), .none, (.bslice 32 (.arr 1 (List.replicate 32 (.lit (bn 0)))) 2 [(0, (.tmp 15)), (1, (.tmp 20))]), [], .none⟩, ⟨(.some 22), .none, (.append 23 32 32 (.tmp 10) (.tmp 21)), [], .none⟩, ⟨(.some 3), .none, (.mov (.tmp 22)), [], .none⟩])) (.reg [⟨(.some 8), .none, (.mov (.tmp 4)), [], .none⟩, ⟨(.some 9), .none, (.bin .add (.tmp 8) (.const (jn 1))), [], .none⟩, ⟨(.some 4), .none, (.mov (.tmp 9)), [], .none⟩])))))) (.seq (.seq (.reg [⟨(.some 5), .none, (.mov (.const (jn 0))), [], .none⟩]) (.block 2 (.loop (.seq (.seq (.reg [⟨(.some 23), .none, (.mov (.tmp 5)), [], .none⟩, ⟨(.some 24), .none, (.faddr 528 1 (.tmp 1)), [], .none⟩, ⟨(.some 25), .none, (.load .false 1 (.tmp 24)), [], .none⟩, ⟨(.some 26), .none, (.len .false (.tmp 25)), [], .none⟩, ⟨(.some 27), .none, (.bin .lss (.tmp 23) (.tmp 26)), [], .none⟩]) (.cond (.tmp 27) .skip (.exit 2))) (.seq (.block 3 (.reg [⟨(.some 30), .none, (.mov (.tmp 3)), [], .none⟩, ⟨(.some 31), .none, (.faddr 528 1 (.tmp 1)), [], .none⟩, ⟨(.some 32), .none, (.load .false 1 (.tmp 31)), [], .none⟩, ⟨(.some 33), .none, (.mov (.tmp 5)), [], .none⟩, ⟨(.some 34), .none, (.iaddrS 65 (.tmp 32) (.tmp 33)), [], .none⟩, ⟨(.some 35), .none, (.faddr 33 2 (.tmp 34)), [], .none⟩, ⟨(.some 36), .none, (.load .true 32 (.tmp 35)), [], .none⟩, ⟨(.some 37), .none, (.bslice 32 (.arr 1 (List.replicate 32 (.lit (bn 0)))) 1 [(0, (.tmp 36))]), [], .none⟩, ⟨(.some 38), .none, (.append 23 32 32 (.tmp 30) (.tmp 37)), [], .none⟩, ⟨(.some 3), .none, (.mov (.tmp 38)), [], .none⟩])) (.reg [⟨(.some 28), .none, (.mov (.tmp 5)), [], .none⟩, ⟨(.some 29), .none, (.bin .add (.tmp 28) (.const (jn 1))), [], .none⟩, ⟨(.some 5), .none, (.mov (.tmp 29)), [], .none⟩])))))) (.seq (.reg [⟨(.some 39), .none, (.mov (.tmp 3)), [], .none⟩, ⟨(.some 2), .none, (.mov (.tmp 39)), [], .none⟩]) .ret)))))
def fc642 : FC := ⟨1, 40, [(.tmp 2)], fb642⟩
theorem fc642_eq : compF Go.Proofs.Tryd.prog 15 = some fc642 := by kernel_rfl
def fb643 : AC := (.seq (.reg [⟨(.some 2), .none, (.mov (.const (tx []))), [], .none⟩]) (.seq (.seq (.reg [⟨(.some 3), .none, (.mov (.tmp 0)), [], .none⟩, ⟨(.some 4), .none, (.bin .lss (.tmp 3) (.const (un 10))), [], .none⟩]) (.cond (.tmp 4) (.seq (.reg [⟨(.some 5), .none, (.mov (.tmp 0)), [], .none⟩, ⟨(.some 6), .none, (.bin .add (.const (un 48)) (.tmp 5)), [], .none⟩, ⟨(.some 7), .none, (.cvt .u8 (.tmp 6)), [], .none⟩, ⟨(.some 8), .none, (.bslice 1 (.lit (bn 0)) 1 [(0, (.tmp 7))]), [], .none⟩, ⟨(.some 9), .none, (.b2s (.tmp 8)), [], .none⟩, ⟨(.some 2), .none, (.mov (.tmp 9)), [], .none⟩]) .ret) .skip)) (.seq (.reg [⟨(.some 10), .none, (.mov (.tmp 0)), [], .none⟩, ⟨(.some 11), .none, (.bin .quo (.tmp 10) (.const (un 10))), [], .none⟩, ⟨(.some 12), .none, (.callv 13 [(.tmp 11)]), [], .none⟩, ⟨(.some 13), .none, (.mov (.tmp 0)), [], .none⟩, ⟨(.some 14), .none, (.bin .rem (.tmp 13) (.const (un 10))), [], .none⟩, ⟨(.some 15), .none, (.bin .add (.const (un 48)) (.tmp 14)), [], .none⟩, ⟨(.some 16), .none, (.cvt .u8 (.tmp 15)), [], .none⟩, ⟨(.some 17), .none, (.bslice 1 (.lit (bn 0)) 1 [(0, (.tmp 16))]), [], .none⟩, ⟨(.some 18), .none, (.b2s (.tmp 17)), [], .none⟩, ⟨(.some 19), .none, (.bin .add (.tmp 12) (.tmp 18)), [], .none⟩, ⟨(.some 2), .none, (.mov (.tmp 19)), [], .none⟩]) .ret)))
def fc643 : FC := ⟨1, 20, [(.tmp 2)], fb643⟩
theorem fc643_eq : compF Go.Proofs.Tryd.prog 13 = some fc643 := by kernel_rfl

theorem bown1 (a : List UInt8) (ha : a.length = 32) : fillV (.arr 32 (List.replicate 1 (.arr 1 (List.replicate 32 (.lit (bn 0)))))) ([0].zip [keyA a]) = some (.arr 32 (klA [a])) := by
  rw [← zk_eq]
  simp [fillV, AV.sub, AV.upd, AV.isTup, AV.sz, keyA, bl_len, ha, zk_len, klA]
set_option maxHeartbeats 16000000 in
theorem content_call {c seed : List UInt8} (hc : c.length = 32) (hz : c ≠ zk) (hs : seed.length = 32) : PCall Go.Proofs.Tryd.prog 16 [ks0, o0A c, ozA, keyA seed, .lit (jn 1)] (.row 23 32 (klA [seed])) := by
  have h632 := fc632_eq
  have cr := right_call (op0_ok hc) box1_bl
  rw [op0_right hz] at cr
  have cr2 : PCall Go.Proofs.Tryd.prog 26 [o0A c] (.val (.lit (.bool true))) := PCall.args (m := [opA (op0 c)]) ⟨o0A_le c, trivial⟩ cr
  refine PCall.of h632 rfl ?_; show AC.wp _ fb632 (AS.init [ks0, o0A c, ozA, keyA seed, .lit (jn 1)] 5 73) (fun x s => match x with | .exit _ => False | _ => Fin [(.tmp 10)] s _); unfold fb632 AS.init
  refine wp_sg (areg_bx rfl rfl fun l5 => areg_bx rfl (by simp [AS.ev, AS.put, o0A, AV.sz]) fun l6 => areg_bx rfl (by simp [AS.ev, AS.put, ozA, AV.sz]) fun l7 => areg_bx rfl (by simp [AS.ev, AS.put, keyA, AV.sz, bl, hs]) fun l8 => areg_end (by simp [push_cast]; exact rfl) ?_)
  refine wp_seq' (wp_seq' (wp_rg ?_))
  refine areg_run 1 (by simp [push_cast, o0A, hc, zk_len]; exact rfl) ?_
  refine areg_ca (by simp [AS.ev, AS.coe, AS.put] <;> exact rfl) cr2 ?_
  refine areg_end (by simp [push_cast]; exact rfl) ?_
  refine wp_cond_f (by simp [AS.ev]) (wp_skip' ?_)
  refine wp_seq' (wp_block' (wp_seq' (wp_seq' (wp_r (by simp [push_cast, o0A, hc, zk_len]; exact rfl) ?_))))
  refine wp_cond_t (by simp [AS.ev]) (wp_skip' ?_)
  refine wp_cond_t (by simp [AS.ev]) (wp_sg ?_)
  refine areg_run 1 (by simp [push_cast, hs]; exact rfl) ?_
  refine areg_bown (vs := [keyA seed]) (els := klA [seed]) rfl (bown1 _ hs) (by intro t ht; cases ht) fun V7 => ?_
  refine areg_end (by simp [push_cast]; exact rfl) (wp_ret' ?_)
  exact fin_row rfl rfl

/-! ### Digits -/
set_option maxHeartbeats 2000000 in
theorem digsR_call (n : Nat) : n < 100000 → PCall Go.Proofs.Tryd.prog 13 [.lit (un n)] (.val (.lit (tx (digs n)))) := by
  induction n using Nat.strongRecOn with
  | ind n ih =>
    intro hn
    have h643 := fc643_eq
    have m1 : (48 + n) % 18446744073709551616 = 48 + n := Nat.mod_eq_of_lt (by omega)
    have m2 : (48 + n % 10) % 18446744073709551616 = 48 + n % 10 := Nat.mod_eq_of_lt (by omega)
    have m3 : (48 + n % 10) % 256 = 48 + n % 10 := Nat.mod_eq_of_lt (by omega)
    have m4 : n / 10 % 18446744073709551616 = n / 10 := Nat.mod_eq_of_lt (by omega)
    have t1 : ∀ x, x < 10 → textA (.sl 1 [.lit (bn (48 + x))]) = some (tx [dig8 x]) := fun x hx => by
      rw [bl_oneA (48 + x) (by omega)]; exact textA_sl [dig8 x]
    rw [digs]
    refine PCall.of h643 rfl ?_; show AC.wp _ fb643 (AS.init [.lit (un n)] 1 20) (fun x s => match x with | .exit _ => False | _ => Fin [(.tmp 2)] s _); unfold fb643 AS.init
    refine wp_sr (by simp [push_cast]; exact rfl) ?_
    by_cases h10 : n < 10
    · have m5 : (48 + n) % 256 = 48 + n := Nat.mod_eq_of_lt (by omega)
      have t2 := t1 n (by omega)
      rw [dif_pos h10]
      refine wp_seq' (wp_seq' (wp_r (by simp [push_cast, h10]; exact rfl) (wp_cond_t rfl ?_)))
      refine wp_sr (by simp [push_cast, m1, m5, t2]; exact rfl) (wp_ret' ?_)
      exact fin_tmp rfl (by simp)
    · rw [dif_neg h10]
      have t2 := t1 (n % 10) (by omega)
      have c := ih (n / 10) (by omega) (by omega)
      have hl := digs_len (n / 10)
      refine wp_seq' (wp_seq' (wp_r (by simp [push_cast, h10]; exact rfl) (wp_cond_f rfl (wp_skip' ?_))))
      refine wp_sg ?_
      refine areg_run 2 (by simp [push_cast, m4]; exact rfl) ?_
      refine areg_cv (by simp [AS.ev, AS.coe, AS.put] <;> exact rfl) c ?_
      have hb : binVal .add (tx (digs (n / 10))) (tx [dig8 (n % 10)]) = some (tx (digs (n / 10) ++ [dig8 (n % 10)])) := bin_adds _ _ (by simp only [List.length_cons, List.length_nil]; omega)
      refine areg_end (by simp [push_cast, m2, m3, t2, hb]; exact rfl) (wp_ret' ?_)
      exact fin_tmp rfl (by simp)

/-! ### All keys that somebody knows -/
def allV (rs : List Rat) (ws : List WaitV) : List (List UInt8) := (rs.map fun r => [r.key, r.chain]).flatten ++ ws.map (·.key)
def alS2 (B W : List AV) (l1 : Nat × Nat) (y : Nat × List (List UInt8) × Value) : AS :=
  ⟨0, [.any, .ptr 1 l1 0 [], nilL, .own 38 y.2.2, .any, .lit (jn y.1)] ++ List.replicate 34 .any, [none, some (.box l1 529 (.st [528, 1] [.arr 66 B, .sl 65 W]))] ++ (List.replicate 38 none).set 36 (some (.row 23 y.2.2 32 (klA y.2.1) 0))⟩
def alS (B W : List AV) (l1 : Nat × Nat) (y : Nat × List (List UInt8) × Value) : AS :=
  ⟨0, [.any, .ptr 1 l1 0 [], nilL, .own 22 y.2.2, .lit (jn y.1)] ++ List.replicate 35 .any, [none, some (.box l1 529 (.st [528, 1] [.arr 66 B, .sl 65 W]))] ++ List.replicate 20 none ++ [some (.row 23 y.2.2 32 (klA y.2.1) 0)] ++ List.replicate 17 none⟩
set_option maxHeartbeats 32000000 in
theorem allK_call {rs : List Rat} {ws : List WaitV} (hr : rs.length = 8) (hrk : ∀ r ∈ rs, r.key.length = 32 ∧ r.chain.length = 32) (hw : ws.length < 1000) (hwk : ∀ w ∈ ws, w.key.length = 32 ∧ w.of_.length = 32) : PCall Go.Proofs.Tryd.prog 15 [keysA rs (ws.map waitA)] (.row 23 32 (klA (allV rs ws))) := by
  have h642 := fc642_eq
  obtain ⟨B, hB⟩ : ∃ B, B = rs.map ratA := ⟨_, rfl⟩
  obtain ⟨W, hW⟩ : ∃ W, W = ws.map waitA := ⟨_, rfl⟩
  have hBl : B.length = 8 := by rw [hB, List.length_map]; exact hr
  have hWl : W.length = ws.length := by rw [hW, List.length_map]
  unfold keysA
  rw [← hB, ← hW]
  refine PCall.of h642 rfl ?_; show AC.wp _ fb642 (AS.init [.st [528, 1] [.arr 66 B, .sl 65 W]] 1 40) (fun x s => match x with | .exit _ => False | _ => Fin [(.tmp 2)] s _); unfold fb642 AS.init
  refine wp_sg (areg_bx rfl (by simp [AS.ev, AS.put, AV.sz, hBl]) fun l1 => areg_end (by simp [push_cast]; exact rfl) ?_)
  refine wp_sr (by simp [push_cast]; exact rfl) ?_
  refine wp_seq' (wp_seq' (wp_r (by simp [push_cast]; exact rfl) ?_))
  refine wp_block' (wp_loop_m (alS B W l1) (fun y => 8 - y.1) (fun y => y.2.1 = allV (rs.take y.1) [] ∧ y.1 ≤ 8 ∧ y.2.1.length = 2 * y.1) (0, [], .slice none 0 0) ?_ ⟨by simp [allV], by simp, by simp⟩ ?_)
  · refine Le.trans (Le.nilRow (t := 3) (b := 22) rfl rfl 23 32) (Le.mk rfl (by simp [alS, leT]) ?_)
    simp [alS, leH, klA]
  · rintro ⟨i, acc, Va⟩ ⟨hI, hi, hl⟩
    simp only at hI hi hl ⊢
    unfold alS
    simp only
    have hal : (klA acc).length = 2 * i := by rw [klA_len]; exact hl
    by_cases hlt : i < 8
    · obtain ⟨r, hri⟩ : ∃ r, rs[i]? = some r := ⟨_, List.getElem?_eq_getElem (by omega)⟩
      obtain ⟨k1, k2⟩ := hrk r (List.mem_of_getElem? hri)
      have j1 : B[i]? = some (.st [1, 1, 32, 32] [.lit (.bool r.known), .lit (.bool r.open_), keyA r.key, keyA r.chain]) := by rw [hB, List.getElem?_map, hri]; rfl
      have j2 : ∀ h, B[i]'h = .st [1, 1, 32, 32] [.lit (.bool r.known), .lit (.bool r.open_), keyA r.key, keyA r.chain] := fun h => by rw [List.getElem?_eq_getElem h] at j1; exact Option.some.inj j1
      have q1 : i + 1 < 9223372036854775808 := by omega
      have e1 : ∀ n', 1 + (i * 66 + n') = 1 + i * 66 + n' := fun n' => by omega
      have htk : rs.take (i + 1) = rs.take i ++ [r] := by rw [List.take_add_one, hri]; rfl
      refine wp_seq' (wp_sr (by simp [push_cast, hlt]; exact rfl) ?_)
      refine wp_cond_t (by simp [AS.ev]) (wp_skip' ?_)
      refine wp_seq' (wp_block' (wp_rg ?_))
      refine areg_run 11 (by simp [push_cast, hBl, j1, j2, hlt, k1, k2, e1]; exact rfl) ?_
      refine areg_bsl (k := 32) (els := klA [r.key, r.chain]) (fill_ar rfl rfl rfl (by simp [AV.sz, AS.ev, AS.put, k1, bl_len]) (fill_ar rfl rfl rfl (by simp [AV.sz, AS.ev, AS.put, k2, bl_len]) rfl)) ?_
      refine areg_ap (b := 22) (V := Va) (ys := klA [r.key, r.chain]) rfl rfl (by simp [AS.ev, AS.put, AS.coe, klA, keyA]) (by rw [hal, klA_len]; simp [maxLen]; omega) (by rw [hal, klA_len]; simp; omega) (fun V3 => ?_)
      refine areg_end (by simp [push_cast]; exact rfl) ?_
      refine wp_r (by simp [push_cast, q1]; exact rfl) ?_
      refine Exists.intro (i + 1, acc ++ [r.key, r.chain], V3) ⟨⟨by rw [hI, htk]; simp [allV], by omega, by simp [hl]; omega⟩, by simp only; omega, Le.mk rfl (by simp [alS, leT]) ?_⟩
      simp [alS, leH, klA]
    · have hi8 : i = 8 := by omega
      subst hi8
      rw [List.take_of_length_le (by omega)] at hI
      refine wp_seq' (wp_sr (by simp [push_cast]; exact rfl) ?_)
      refine wp_cond_f (by simp [AS.ev]) (wp_exit' (if_hit rfl ?_))
      refine wp_seq' (wp_seq' (wp_r (by simp [push_cast]; exact rfl) ?_))
      have hal0 : allV rs ws = acc ++ ws.map (·.key) := by rw [hI]; simp [allV]
      refine wp_block' (wp_loop_m (alS2 B W l1) (fun y => ws.length - y.1) (fun y => y.2.1 ++ (ws.drop y.1).map (·.key) = allV rs ws ∧ y.1 ≤ ws.length ∧ y.2.1.length = 16 + y.1) (0, acc, Va) ?_ ⟨by rw [hal0]; rfl, by simp, by simp; omega⟩ ?_)
      · exact Le.mvR (A := [none, some (.box l1 529 (.st [528, 1] [.arr 66 B, .sl 65 W]))]) (R := List.replicate 20 none ++ [some (.row 23 Va 32 (klA acc) 0)] ++ List.replicate 17 none) (d := 20) (d' := 36) (m := 38) (Y := .row 23 Va 32 (klA acc) 0) rfl rfl rfl (by simp [alS2, leO])
      rintro ⟨j, acc2, Vb⟩ ⟨hJ, hj, hl2⟩
      simp only at hJ hj hl2 ⊢
      unfold alS2
      simp only
      have hal2 : (klA acc2).length = 16 + j := by rw [klA_len]; exact hl2
      by_cases hlt : j < ws.length
      · obtain ⟨u, hu⟩ : ∃ u, ws[j]? = some u := ⟨_, List.getElem?_eq_getElem hlt⟩
        obtain ⟨k1, k2⟩ := hwk u (List.mem_of_getElem? hu)
        have j1 : W[j]? = some (.st [32, 1, 32] [keyA u.of_, .lit (ji u.who), keyA u.key]) := by rw [hW, List.getElem?_map, hu]; rfl
        have j2 : ∀ h, W[j]'h = .st [32, 1, 32] [keyA u.of_, .lit (ji u.who), keyA u.key] := fun h => by rw [List.getElem?_eq_getElem h] at j1; exact Option.some.inj j1
        have q1 : j + 1 < 9223372036854775808 := by omega
        have hdr : ws.drop j = u :: ws.drop (j + 1) := by
          rw [List.drop_eq_getElem_cons hlt]
          rw [List.getElem?_eq_getElem hlt] at hu
          rw [Option.some.inj hu]
        refine wp_seq' (wp_sr (by simp [push_cast, hWl, hBl, hlt]; exact rfl) ?_)
        refine wp_cond_t (by simp [AS.ev]) (wp_skip' ?_)
        refine wp_seq' (wp_block' (wp_rg ?_))
        refine areg_run 7 (by simp [push_cast, hWl, hBl, j1, j2, hlt, k1, k2]; exact rfl) ?_
        refine areg_bsl (k := 32) (els := klA [u.key]) (fill_ar rfl rfl rfl (by simp [AV.sz, AS.ev, AS.put, k1, bl_len]) rfl) ?_
        refine areg_ap (b := 38) (V := Vb) (ys := klA [u.key]) rfl rfl (by simp [AS.ev, AS.put, AS.coe, klA, keyA]) (by rw [hal2, klA_len]; simp [maxLen]; omega) (by rw [hal2, klA_len]; simp; omega) (fun V3 => ?_)
        refine areg_end (by simp [push_cast]; exact rfl) ?_
        refine wp_r (by simp [push_cast, q1]; exact rfl) ?_
        refine Exists.intro (j + 1, acc2 ++ [u.key], V3) ⟨⟨by rw [← hJ, hdr]; simp, by omega, by simp [hl2]; omega⟩, by simp only; omega, Le.mk rfl (by simp [alS2, leT]) ?_⟩
        simp [alS2, leH, klA]
      · have hjn : j = ws.length := by omega
        subst hjn
        rw [List.drop_length, List.map_nil, List.append_nil] at hJ
        subst hJ
        refine wp_seq' (wp_sr (by simp [push_cast, hWl, hBl]; exact rfl) ?_)
        refine wp_cond_f (by simp [AS.ev]) (wp_exit' (if_hit rfl ?_))
        refine wp_sr (by simp [push_cast]; exact rfl) (wp_ret' ?_)
        exact fin_row rfl rfl
end Go.Cab

/- Ratchets compared. -/
-- TEXTS
-- KIT
namespace Go.Cab
open Go.RowKit
open Classical

def isBoolT (o : Option TypeDesc) : Bool := match o with | some .bool => true | _ => false
/-- The literals that a value of a type is, as a key. -/
def KLit (P : Program) (d : Nat) (t : TypeId) (v : AV) (l : List Lit) : Prop := v.isTup = false ∧ v.sz = P.cellsOf t ∧ ∀ (Imm : Nat → Nat → Prop) (w : World) (cs : List Value), R Imm w v cs → P.keyLits d t cs = some l
theorem mid_cut {α : Type} {pre c post : List α} {a n : Nat} (ha : pre.length = a) (hn : c.length = n) : ((pre ++ c ++ post).drop a).take n = c := by subst ha hn; simp [List.append_assoc]
theorem R.elemD {Imm : Nat → Nat → Prop} {w : World} {esz : Nat} {els : List AV} {cs : List Value} (h : R Imm w (.arr esz els) cs) (i : Nat) (f : AV) (hf : els[i]? = some f) : R Imm w f ((cs.drop (i * esz)).take esz) := by
  obtain ⟨pre, c, post, rfl, h1, h2, h3, _⟩ := R.elem h i f hf
  rw [mid_cut h1 h2]; exact h3
theorem R.fieldD {Imm : Nat → Nat → Prop} {w : World} {ns : List Nat} {fs : List AV} {cs : List Value} (h : R Imm w (.st ns fs) cs) (i n o : Nat) (f : AV) (hn : ns[i]? = some n) (hf : fs[i]? = some f) (ho : (ns.take i).sum = o) : R Imm w f ((cs.drop o).take n) := by
  obtain ⟨pre, c, post, rfl, h1, h2, h3, _⟩ := R.field h i n f hn hf
  rw [mid_cut (h1.trans ho) h2]; exact h3
theorem KLit.arr {P : Program} {d : Nat} {t e : TypeId} {n esz : Nat} {els : List AV} {ls : Nat → List Lit} (hu : P.underlying t = some (.array n e)) (hn : els.length = n) (hc : P.cellsOf t = n * esz) (he : P.cellsOf e = esz)
    (h : ∀ i v, els[i]? = some v → KLit P d e v (ls i)) : KLit P (d + 1) t (.arr esz els) ((List.range n).map ls).flatten := by
  refine ⟨rfl, by simp [AV.sz, hc, hn], fun Imm w cs hr => ?_⟩
  have hl := hr.len rfl
  unfold Program.keyLits
  simp only [hu]
  rw [if_pos (by rw [hl, hc]; simp [AV.sz, hn]), mapM_some (g := ls)]
  · rfl
  · intro i hi
    have hi' : i < n := by simpa using hi
    have hg : els[i]? = some els[i] := List.getElem?_eq_getElem (by omega)
    have := (h i _ hg).2.2 Imm w _ (hr.elemD i _ hg)
    rw [he]
    exact this
theorem KLit.bool {P : Program} {d : Nat} {t : TypeId} {b : Bool} (hu : isBoolT (P.underlying t) = true) (hc : P.cellsOf t = 1) : KLit P (d + 1) t (.lit (.bool b)) [.bool b] := by
  refine ⟨rfl, by simp [AV.sz, hc], fun Imm w cs hr => ?_⟩
  cases hr
  unfold Program.keyLits
  unfold isBoolT at hu
  split at hu
  · rename_i h; simp only [h]
  · cases hu
theorem KLit.key {d : Nat} {k : List UInt8} (hk : k.length = 32) : KLit Go.Proofs.Tryd.prog (d + 2) 23 (keyA k) ((List.range 32).map fun i => Lit.int .u8 (((k.getD i 0).toNat : Nat) : Int)) := by
  have hc : Go.Proofs.Tryd.prog.cellsOf 23 = 32 := by kernel_rfl
  refine ⟨rfl, by simp [keyA, AV.sz, bl_len, hk, hc], fun Imm w cs hr => ?_⟩
  have ex := R_bl hr
  rw [map_range, hk] at ex
  subst ex
  have lt : ∀ i, (k.getD i 0).toNat < 256 := fun i => (k.getD i 0).toNat_lt
  have hu : Go.Proofs.Tryd.prog.underlying 23 = some (.array 32 5) := by kernel_rfl
  have he : Go.Proofs.Tryd.prog.underlying 5 = some (.int .u8) := by kernel_rfl
  have h1 : Go.Proofs.Tryd.prog.cellsOf 5 = 1 := by kernel_rfl
  exact keyLits_row hu he hc h1 (fun i => (((k.getD i 0).toNat : Nat) : Int)) (fun i _ => wf_bn (lt i)) d
theorem KLit.eq {P : Program} {t : TypeId} {D : Nat} {v : AV} {l : List Lit} (h : KLit P D t v l) (hf : ∀ cs : List Value, cs.length = v.sz → (asVal v cs).formed P t = true) : EqAV P t v v true := fun Imm w cs cs' h1 h2 => by
  have e1 := h.2.2 Imm w cs h1
  have e2 := h.2.2 Imm w cs' h2
  exact ⟨D, D, l, l, hf _ (h1.len h.1), hf _ (h2.len h.1), e1, e2, by simp⟩

theorem four_fields {P : Program} {o : Option TypeDesc} {tk : TypeId} (h : (match o with | some (.struct fs) => (match fs.toList with | [a, b, c, d] => isBoolT (P.underlying a.type) && P.cellsOf a.type == 1 && a.type == b.type && c.type == tk && d.type == tk && a.offset == 0 && b.offset == 1 && c.offset == 2 && d.offset == 34 && fs.all (·.name != "_") | _ => false) | _ => false) = true) :
    ∃ (fs : Array Field) (a b c d : Field), o = some (.struct fs) ∧ fs.toList = [a, b, c, d] ∧ fs.all (·.name != "_") = true ∧ isBoolT (P.underlying a.type) = true ∧ P.cellsOf a.type = 1 ∧ b.type = a.type ∧ c.type = tk ∧ d.type = tk ∧ a.offset = 0 ∧ b.offset = 1 ∧ c.offset = 2 ∧ d.offset = 34 := by
  split at h
  · rename_i fs
    split at h
    · rename_i a b c d e
      simp only [Bool.and_eq_true, beq_iff_eq] at h
      exact ⟨fs, a, b, c, d, rfl, e, h.2, h.1.1.1.1.1.1.1.1.1, h.1.1.1.1.1.1.1.1.2, h.1.1.1.1.1.1.1.2.symm, h.1.1.1.1.1.1.2, h.1.1.1.1.1.2, h.1.1.1.1.2, h.1.1.1.2, h.1.1.2, h.1.2⟩
    · cases h
  · cases h
def litK (k : List UInt8) : List Lit := (List.range 32).map fun i => Lit.int .u8 (((k.getD i 0).toNat : Nat) : Int)
theorem KLit.rat {d : Nat} {a b : Bool} {k c : List UInt8} (hk : k.length = 32) (hc : c.length = 32) : KLit Go.Proofs.Tryd.prog (d + 3) 25 (.st [1, 1, 32, 32] [.lit (.bool a), .lit (.bool b), keyA k, keyA c]) ([.bool a] ++ ([.bool b] ++ (litK k ++ litK c))) := by
  obtain ⟨fs, f1, f2, f3, f4, hu, hl, hall, hb, h1, t2, t3, t4, o1, o2, o3, o4⟩ := four_fields (P := Go.Proofs.Tryd.prog) (o := Go.Proofs.Tryd.prog.underlying 25) (tk := 23) (by kernel_rfl)
  have hcr : Go.Proofs.Tryd.prog.cellsOf 25 = 66 := by kernel_rfl
  have hck : Go.Proofs.Tryd.prog.cellsOf 23 = 32 := by kernel_rfl
  refine ⟨rfl, by rw [hcr]; simp [AV.sz], fun Imm w cs hr => ?_⟩
  have hlen := hr.len rfl
  have r1 := hr.fieldD 0 1 0 _ rfl rfl (by simp)
  have r2 := hr.fieldD 1 1 1 _ rfl rfl (by simp)
  have r3 := hr.fieldD 2 32 2 _ rfl rfl (by simp)
  have r4 := hr.fieldD 3 32 34 _ rfl rfl (by simp)
  have k1 := (KLit.bool (d := d + 1) (b := a) hb h1).2.2 Imm w _ r1
  have k2 := (KLit.bool (d := d + 1) (b := b) hb h1).2.2 Imm w _ r2
  have k3 := (KLit.key (d := d) hk).2.2 Imm w _ r3
  have k4 := (KLit.key (d := d) hc).2.2 Imm w _ r4
  unfold Program.keyLits
  simp only [hu]
  rw [if_pos ⟨by rw [hlen, hcr]; simp [AV.sz], hall⟩, hl]
  simp only [List.mapM_cons, List.mapM_nil, t2, t3, t4, o1, o2, o3, o4, h1, hck, k1, k2, k3, k4]
  simp [litK]

/-- Eight ratchets. -/
def RatOk (v : AV) : Prop := ∃ (a b : Bool) (k c : List UInt8), k.length = 32 ∧ c.length = 32 ∧ v = .st [1, 1, 32, 32] [.lit (.bool a), .lit (.bool b), keyA k, keyA c]
theorem eq_rats {A : List AV} (hA : A.length = 8) (h : ∀ v ∈ A, RatOk v) : EqAV Go.Proofs.Tryd.prog 26 (.arr 66 A) (.arr 66 A) true := by
  have hu : Go.Proofs.Tryd.prog.underlying 26 = some (.array 8 25) := by kernel_rfl
  have hc : Go.Proofs.Tryd.prog.cellsOf 26 = 8 * 66 := by kernel_rfl
  have he : Go.Proofs.Tryd.prog.cellsOf 25 = 66 := by kernel_rfl
  have hx : ∀ i : Nat, ∃ l : List Lit, ∀ v, A[i]? = some v → KLit Go.Proofs.Tryd.prog 3 25 v l := fun i => by
    cases hv : A[i]? with
    | none => exact ⟨[], fun v h => by cases h⟩
    | some v =>
      obtain ⟨a, b, k, c, h1, h2, rfl⟩ := h v (List.mem_of_getElem? hv)
      exact ⟨_, fun v h => by obtain rfl := Option.some.inj h; exact KLit.rat (d := 0) h1 h2⟩
  have hl : ∀ (i : Nat) (v : AV), A[i]? = some v → KLit Go.Proofs.Tryd.prog 3 25 v ((hx i).choose) := fun i => (hx i).choose_spec
  refine (KLit.arr hu hA hc he (ls := fun i => (hx i).choose) hl).eq fun cs hcs => ?_
  simp only [AV.sz, hA] at hcs
  simp only [asVal, Value.formed, hu]
  simp [hc, hcs]
theorem r0A_ok : RatOk r0A := ⟨false, false, zk, zk, zk_len, zk_len, rfl⟩
end Go.Cab

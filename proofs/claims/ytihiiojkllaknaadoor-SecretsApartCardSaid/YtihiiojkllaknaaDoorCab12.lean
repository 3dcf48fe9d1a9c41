/- Part 12 of what the proof stands on: S22, S23, S24, S25, S26, S27, S28. -/
import Derived.Test.YtihiiojkllaknaaDoorCab11
set_option linter.unusedSimpArgs false
set_option linter.unnecessarySimpa false
set_option linter.unusedVariables false
set_option linter.unusedSectionVars false
/- Secrets: a wait acknowledged. -/
-- TEXTS
-- KIT
namespace Go.Cab
open Go.RowKit
open Classical
def fb629 : AC := (.seq (.reg [⟨(.some 2), .none, (.mov (.const (.bool .false))), [], .none⟩]) (.seq (.reg [⟨(.some 5), .none, (.mov (.tmp 0)), [], .none⟩, ⟨(.some 6), .none, (.nilc (.tmp 5)), [], .none⟩, ⟨(.some 7), .none, (.faddr 1 1 (.tmp 6)), [], .none⟩, ⟨(.some 8), .none, (.load .true 529 (.tmp 7)), [], .none⟩, ⟨(.some 9), .none, (.mov (.tmp 0)), [], .none⟩, ⟨(.some 10), .none, (.nilc (.tmp 9)), [], .none⟩, ⟨(.some 11), .none, (.faddr 563 4 (.tmp 10)), [], .none⟩, ⟨(.some 12), .none, (.faddr 5 5 (.tmp 11)), [], .none⟩, ⟨(.some 13), .none, (.load .true 32 (.tmp 12)), [], .none⟩, ⟨(.some 14), .none, (.mov (.tmp 0)), [], .none⟩, ⟨(.some 15), .none, (.nilc (.tmp 14)), [], .none⟩, ⟨(.some 16), .none, (.faddr 563 4 (.tmp 15)), [], .none⟩, ⟨(.some 17), .none, (.faddr 0 0 (.tmp 16)), [], .none⟩, ⟨(.some 18), .none, (.load .false 1 (.tmp 17)), [], .none⟩, ⟨(.some 19), .none, (.lcall 28 [(.tmp 8), (.tmp 13), (.tmp 18)]), [], .none⟩, ⟨(.some 3), .none, (.mov (.tmp 19)), [], .none⟩]) (.seq (.block 0 (.seq (.reg [⟨(.some 21), .none, (.mov (.tmp 0)), [], .none⟩, ⟨(.some 22), .none, (.icall 69 (.tmp 21) []), [], .none⟩, ⟨(.some 23), .none, (.un .not (.tmp 22)), [], .none⟩, ⟨(.some 24), .none, (.mov (.tmp 23)), [], .none⟩, ⟨(.some 25), (.some (24, .false)), (.mov (.tmp 3)), [], .none⟩, ⟨(.some 26), (.some (24, .false)), (.bin .lss (.tmp 25) (.const (jn 0))), [], .none⟩, ⟨(.some 27), (.some (24, .false)), (.mov (.tmp 26)), [], .none⟩, ⟨(.some 28), (.some (27, .true)), (.mov (.tmp 0)), [], .none⟩, ⟨(.some 29), (.some (27, .true)), (.nilc (.tmp 28)), [], .none⟩, ⟨(.some 30), (.some (27, .true)), (.faddr 705 6 (.tmp 29)), [], .none⟩, ⟨(.some 31), (.some (27, .true)), (.load .false 1 (.tmp 30)), [], .none⟩, ⟨(.some 32), (.some (27, .true)), (.len .false (.tmp 31)), [], .none⟩, ⟨(.some 33), (.some (27, .true)), (.bin .neq (.tmp 32) (.const (jn 1))), [], .none⟩, ⟨(.some 34), (.some (24, .false)), (.pick (.tmp 27) (.tmp 33) (.const (.bool .false))), [], .none⟩, ⟨(.some 35), .none, (.pick (.tmp 24) (.const (.bool .true)) (.tmp 34)), [], .none⟩, ⟨(.some 20), .none, (.mov (.tmp 35)), [], .none⟩]) (.cond (.tmp 20) (.seq (.reg [⟨(.some 2), .none, (.mov (.const (.bool .false))), [], .none⟩]) .ret) (.seq (.reg [⟨(.some 37), .none, (.mov (.tmp 3)), [], .none⟩, ⟨(.some 38), .none, (.bin .lss (.tmp 37) (.const (jn 0))), [], .none⟩, ⟨(.some 36), .none, (.mov (.tmp 38)), [], .none⟩]) (.cond (.tmp 36) (.seq (.reg [⟨(.some 39), .none, (.mov (.tmp 0)), [], .none⟩, ⟨(.some 40), .none, (.mov (.tmp 0)), [], .none⟩, ⟨(.some 41), .none, (.nilc (.tmp 40)), [], .none⟩, ⟨(.some 42), .none, (.faddr 705 6 (.tmp 41)), [], .none⟩, ⟨(.some 43), .none, (.load .false 1 (.tmp 42)), [], .none⟩, ⟨(.some 44), .none, (.iaddrS 32 (.tmp 43) (.const (jn 0))), [], .none⟩, ⟨(.some 45), .none, (.load .true 32 (.tmp 44)), [], .none⟩, ⟨(.some 46), .none, (.icall 70 (.tmp 39) [(.tmp 45)]), [], .none⟩]) (.seq (.reg [⟨(.some 2), .none, (.mov (.const (.bool .true))), [], .none⟩]) .ret)) .skip))))) (.seq (.reg [⟨(.some 47), .none, (.mov (.tmp 0)), [], .none⟩, ⟨(.some 48), .none, (.nilc (.tmp 47)), [], .none⟩, ⟨(.some 49), .none, (.faddr 1 1 (.tmp 48)), [], .none⟩, ⟨(.some 50), .none, (.faddr 528 1 (.tmp 49)), [], .none⟩, ⟨(.some 51), .none, (.load .false 1 (.tmp 50)), [], .none⟩, ⟨(.some 52), .none, (.mov (.tmp 3)), [], .none⟩, ⟨(.some 53), .none, (.iaddrS 65 (.tmp 51) (.tmp 52)), [], .none⟩, ⟨(.some 54), .none, (.faddr 33 2 (.tmp 53)), [], .none⟩, ⟨(.some 55), .none, (.load .true 32 (.tmp 54)), [], .none⟩, ⟨(.some 4), .none, (.alloc 32 (.arr 1 (List.replicate 32 (.lit (bn 0))))), [], .none⟩, ⟨.none, .none, (.store 32 (.tmp 4) (.tmp 55)), [], .none⟩]) (.seq (.reg [⟨(.some 56), .none, (.mov (.tmp 0)), [], .none⟩, ⟨(.some 57), .none, (.mov (.tmp 0)), [], .none⟩, ⟨(.some 58), .none, (.nilc (.tmp 57)), [], .none⟩, ⟨(.some 59), .none, (.faddr 1 1 (.tmp 58)), [], .none⟩, ⟨(.some 60), .none, (.faddr 528 1 (.tmp 59)), [], .none⟩, ⟨(.some 61), .none, (.load .false 1 (.tmp 60)), [], .none⟩, ⟨(.some 62), .none, (.mov (.tmp 3)), [], .none⟩, ⟨(.some 63), .none, (.mov (.tmp 3)), [], .none⟩, ⟨(.some 64), .none, (.bin .add (.tmp 63) (.const (jn 1))), [], .none⟩, ⟨(.some 65), .none, (.xc (.dir 72) [(.tmp 61), (.tmp 62), (.tmp 64)] [] []), [], .none⟩, ⟨(.some 66), .none, (.nilc (.tmp 56)), [], .none⟩, ⟨(.some 67), .none, (.faddr 1 1 (.tmp 66)), [], .none⟩, ⟨(.some 68), .none, (.faddr 528 1 (.tmp 67)), [], .none⟩, ⟨.none, .none, (.store 1 (.tmp 68) (.tmp 65)), [], .none⟩]) (.seq (.reg [⟨(.some 69), .none, (.mov (.tmp 0)), [], .none⟩, ⟨(.some 70), .none, (.load .true 32 (.tmp 4)), [], .none⟩, ⟨(.some 71), .none, (.icall 70 (.tmp 69) [(.tmp 70)]), [], .none⟩]) (.seq (.reg [⟨(.some 2), .none, (.mov (.const (.bool .true))), [], .none⟩]) .ret)))))))
def fc629 : FC := ⟨1, 72, [(.tmp 2)], fb629⟩
theorem fc629_eq : compF Go.Proofs.Tryd.prog 51 = some fc629 := by kernel_rfl

def stpV (ts : List Term) (x : StV) (a : Nat) (r : Rat) (s : List UInt8) : StV × List Term := (stepX x a r (twoV ts txRatchet [r.key, s]).1, (twoV ts txRatchet [r.key, s]).2)
def delX (x : StV) (i : Nat) : StV := { x with waits := x.waits.take i ++ x.waits.drop (i + 1) }
def keyAt (x : StV) (i : Nat) : List UInt8 := ((x.waits[i]?).map WaitV.key).getD zk
def ackV (ts : List Term) (x : StV) (a : Nat) (r : Rat) : Bool × StV × List Term :=
  if r.known then
    match waitI x.waits x.o.ofk x.o.author with
    | none => (match x.got with | [g] => (true, stpV ts x a r g) | _ => (false, x, ts))
    | some i => (true, stpV ts (delX x i) a r (keyAt x i))
  else (false, x, ts)
theorem idxQ_lt {α : Type} (p : α → Bool) : ∀ (l : List α) (j i : Nat), idxQ p l j = some i → i < j + l.length
  | [], _, _, h => by cases h
  | k :: ks, j, i, h => by
    rw [idxQ] at h
    split at h
    · cases h; simp only [List.length_cons]; omega
    · have := idxQ_lt p ks (j + 1) i h; simp only [List.length_cons]; omega
theorem idxV_lss (o : Option Nat) : binVal .lss (idxV o) (jn 0) = some (.bool o.isNone) := by
  cases o with
  | none => simp [idxV, binVal, jn]
  | some n => show binVal .lss (jn n) (jn 0) = _; simp [binVal, jn]
theorem StT.gcs {H : List (Option Blk)} {t : Tb} {S : Sb} {x : StV} {Vc V : Value} {ts : List Term} (h : StT H t S x Vc V ts) (Y Z Z' : Blk) (V' : Value) (ts' : List Term) (L : List (Option Blk)) : (tbOf (stB H S Y Z) t V' ts' ++ L).set S.c (some Z') = tbOf (stB H S Y Z') t V' ts' ++ L := by
  obtain ⟨a1, a2, a3⟩ := h.st.nc
  rw [List.set_append_left _ _ (by rw [stB_len]; exact h.st.lc)]
  unfold tbOf stB
  rw [List.set_comm _ _ a3.symm, List.set_comm _ _ a2.symm, List.set_comm _ _ a1.symm, List.set_set]
theorem tgt_delete (x y z : AV) : tgtA Go.Proofs.Tryd.prog (.dir 72) [x, y, z] = some (72, [x, y, z]) := by kernel_rfl

set_option maxHeartbeats 64000000 in
theorem ack_call {G : List (Option Blk)} {t : Tb} {S : Sb} {x : StV} {Vc V : Value} {ts : List Term} (hh : StT G t S x Vc V ts) (hn : ts.length + 20 < 90000) (ho : OpOk x.o) {a : Nat} (ha : AuOk x a) {r : Rat} (hr : x.rats[a]? = some r) (hrk : r.key.length = 32 ∧ r.chain.length = 32) (hg32 : ∀ g ∈ x.got, g.length = 32) (hgl : x.got.length < 9223372036854775808)
    (hw : ∀ w ∈ x.waits, w.of_.length = 32 ∧ w.key.length = 32) (hwl : x.waits.length < 9000) :
    XCall Go.Proofs.Tryd.prog 51 [.ptr S.b S.l 0 []] G fun r' H' => r' = .lit (.bool (ackV ts x a r).1) ∧ ∃ V' Vc', H' = tbOf (stOf G t S (ackV ts x a r).2.1 Vc') t V' (ackV ts x a r).2.2 := by
  have h629 := fc629_eq
  refine XCall.le ?_
  have hself := hh.self
  have G1 : ∀ Y Z V' ts', (tbOf (stB G S Y Z) t V' ts').length = G.length := fun Y Z V' ts' => stB_len _ _ _ _ _ _ _
  have g1 : ∀ Y Z V' ts' L k, (tbOf (stB G S Y Z) t V' ts' ++ L)[G.length + k]? = L[k]? := fun Y Z V' ts' L k => cat1 _ _ _ _ (G1 _ _ _ _)
  have g2 : ∀ Y Z V' ts' L k x, (tbOf (stB G S Y Z) t V' ts' ++ L).set (G.length + k) x = tbOf (stB G S Y Z) t V' ts' ++ L.set k x := fun Y Z V' ts' L k x => cat2 _ _ _ _ _ (G1 _ _ _ _)
  have gb := hh.gb
  have gc := hh.gc
  have gbs := hh.gbs
  have gcs := hh.gcs
  have kn := fun Vc V ts L => knownS_call (G := tbOf (stB G S (sbk t S x Vc) (swk x Vc)) t V ts ++ L) (gb _ _ _ _ _) ha hr
  have wc := wait_call (rs := x.rats) (ws := x.waits) ha.len hw (by omega) (k := x.o.ofk) ho.ofk x.o.author
  have hls := idxV_lss (waitI x.waits x.o.ofk x.o.author)
  have hst := fun (x1 : StV) (e1 : AuOk x1 a) (e2 : x1.rats[a]? = some r) (s : List UInt8) (hs : s.length = 32) => step_sc hh (x := x1) (ts := ts) (by omega) e1 e2 hrk.1 hrk.2 hs
  have hlt : ∀ i, waitI x.waits x.o.ofk x.o.author = some i → i < x.waits.length := fun i h => by have := idxQ_lt _ _ _ _ h; omega
  have hofk := ho.ofk
  have hA : (x.rats.map ratA).length = 8 := by rw [List.length_map]; exact ha.len
  have hgl' := klA_len x.got
  unfold ackV
  generalize hwi : waitI x.waits x.o.ofk x.o.author = wi at *
  refine XCall.of h629 rfl ?_; show AC.wp _ fb629 ⟨G.length, [.ptr S.b S.l 0 []] ++ List.replicate (72 - 1) .any, G ++ List.replicate 72 none⟩ (fun x s => match x with | .exit _ => False | _ => ∃ s1, Le s s1 ∧ FinX [(.tmp 2)] s1 _); unfold fb629
  rw [← hself]
  unfold stOf
  rw [stB_len]
  generalize hN : G.length = N at *
  refine wp_sr (by simp [push_cast]; exact rfl) ?_
  refine wp_sg ?_
  refine areg_run 14 (by simp [push_cast, gb, sbk, stA, opA, hA, hofk]; exact rfl) ?_
  refine areg_lc (vs := [keysA x.rats (x.waits.map waitA), keyA x.o.ofk, .lit (ji x.o.author)]) (by simp [AS.ev, AS.lend, AS.lendF, AS.put, AOp.ro, AS.blk, gc, swk, keysA, keyA]) rfl wc ?_
  refine areg_end (by simp [push_cast]; exact rfl) ?_
  refine wp_seq' (wp_block' (wp_sg ?_))
  refine areg_run 1 (by simp [push_cast]; exact rfl) ?_
  refine areg_xc (vs := [.ptr S.b S.l 0 []]) rfl (kn _ _ _ _) ⟨_, _, rfl, rfl⟩ ?_
  rintro r' H' ⟨rfl, rfl⟩
  cases hrk' : r.known with
  | false =>
    refine areg_end (by simp [push_cast]; exact rfl) ?_
    refine wp_cond_t (by simp [AS.ev]) (wp_sr (by simp [push_cast]; exact rfl) (wp_ret' ?_))
    exact ⟨_, Le.refl _, finX1 (v := .lit (.bool false)) (by simp [AS.seals, RVals, RVal, AS.ev, AS.coe]) (by simp) ⟨_, _, RelLe.refl _, by simp, HpLe.trim _ _, by simp, V, Vc, by simp; exact (hh.of_of x x Vc Vc V V ts ts).symm⟩⟩
  | true =>
    cases wi with
    | none =>
      by_cases hgl1 : x.got.length = 1
      · obtain ⟨g, hg⟩ := got_one hgl1
        have hgl2 : (klA x.got)[0]? = some (keyA g) := by rw [hg]; rfl
        have hgl3 : ∀ h, (klA x.got)[0]'h = keyA g := fun h => by rw [List.getElem?_eq_getElem h] at hgl2; exact Option.some.inj hgl2
        have hgs := hg32 g (by rw [hg]; simp)
        have st := hst x ha hr g hgs
        rw [hg]
        simp only
        refine areg_run 4 (by simp [push_cast, hls]; exact rfl) ?_
        refine areg_end (by simp [push_cast, gb, sbk, stA, hgl', hgl1]; exact rfl) ?_
        refine wp_cond_f (by simp [AS.ev]) (wp_sr (by simp [push_cast, hls]; exact rfl) ?_)
        refine wp_cond_t (by simp [AS.ev]) (wp_sg ?_)
        refine areg_run 7 (by simp [push_cast, gb, sbk, stA, hgl', hgl1, hgl2, hgl3, hgs]; exact rfl) ?_
        refine areg_xc (vs := [.ptr S.b S.l 0 [], keyA g]) rfl (st V Vc _) ⟨_, _, rfl, .slice none 0 0, .slice none 0 0, rfl⟩ ?_
        rintro r' H' ⟨rfl, V3, Vc3, rfl⟩
        refine areg_end (by simp [push_cast]; exact rfl) ?_
        refine wp_sr (by simp [push_cast]; exact rfl) (wp_ret' ?_)
        exact ⟨_, Le.refl _, finX1 (v := .lit (.bool true)) (by simp [AS.seals, RVals, RVal, AS.ev, AS.coe]) (by simp) ⟨_, _, RelLe.refl _, by simp, HpLe.trim _ _, by simp, V3, Vc3, by simp; exact (hh.of_of x _ Vc Vc3 V V3 ts _).symm⟩⟩
      · have hno : (match x.got with | [g] => (true, stpV ts x a r g) | _ => (false, x, ts)) = (false, x, ts) := by
          split
          · rename_i g e; rw [e] at hgl1; exact absurd rfl hgl1
          · rfl
        refine areg_run 4 (by simp [push_cast, hls]; exact rfl) ?_
        refine areg_end (by simp [push_cast, gb, sbk, stA, hgl', hgl1]; exact rfl) ?_
        refine wp_cond_t (by simp [AS.ev]) (wp_sr (by simp [push_cast]; exact rfl) (wp_ret' ?_))
        exact ⟨_, Le.refl _, finX1 (v := .lit (.bool false)) (by simp [AS.seals, RVals, RVal, AS.ev, AS.coe]) (by simp) ⟨_, _, RelLe.refl _, by simp, HpLe.trim _ _, by simp [hno], V, Vc, by simp [hno]; exact (hh.of_of x x Vc Vc V V ts ts).symm⟩⟩
    | some i =>
      have hil := hlt i rfl
      obtain ⟨w, hwi'⟩ : ∃ w, x.waits[i]? = some w := ⟨_, List.getElem?_eq_getElem hil⟩
      have hw32 := hw w (List.mem_of_getElem? hwi')
      have hka : keyAt x i = w.key := by unfold keyAt; rw [hwi']; rfl
      have hml : (x.waits.map waitA).length = x.waits.length := List.length_map _
      have j1 : (x.waits.map waitA)[i]? = some (.st [32, 1, 32] [keyA w.of_, .lit (ji w.who), keyA w.key]) := by rw [List.getElem?_map, hwi']; rfl
      have j2 : ∀ h, (x.waits.map waitA)[i]'h = .st [32, 1, 32] [keyA w.of_, .lit (ji w.who), keyA w.key] := fun h => by rw [List.getElem?_eq_getElem h] at j1; exact Option.some.inj j1
      have q1 : i + 1 < 9223372036854775808 := by omega
      have st := hst (delX x i) ⟨ha.au, ha.lt, ha.len⟩ hr (keyAt x i) (by rw [hka]; exact hw32.2)
      have dl := fun (V : Value) Vc ts L => delete_call (H := tbOf (stB G S (sbk t S x Vc) (swk x Vc)) t V ts ++ L) (c := S.c) (i := i) (j := i + 1) (gc _ _ _ _ _) (by omega) (by rw [hml]; omega)
      have hfin : (x.waits.map waitA).take i ++ (x.waits.map waitA).drop (i + 1) = (delX x i).waits.map waitA := by simp [delX, List.map_take, List.map_drop]
      rw [hka] at st
      have hiv : idxV (some i) = jn i := rfl
      refine areg_run 4 (by simp [push_cast, hls]; exact rfl) ?_
      refine areg_end (by simp [push_cast]; exact rfl) ?_
      refine wp_cond_f (by simp [AS.ev]) (wp_sr (by simp [push_cast, hls]; exact rfl) ?_)
      refine wp_cond_f (by simp [AS.ev]) (wp_skip' ?_)
      refine wp_sg ?_
      refine areg_run 9 (by simp [push_cast, gb, gc, sbk, stA, swk, hiv, hml, hil, j1, j2, hw32.1, hw32.2]; exact rfl) ?_
      refine areg_al' zk_eq.symm fun l4 => areg_end (by simp [push_cast, g1, g2, hw32.2]; exact rfl) ?_
      refine wp_sg ?_
      refine areg_run 9 (by simp [push_cast, gb, gc, sbk, stA, swk, hiv, q1]; exact rfl) ?_
      refine areg_xq (us := [.own S.c Vc, .lit (jn i), .lit (jn (i + 1))]) rfl (tgt_delete _ _ _) (dl _ _ _ _) ⟨_, _, .slice none 0 0, rfl, rfl⟩ (fun r hp' hK t' ht' => by cases ht') ?_
      rintro r' H' ⟨V2, rfl, rfl⟩
      rw [gcs, hfin]
      refine areg_end (by simp [push_cast, gb, gbs, sbk, stA]; exact rfl) ?_
      refine wp_sg ?_
      refine areg_run 2 (by simp [push_cast, g1, hw32.2]; exact rfl) ?_
      refine areg_xc (vs := [.ptr S.b S.l 0 [], keyA w.key]) rfl (st V V2 _) ⟨_, _, rfl, .slice none 0 0, .slice none 0 0, rfl⟩ ?_
      rintro r' H' ⟨rfl, V3, Vc3, rfl⟩
      refine areg_end (by simp [push_cast]; exact rfl) ?_
      refine wp_sr (by simp [push_cast]; exact rfl) (wp_ret' ?_)
      exact ⟨_, Le.refl _, finX1 (v := .lit (.bool true)) (by simp [AS.seals, RVals, RVal, AS.ev, AS.coe]) (by simp) ⟨_, _, RelLe.refl _, by simp, HpLe.trim _ _, by simp, V3, Vc3, by simp [hka]; exact (hh.of_of x _ Vc Vc3 V V3 ts _).symm⟩⟩
end Go.Cab

/- Secrets: what an operation does, whatever it is. -/
-- TEXTS
-- KIT
namespace Go.Cab
open Go.RowKit
open Classical

def ratLost : Rat := ⟨false, true, zk, zk⟩
def lostX (x : StV) (a : Nat) : StV := rX x (x.rats.set a ratLost)
set_option maxHeartbeats 16000000 in
/-- Not for oneself: the author's ratchet is lost. -/
theorem do_lost {G : List (Option Blk)} {t : Tb} {S : Sb} {x : StV} {Vc V : Value} {ts : List Term} (hh : StT G t S x Vc V ts) (ho : OpOk x.o) (hf : forV x.o x.me = false) {a : Nat} (ha : AuOk x a) :
    XCall Go.Proofs.Tryd.prog 30 [.ptr S.b S.l 0 []] G fun r' H' => r' = .lit (.bool true) ∧ ∃ V' Vc', H' = tbOf (stOf G t S (lostX x a) Vc') t V' ts := by
  have h613 := fc613_eq
  refine XCall.le ?_
  have hself := hh.self
  have gb := hh.gb
  have gbs := hh.gbs
  have ac := fun Vc V ts L => author_call (G := tbOf (stB G S (sbk t S x Vc) (swk x Vc)) t V ts ++ L) (gb _ _ _ _ _) ha
  have isf := isFor_call ho x.me
  rw [hf] at isf
  obtain ⟨h1, h2, h3⟩ := ha
  have hA : (x.rats.map ratA).length = 8 := by rw [List.length_map]; exact h3
  have hwA : a < (x.rats.map ratA).length := by omega
  obtain ⟨r0, hr0⟩ : ∃ r0, x.rats[a]? = some r0 := ⟨_, List.getElem?_eq_getElem (by omega)⟩
  have hg : (x.rats.map ratA)[a]? = some (ratA r0) := by rw [List.getElem?_map, hr0]; rfl
  have hg4 : ∀ h, (x.rats.map ratA)[a]'h = ratA r0 := fun h => by rw [List.getElem?_eq_getElem h] at hg; exact Option.some.inj hg
  have e1 : ∀ n, 1 + (a * 66 + n) = 1 + a * 66 + n := fun n => by omega
  have hfin : (x.rats.map ratA).set a (.st [1, 1, 32, 32] [.lit (.bool false), .lit (.bool true), keyA zk, keyA zk]) = (lostX x a).rats.map ratA := by simp [lostX, rX, List.map_set, ratA, ratLost]
  refine XCall.of h613 rfl ?_; show AC.wp _ fb613 ⟨G.length, [.ptr S.b S.l 0 []] ++ List.replicate (28 - 1) .any, G ++ List.replicate 28 none⟩ (fun x s => match x with | .exit _ => False | _ => ∃ s1, Le s s1 ∧ FinX [(.tmp 2)] s1 _); unfold fb613
  rw [← hself]
  unfold stOf
  rw [stB_len]
  generalize hN : G.length = N at *
  refine wp_sr (by simp [push_cast]; exact rfl) ?_
  refine wp_seq' (wp_seq' (wp_rg ?_))
  refine areg_run 8 (by simp [push_cast, gb, sbk, stA, opA]; exact rfl) ?_
  refine areg_cv (by simp [AS.ev, AS.coe, AS.put] <;> exact rfl) isf ?_
  refine areg_end (by simp [push_cast]; exact rfl) ?_
  refine wp_cond_t (by simp [AS.ev]) (wp_sg ?_)
  refine areg_run 1 (by simp [push_cast]; exact rfl) ?_
  refine areg_xq (us := [.ptr S.b S.l 0 []]) rfl (tgt_author _) (ac _ _ _ _) ⟨_, _, rfl, rfl⟩ (fun r hp' hK t' ht' => by cases ht') ?_
  rintro r' H' ⟨rfl, rfl⟩
  refine areg_bd (z' := .st [1, 1, 32, 32] [.lit (.bool false), .lit (.bool true), keyA zk, keyA zk]) (by rw [zk_eq]; exact fill_st rfl rfl rfl rfl rfl rfl) ?_
  refine areg_end (by simp [push_cast, autP, gb, gbs, sbk, stA, hA, hwA, hg, hg4, h2, e1, zk_len, ratA]; exact rfl) ?_
  refine wp_sr (by simp [push_cast]; exact rfl) (wp_ret' ?_)
  refine ⟨_, Le.refl _, finX1 (v := .lit (.bool true)) (by simp [AS.seals, RVals, RVal, AS.ev, AS.coe]) (by simp) ⟨_, _, RelLe.refl _, by simp, HpLe.trim _ _, rfl, V, Vc, ?_⟩⟩
  refine Eq.trans ?_ (hh.of_of x (lostX x a) Vc Vc V V ts ts).symm
  unfold stOf sbk stA
  rw [← hfin]
  rfl

/-- The author isn't known. -/
theorem update_un {G : List (Option Blk)} {t : Tb} {S : Sb} {x : StV} {Vc V : Value} {ts : List Term} (hh : StT G t S x Vc V ts) {a : Nat} {r : Rat} (ha : AuOk x a) (hr : x.rats[a]? = some r) (hkn : r.known = false) :
    XCall Go.Proofs.Tryd.prog 50 [.ptr S.b S.l 0 []] G fun r' H' => r' = .lit (.bool false) ∧ ∃ V' Vc', H' = tbOf (stOf G t S x Vc') t V' ts := by
  have h627 := fc627_eq
  refine XCall.le ?_
  have hself := hh.self
  have gb := hh.gb
  have kn := fun Vc V ts L => knownS_call (G := tbOf (stB G S (sbk t S x Vc) (swk x Vc)) t V ts ++ L) (gb _ _ _ _ _) ha hr
  rw [hkn] at kn
  refine XCall.of h627 rfl ?_; show AC.wp _ fb627 ⟨G.length, [.ptr S.b S.l 0 []] ++ List.replicate (9 - 1) .any, G ++ List.replicate 9 none⟩ (fun x s => match x with | .exit _ => False | _ => ∃ s1, Le s s1 ∧ FinX [(.tmp 2)] s1 _); unfold fb627
  rw [← hself]
  unfold stOf
  rw [stB_len]
  generalize hN : G.length = N at *
  refine wp_sr (by simp [push_cast]; exact rfl) (wp_sg ?_)
  refine areg_run 1 (by simp [push_cast]; exact rfl) ?_
  refine areg_xc (vs := [.ptr S.b S.l 0 []]) rfl (kn _ _ _ _) ⟨_, _, rfl, rfl⟩ ?_
  rintro r' H' ⟨rfl, rfl⟩
  refine areg_end (by simp [push_cast]; exact rfl) (wp_ret' ?_)
  exact ⟨_, Le.refl _, finX1 (v := .lit (.bool false)) (by simp [AS.seals, RVals, RVal, AS.ev, AS.coe]) (by simp) ⟨_, _, RelLe.refl _, by simp, HpLe.trim _ _, rfl, V, Vc, (hh.of_of x x Vc Vc V V ts ts).symm⟩⟩

/-! ### All of it -/
def seedV (ts : List Term) (x : StV) (a : Nat) (r : Rat) : Bool × StV × List Term := match x.got with
  | [seed] => (true, seededV ts x a r seed)
  | _ => (false, x, ts)
def whoN (o : OpV) : Nat := (o.who.getD 0 0).toNat
def doV (ts : List Term) (x : StV) (a : Nat) (r : Rat) : Bool × StV × List Term :=
  if forV x.o x.me = false then (true, lostX x a, ts)
  else if x.o.kind = 1 then seedV ts (rX x (crR x.rats x.o.who)) a ratN
  else if x.o.kind = 2 then ((entG (decide (x.me = (whoN x.o : Int))) x a r).isSome, addV ts x a r (whoN x.o))
  else if x.o.kind = 3 ∨ x.o.kind = 4 then if r.known then seedV ts x a r else (false, x, ts)
  else if x.o.kind = 5 then ackV ts x a r
  else if x.o.kind = 6 then ((entG (addsV x.of_ x.me) x a r).isSome, addAckV ts x a r)
  else (r.known, x, ts)
structure DoOk (ts : List Term) (x : StV) (a : Nat) (r : Rat) : Prop where
  n : ts.length + 100 < 90000
  o : OpOk x.o
  of_ : OpOk x.of_
  right : rightV x.o = true
  au : AuOk x a
  hr : x.rats[a]? = some r
  rk : r.key.length = 32 ∧ r.chain.length = 32
  g32 : ∀ g ∈ x.got, g.length = 32
  gl : x.got.length < 9223372036854775808
  w : ∀ w ∈ x.waits, w.of_.length = 32 ∧ w.key.length = 32
  wl : x.waits.length < 9000
  id : x.id.length = 32
theorem right_parts {o : OpV} (h : rightV o = true) : (1 ≤ o.kind ∧ o.kind ≤ 7) ∧ memB o.author = true ∧ whoV o = true ∧ boxesV o = true := by
  unfold rightV c1V at h
  simp only [Bool.and_eq_true, Bool.not_eq_true', decide_eq_false_iff_not, not_or] at h
  obtain ⟨⟨⟨⟨h1, _, h2, h3⟩, _⟩, _⟩, h4, h5⟩ := h
  exact ⟨by omega, by simpa using h1, h4, h5⟩
theorem who_mem {o : OpV} (h : whoV o = true) : ∀ w ∈ o.who, memB w = true := by
  unfold whoV at h
  split at h
  · cases h
  · rename_i hc
    simp only [Bool.or_eq_true, not_or, List.any_eq_true, Bool.not_eq_true', not_exists, not_and] at hc
    intro w hw
    have := hc.2 w hw
    simpa using this
theorem who_one {o : OpV} (h : whoV o = true) (hk : o.kind = 2 ∨ o.kind = 3) : ∃ n : Nat, o.who = [(n : Int)] ∧ n < 8 ∧ whoN o = n ∧ (n : Int) ≠ o.author := by
  have hm := who_mem h
  unfold whoV at h
  split at h
  · cases h
  · rw [if_neg (by omega)] at h
    simp only [decide_eq_true_eq] at h
    obtain ⟨h1, h2⟩ := h
    match hw : o.who, h1 with
    | [w], _ =>
      have := hm w (by rw [hw]; simp)
      unfold memB at this
      simp at this
      rw [hw] at h2
      have h2' : w ≠ o.author := h2
      obtain ⟨n, rfl⟩ : ∃ n : Nat, w = (n : Int) := ⟨w.toNat, by omega⟩
      exact ⟨n, rfl, by omega, by unfold whoN; rw [hw]; rfl, h2'⟩
theorem who_author {o : OpV} (h : whoV o = true) (hk : o.kind = 1) : o.author ∈ o.who := by
  unfold whoV at h
  split at h
  · cases h
  · obtain ⟨x, hx, e⟩ := List.any_eq_true.1 h
    have e' : o.author = x := by simpa using e
    rw [e']; exact hx
theorem boxes_parts {o : OpV} (h : boxesV o = true) : o.boxes.length ≤ 8 ∧ ∀ b ∈ o.boxes, memB b.to = true ∧ b.to ≠ o.author := by
  unfold boxesV at h
  simp only [Bool.and_eq_true, decide_eq_true_eq, Bool.not_eq_true', List.any_eq_false] at h
  obtain ⟨⟨h1, _⟩, h3⟩ := h
  refine ⟨h1, fun b hb => ?_⟩
  have := h3 b hb
  unfold badBox at this
  simp only [Bool.or_eq_true, not_or, Bool.not_eq_true', decide_eq_true_eq] at this
  exact ⟨by simpa using this.1.1, this.1.2⟩
/-- The author among those who are created. -/
theorem crR_get : ∀ (ws : List Int) (rs : List Rat) (a : Nat), a < rs.length → (rs[a]? = some ratN ∨ (a : Int) ∈ ws) → (∀ w ∈ ws, memB w = true) → (crR rs ws)[a]? = some ratN
  | [], rs, a, _, h, _ => by
    rcases h with h | h
    · exact h
    · cases h
  | w :: ws, rs, a, hl, h, hm => by
    rw [crR, List.foldl_cons, ← crR]
    refine crR_get ws _ a (by simpa using hl) ?_ fun w' hw' => hm w' (List.mem_cons_of_mem _ hw')
    by_cases e : w.toNat = a
    · left; rw [e, List.getElem?_set_self hl]
    · rcases h with h | h
      · left; rw [List.getElem?_set_ne e]; exact h
      · rcases List.mem_cons.1 h with h | h
        · exact absurd (by rw [← h]; rfl) e
        · exact .inr h
theorem DoOk.sd {ts : List Term} {x : StV} {a : Nat} {r : Rat} {rs : List Rat} (h : DoOk ts x a r) (ha : AuOk (rX x rs) a) {q : Rat} (hq : rs[a]? = some q) (hqk : q.key.length = 32 ∧ q.chain.length = 32) {seed : List UInt8} (hg : x.got = [seed]) : SdOk ts (rX x rs) a q seed := by
  obtain ⟨_, _, _, p4⟩ := right_parts h.right
  obtain ⟨b1, b2⟩ := boxes_parts p4
  have := h.n; have := h.wl
  exact ⟨by show ts.length + x.o.boxes.length + 20 < 90000; omega, ha, hq, hqk.1, hqk.2, hg, h.g32 seed (by rw [hg]; simp), h.id, by show x.waits.length + x.o.boxes.length < 10000; omega, fun b hb => (b2 b hb).1, fun b hb => (h.o.bok b hb).pub⟩
theorem seed_gen {H : List (Option Blk)} {t : Tb} {S : Sb} {x0 : StV} {Vc0 V0 : Value} {ts0 ts : List Term} (hh : StT H t S x0 Vc0 V0 ts0) {x : StV} {a : Nat} {r q : Rat} {rs : List Rat} (h : DoOk ts x a r) (ha : AuOk (rX x rs) a) (hq : rs[a]? = some q) (hqk : q.key.length = 32 ∧ q.chain.length = 32) :
    SC Go.Proofs.Tryd.prog 67 [.ptr S.b S.l 0 []] H t S (rX x rs) ts (.lit (.bool (seedV ts (rX x rs) a q).1)) (seedV ts (rX x rs) a q).2.1 (seedV ts (rX x rs) a q).2.2 := by
  have e : (rX x rs).got = x.got := rfl
  by_cases hg1 : x.got.length = 1
  · obtain ⟨g, hg⟩ := got_one hg1
    have : seedV ts (rX x rs) a q = (true, seededV ts (rX x rs) a q g) := by unfold seedV; rw [e, hg]
    rw [this]
    exact seeded_sc hh (h.sd ha hq hqk hg)
  · have : seedV ts (rX x rs) a q = (false, rX x rs, ts) := by
      unfold seedV
      split
      · rename_i g he; rw [e] at he; rw [he] at hg1; exact absurd rfl hg1
      · rfl
    rw [this]
    exact SC.of hh fun H V Vc hh => seeded_none hh hg1 h.gl
theorem do_all {t : Tb} {x : StV} {ts : List Term} {a : Nat} {r : Rat} (h : DoOk ts x a r) {H : List (Option Blk)} {V Vc : Value} {S : Sb} (hh : StT H t S x Vc V ts) :
    XCall Go.Proofs.Tryd.prog 30 [.ptr S.b S.l 0 []] H fun r' H' => r' = .lit (.bool (doV ts x a r).1) ∧ ∃ V' Vc', H' = tbOf (stOf H t S (doV ts x a r).2.1 Vc') t V' (doV ts x a r).2.2 := by
  obtain ⟨p1, p2, p3, p4⟩ := right_parts h.right
  have hx : rX x x.rats = x := rfl
  unfold doV
  split
  · rename_i hf
    exact do_lost hh h.o hf h.au
  rename_i hf
  have hf : forV x.o x.me = true := by simpa using hf
  split
  · rename_i hk
    have ha1 : AuOk (rX x (crR x.rats x.o.who)) a := ⟨h.au.au, h.au.lt, by show (crR x.rats x.o.who).length = 8; rw [crR_len]; exact h.au.len⟩
    have hq : (crR x.rats x.o.who)[a]? = some ratN := crR_get _ _ _ (by rw [h.au.len]; exact h.au.lt) (.inr (by have := who_author p3 hk; rw [h.au.au] at this; exact this)) (who_mem p3)
    exact do_call hh h.o hf (n := 1) hk (f := 48) rfl (by kernel_rfl) fun H V Vc hh => create_gen hh (seed_gen hh h ha1 hq ⟨rfl, rfl⟩) h.o.who (who_mem p3) h.au.len
  split
  · rename_i hk
    obtain ⟨n, w1, w2, w3, w4⟩ := who_one p3 (.inl hk)
    rw [w3]
    exact do_call hh h.o hf (n := 2) hk (f := 49) rfl (by kernel_rfl) fun H V Vc hh => add_call hh (by have := h.n; omega) h.au h.hr h.rk h.g32 h.gl h.id h.wl w1 w2 (fun e => w4 (by rw [h.au.au, e]))
  split
  · rename_i hk
    have key : ∀ H V Vc, StT H t S x Vc V ts → XCall Go.Proofs.Tryd.prog 50 [.ptr S.b S.l 0 []] H fun r' H' => r' = .lit (.bool (if r.known then seedV ts x a r else (false, x, ts)).1) ∧ ∃ V' Vc', H' = tbOf (stOf H t S (if r.known then seedV ts x a r else (false, x, ts)).2.1 Vc') t V' (if r.known then seedV ts x a r else (false, x, ts)).2.2 := fun H V Vc hh => by
      split
      · rename_i hkn
        exact update_gen hh h.au h.hr (seed_gen hh h (rs := x.rats) h.au h.hr h.rk) hkn
      · rename_i hkn
        exact update_un hh h.au h.hr (by simpa using hkn)
    rcases hk with hk | hk
    · exact do_call hh h.o hf (n := 3) hk (f := 50) rfl (by kernel_rfl) key
    · exact do_call hh h.o hf (n := 4) hk (f := 50) rfl (by kernel_rfl) key
  split
  · rename_i hk
    exact do_call hh h.o hf (n := 5) hk (f := 51) rfl (by kernel_rfl) fun H V Vc hh => ack_call hh (by have := h.n; omega) h.o h.au h.hr h.rk h.g32 h.gl h.w h.wl
  split
  · rename_i hk
    exact do_call hh h.o hf (n := 6) hk (f := 52) rfl (by kernel_rfl) fun H V Vc hh => addAck_call hh (by have := h.n; omega) h.of_ h.au h.hr h.rk h.g32 h.gl
  · exact do_call hh h.o hf (n := 7) (by omega) (f := 53) rfl (by kernel_rfl) fun H V Vc hh => say_call hh h.au h.hr
end Go.Cab

/- Secrets, plain: made again it is the same; other members' ratchets. -/
-- TEXTS
-- KIT
namespace Go.Cab
open Classical

/-! ### Made again, on a table that has it all -/
theorem put_again {ts us : List Term} {x : Term} (h : putT ts x <+: us) : putT us x = us ∧ nameK (putN us x) = nameK (putN ts x) :=
  ⟨((Nm.put ts x).mono h).putT, ((Nm.put ts x).mono h).putN⟩
theorem two_pre (ts : List Term) (s : List UInt8) (ks : List (List UInt8)) : ts <+: (twoV ts s ks).2 := (put_pre _ _).trans (put_pre _ _)
theorem two_again {ts us : List Term} {s : List UInt8} {ks : List (List UInt8)} (h : (twoV ts s ks).2 <+: us) : twoV us s ks = ((twoV ts s ks).1, us) := by
  unfold twoV at h ⊢
  simp only at h ⊢
  obtain ⟨a1, a2⟩ := put_again ((put_pre _ _).trans h)
  obtain ⟨b1, b2⟩ := put_again h
  rw [a1, a2, b1, b2]
theorem two_lens (ts : List Term) (s : List UInt8) (ks : List (List UInt8)) : (twoV ts s ks).1.1.length = 32 ∧ (twoV ts s ks).1.2.length = 32 ∧ (twoV ts s ks).2.length ≤ ts.length + 2 := by
  refine ⟨nameK_len _, nameK_len _, ?_⟩
  unfold twoV
  simp only
  have h1 := putT_len ts ⟨2, s ++ [47, 49], ks⟩
  have h2 := putT_len (putT ts ⟨2, s ++ [47, 49], ks⟩) ⟨2, s ++ [47, 50], ks⟩
  omega
theorem hsh_pre (ts : List Term) (r : Rat) (s : List UInt8) : ts <+: (hshV ts r s).2 := (put_pre _ _).trans (two_pre _ _ _)
theorem hsh_again {ts us : List Term} {r : Rat} {s : List UInt8} (h : (hshV ts r s).2 <+: us) : hshV us r s = ((hshV ts r s).1, us) := by
  unfold hshV at h ⊢
  obtain ⟨a1, a2⟩ := put_again ((two_pre _ _ _).trans h)
  rw [a1, a2, two_again h]
theorem seedW_pre (id seed : List UInt8) : ∀ (bs : List BoxV) (ts : List Term) (ws : List WaitV), ts <+: (seedW id seed ts ws bs).2
  | [], ts, ws => List.prefix_refl _
  | b :: bs, ts, ws => (put_pre _ _).trans (seedW_pre id seed bs _ _)
theorem seedW_again (id id' seed : List UInt8) : ∀ (bs : List BoxV) (ts us : List Term) (ws ws' : List WaitV), (seedW id seed ts ws bs).2 <+: us → (seedW id' seed us ws' bs).2 = us
  | [], ts, us, ws, ws', _ => rfl
  | b :: bs, ts, us, ws, ws', h => by
    rw [seedW] at h ⊢
    obtain ⟨a1, a2⟩ := put_again ((seedW_pre id seed bs _ _).trans h)
    rw [a1]
    exact seedW_again id id' seed bs _ us _ _ h

/-- The same, with another name and check. -/
def reX (x : StV) (id c : List UInt8) : StV := { x with id := id, o := { x.o with check := c } }

/-- What came of it. -/
structure OutS (x : StV) (a : Nat) (n : Nat) (x' : StV) (ts' : List Term) : Prop where
  o : x'.o = x.o
  me : x'.me = x.me
  au : AuOk x' a
  r : ∃ r', x'.rats[a]? = some r' ∧ r'.key.length = 32 ∧ r'.chain.length = 32
  n : ts'.length ≤ n + 20
/-- No other member's ratchet is turned. -/
def Rest (x : StV) (a : Nat) (x' : StV) : Prop := ∀ i, i ≠ a → x'.rats[i]? = x.rats[i]?
theorem rest_step (x : StV) (a : Nat) (r : Rat) (n : List UInt8 × List UInt8) : Rest x a (stepX x a r n) := fun i hi => by
  show (x.rats.set a _)[i]? = _
  rw [List.getElem?_set_ne (Ne.symm hi)]
theorem Rest.trans {x y z : StV} {a : Nat} (h : Rest x a y) (k : Rest y a z) : Rest x a z := fun i hi => by rw [k i hi, h i hi]
theorem OutS.step {x y : StV} {a n : Nat} (ho : y.o = x.o) (hm : y.me = x.me) (ha : AuOk y a) (r : Rat) {k : List UInt8 × List UInt8} (k1 : k.1.length = 32) (k2 : k.2.length = 32) {ts' : List Term} (hn : ts'.length ≤ n + 20) : OutS x a n (stepX y a r k) ts' :=
  ⟨ho, hm, (stepX_ok ha r k).1, ⟨_, (stepX_ok ha r k).2, k2, k1⟩, hn⟩

/-! #### of a seed -/
theorem seeded_rest (ts : List Term) (x : StV) (a : Nat) (r : Rat) (seed : List UInt8) : Rest x a (seededV ts x a r seed).1 := rest_step (wX x _) a r _
theorem seeded_out {ts : List Term} {x : StV} {a : Nat} (ha : AuOk x a) (r : Rat) (seed : List UInt8) (hb : x.o.boxes.length ≤ 8) : OutS x a ts.length (seededV ts x a r seed).1 (seededV ts x a r seed).2 := by
  unfold seededV
  simp only
  have h1 := (seedW_len x.id seed x.o.boxes ts x.waits).1
  generalize seedW x.id seed ts x.waits x.o.boxes = w at *
  have h2 := putT_len w.2 (senT seed)
  obtain ⟨k1, k2, k3⟩ := two_lens (putT w.2 (senT seed)) txRatchet [r.key, nameK (putN w.2 (senT seed))]
  have hlen : (twoV (putT w.2 (senT seed)) txRatchet [r.key, nameK (putN w.2 (senT seed))]).2.length ≤ ts.length + 20 := by omega
  exact OutS.step (x := x) (y := wX x w.1) rfl rfl ⟨ha.au, ha.lt, ha.len⟩ r k1 k2 hlen
theorem seeded_again {ts us : List Term} {x : StV} {a : Nat} {r : Rat} {seed : List UInt8} (h : (seededV ts x a r seed).2 <+: us) (id c : List UInt8) : (seededV us (reX x id c) a r seed).2 = us ∧ (seededV us (reX x id c) a r seed).1.rats = (seededV ts x a r seed).1.rats := by
  unfold seededV at h ⊢
  simp only at h ⊢
  have e1 : (seedW (reX x id c).id seed us (reX x id c).waits (reX x id c).o.boxes).2 = us := seedW_again x.id id seed x.o.boxes ts us x.waits x.waits ((put_pre _ _).trans ((two_pre _ _ _).trans h))
  rw [e1]
  obtain ⟨a1, a2⟩ := put_again ((two_pre _ _ _).trans h)
  rw [a1, a2, two_again h]
  exact ⟨rfl, rfl⟩
theorem seed_out {ts : List Term} {x x' : StV} {a : Nat} (ha : AuOk x a) {r : Rat} (hb : x.o.boxes.length ≤ 8) {ts' : List Term} (h : seedV ts x a r = (true, x', ts')) : OutS x a ts.length x' ts' ∧ Rest x a x' ∧ ∀ us, ts' <+: us → ∀ id c, ∃ y', seedV us (reX x id c) a r = (true, y', us) ∧ y'.rats = x'.rats := by
  unfold seedV at h
  split at h <;> try (cases h; done)
  rename_i seed hg
  simp only [Prod.mk.injEq, true_and] at h
  have h1 := seeded_out (ts := ts) ha r seed hb
  have h2 := seeded_rest ts x a r seed
  have h3 := fun us (hp : (seededV ts x a r seed).2 <+: us) => seeded_again hp
  rw [h] at h1 h2 h3
  refine ⟨h1, h2, fun us hp id c => ?_⟩
  obtain ⟨k1, k2⟩ := h3 us hp id c
  have hg' : (reX x id c).got = [seed] := hg
  refine ⟨(seededV us (reX x id c) a r seed).1, ?_, k2⟩
  unfold seedV
  rw [hg']
  exact Prod.ext rfl (Prod.ext rfl k1)

/-! #### of what may be given -/
theorem entG_re {b : Bool} {x : StV} {a : Nat} {r : Rat} (id c : List UInt8) : entG b (reX x id c) a r = (entG b x a r).map fun y => (reX y.1 id c, y.2) := by
  unfold entG
  have e : (reX x id c).got = x.got := rfl
  rw [e]
  split
  · split <;> rfl
  · split <;> rfl
theorem entG_rest {b : Bool} {x : StV} {a : Nat} {r : Rat} {y : StV × Rat} (h : entG b x a r = some y) : Rest x a y.1 ∧ y.1.o = x.o ∧ y.1.me = x.me := by
  unfold entG at h
  split at h
  · split at h <;> try (cases h; done)
    cases h
    refine ⟨fun i hi => ?_, rfl, rfl⟩
    show (x.rats.set a _)[i]? = _
    rw [List.getElem?_set_ne (Ne.symm hi)]
  · split at h <;> try (cases h; done)
    cases h; exact ⟨fun i _ => rfl, rfl, rfl⟩
theorem knX_re (x : StV) (n : Nat) (id c : List UInt8) : knX (reX x id c) n = reX (knX x n) id c := by
  unfold knX
  have e : (reX x id c).rats = x.rats := rfl
  rw [e]
  split
  · split <;> rfl
  · rfl
theorem knX_rest {x : StV} {n : Nat} (i : Nat) : (knX x n).rats[i]? = x.rats[i]? ∨ (i = n ∧ ∃ q, x.rats[i]? = some q ∧ (knX x n).rats[i]? = some ⟨true, q.open_, q.key, q.chain⟩) := by
  unfold knX
  split
  · rename_i q hq
    split
    · by_cases e : n = i
      · subst e
        refine .inr ⟨rfl, q, hq, ?_⟩
        show (x.rats.set n _)[n]? = _
        rw [List.getElem?_set_self (List.getElem?_eq_some_iff.1 hq).1]
      · left
        show (x.rats.set n _)[i]? = _
        rw [List.getElem?_set_ne e]
    · exact .inl rfl
  · exact .inl rfl
theorem addAck_out {ts : List Term} {x x' : StV} {a : Nat} (ha : AuOk x a) {r : Rat} (hr : x.rats[a]? = some r) (hrk : r.key.length = 32 ∧ r.chain.length = 32) (hg32 : ∀ g ∈ x.got, g.length = 32) {ts' : List Term} (h0 : (entG (addsV x.of_ x.me) x a r).isSome = true) (h : addAckV ts x a r = (x', ts')) :
    OutS x a ts.length x' ts' ∧ Rest x a x' ∧ ∀ us, ts' <+: us → ∀ id c, (entG (addsV (reX x id c).of_ (reX x id c).me) (reX x id c) a r).isSome = true ∧ ∃ y', addAckV us (reX x id c) a r = (y', us) ∧ y'.rats = x'.rats := by
  obtain ⟨⟨x1, r1⟩, he⟩ := Option.isSome_iff_exists.1 h0
  obtain ⟨k1, k2, k3, k4, _⟩ := entG_ok ha hr hrk hg32 he
  obtain ⟨g1, g2, g3⟩ := entG_rest he
  have hre : ∀ id c, entG (addsV (reX x id c).of_ (reX x id c).me) (reX x id c) a r = some (reX x1 id c, r1) := fun id c => by
    show entG (addsV x.of_ x.me) (reX x id c) a r = _
    rw [entG_re, he]; rfl
  have hv : addAckV ts x a r = stepH ts x1 a r1 txAdd := by unfold addAckV; rw [he]
  rw [hv, stepH_eq] at h
  obtain ⟨v1, v2, v3⟩ := hshV_len ts r1 txAdd
  have ag := fun us (hp : (hshV ts r1 txAdd).2 <+: us) => hsh_again hp
  generalize hshV ts r1 txAdd = w at *
  obtain ⟨rfl, rfl⟩ := Prod.mk.inj h
  refine ⟨OutS.step g2 g3 k1 r1 v1 v2 (by omega), g1.trans (rest_step _ _ _ _), fun us hp id c => ⟨by rw [hre]; rfl, (stepX (reX x1 id c) a r1 w.1), ?_, rfl⟩⟩
  unfold addAckV
  rw [hre]
  show stepH us (reX x1 id c) a r1 txAdd = _
  rw [stepH_eq, ag us hp]
theorem add_out {ts : List Term} {x x' : StV} {a n : Nat} (ha : AuOk x a) {r : Rat} (hr : x.rats[a]? = some r) (hrk : r.key.length = 32 ∧ r.chain.length = 32) (hg32 : ∀ g ∈ x.got, g.length = 32) (hna : n ≠ a) {ts' : List Term} (h0 : (entG (decide (x.me = (n : Int))) x a r).isSome = true) (h : addV ts x a r n = (x', ts')) :
    OutS x a ts.length x' ts' ∧ (∀ i, i ≠ a → x'.rats[i]? = x.rats[i]? ∨ (i = n ∧ ∃ q, x.rats[i]? = some q ∧ x'.rats[i]? = some ⟨true, q.open_, q.key, q.chain⟩)) ∧
      ∀ us, ts' <+: us → ∀ id c, (entG (decide ((reX x id c).me = (n : Int))) (reX x id c) a r).isSome = true ∧ ∃ y', addV us (reX x id c) a r n = (y', us) ∧ y'.rats = x'.rats := by
  obtain ⟨⟨x1, r1⟩, he⟩ := Option.isSome_iff_exists.1 h0
  obtain ⟨k1, k2, k3, k4, _⟩ := entG_ok ha hr hrk hg32 he
  obtain ⟨g1, g2, g3⟩ := entG_rest he
  obtain ⟨m1, m2, _, _⟩ := knX_ok k1 k2 hna
  have mo : (knX x1 n).o = x1.o ∧ (knX x1 n).me = x1.me := by
    unfold knX
    split
    · split <;> exact ⟨rfl, rfl⟩
    · exact ⟨rfl, rfl⟩
  have hre : ∀ id c, entG (decide ((reX x id c).me = (n : Int))) (reX x id c) a r = some (reX x1 id c, r1) := fun id c => by
    show entG (decide (x.me = (n : Int))) (reX x id c) a r = _
    rw [entG_re, he]; rfl
  have hv : addV ts x a r n = addTl ts (knX x1 n) a r1 n := by unfold addV; rw [he]
  rw [hv] at h
  unfold addTl at h
  simp only at h
  rw [stepH_eq] at h
  obtain ⟨v1, v2, v3⟩ := hshV_len ts r1 txWelcome
  have ag := fun us (hp : (hshV ts r1 txWelcome).2 <+: us) => hsh_again hp
  obtain ⟨w1, w2, w3⟩ := hshV_len (hshV ts r1 txWelcome).2 (nextR r1 (hshV ts r1 txWelcome).1) txAdd
  have ag2 := fun us (hp : (hshV (hshV ts r1 txWelcome).2 (nextR r1 (hshV ts r1 txWelcome).1) txAdd).2 <+: us) => hsh_again hp
  have pr2 := hsh_pre (hshV ts r1 txWelcome).2 (nextR r1 (hshV ts r1 txWelcome).1) txAdd
  generalize hshV (hshV ts r1 txWelcome).2 (nextR r1 (hshV ts r1 txWelcome).1) txAdd = w at *
  generalize hshV ts r1 txWelcome = v at *
  obtain ⟨rfl, rfl⟩ := Prod.mk.inj h
  obtain ⟨n1, n2⟩ := stepX_ok m1 r1 v.1
  refine ⟨OutS.step (x := x) (y := awaitX (stepX (knX x1 n) a r1 v.1) (n : Int) v.1.1) (by show (knX x1 n).o = x.o; rw [mo.1, g2]) (by show (knX x1 n).me = x.me; rw [mo.2, g3]) ⟨n1.au, n1.lt, n1.len⟩ _ w1 w2 (by omega), fun i hi => ?_, fun us hp id c => ⟨by rw [hre]; rfl, ?_⟩⟩
  · have e1 : (stepX (awaitX (stepX (knX x1 n) a r1 v.1) (n : Int) v.1.1) a (nextR r1 v.1) w.1).rats[i]? = (knX x1 n).rats[i]? := by
      rw [rest_step _ _ _ _ i hi]
      exact rest_step (knX x1 n) a r1 v.1 i hi
    rw [e1, ← g1 i hi]
    exact knX_rest i
  · refine ⟨stepX (awaitX (stepX (knX (reX x1 id c) n) a r1 v.1) (n : Int) v.1.1) a (nextR r1 v.1) w.1, ?_, ?_⟩
    · unfold addV
      rw [hre]
      show addTl us (knX (reX x1 id c) n) a r1 n = _
      unfold addTl
      simp only
      rw [ag us (pr2.trans hp)]
      simp only
      rw [stepH_eq, ag2 us hp]
    · rw [knX_re]; rfl

/-! #### of a wait -/
theorem step_out {ts : List Term} {x y x' : StV} {a : Nat} (ha : AuOk y a) {r : Rat} {s : List UInt8} (ho : y.o = x.o) (hm : y.me = x.me) (hry : y.rats = x.rats) {ts' : List Term} (h : stpV ts y a r s = (x', ts')) :
    OutS x a ts.length x' ts' ∧ Rest x a x' ∧ ∀ us, ts' <+: us → ∀ id c, ∃ y', stpV us (reX y id c) a r s = (y', us) ∧ y'.rats = x'.rats := by
  unfold stpV at h
  obtain ⟨k1, k2, k3⟩ := two_lens ts txRatchet [r.key, s]
  have ag := fun us (hp : (twoV ts txRatchet [r.key, s]).2 <+: us) => two_again hp
  generalize hw : twoV ts txRatchet [r.key, s] = w at *
  obtain ⟨rfl, rfl⟩ := Prod.mk.inj h
  refine ⟨OutS.step ho hm ha r k1 k2 (by omega), fun i hi => by rw [rest_step _ _ _ _ i hi, hry], fun us hp id c => ⟨stepX (reX y id c) a r w.1, ?_, rfl⟩⟩
  unfold stpV
  rw [ag us hp]
theorem ack_out {ts : List Term} {x x' : StV} {a : Nat} (ha : AuOk x a) {r : Rat} {ts' : List Term} (h : ackV ts x a r = (true, x', ts')) :
    OutS x a ts.length x' ts' ∧ Rest x a x' ∧ ∀ us, ts' <+: us → ∀ id c, ∃ y', ackV us (reX x id c) a r = (true, y', us) ∧ y'.rats = x'.rats := by
  unfold ackV at h
  have e1 : ∀ id c, (reX x id c).waits = x.waits := fun _ _ => rfl
  have e2 : ∀ id c, (reX x id c).o.ofk = x.o.ofk := fun _ _ => rfl
  have e3 : ∀ id c, (reX x id c).o.author = x.o.author := fun _ _ => rfl
  have e4 : ∀ id c, (reX x id c).got = x.got := fun _ _ => rfl
  split at h <;> try (cases h; done)
  rename_i hkn
  split at h
  · rename_i hwi
    split at h <;> try (cases h; done)
    rename_i g hg
    obtain ⟨h1, h2, h3⟩ := step_out (x := x) (y := x) ha rfl rfl rfl (Prod.mk.inj h).2
    refine ⟨h1, h2, fun us hp id c => ?_⟩
    obtain ⟨y', k1, k2⟩ := h3 us hp id c
    refine ⟨y', ?_, k2⟩
    unfold ackV
    rw [if_pos hkn, e1, e2, e3, hwi]
    simp only
    rw [e4, hg]
    simp only
    rw [k1]
  · rename_i i hwi
    obtain ⟨h1, h2, h3⟩ := step_out (x := x) (y := delX x i) ⟨ha.au, ha.lt, ha.len⟩ rfl rfl rfl (Prod.mk.inj h).2
    refine ⟨h1, h2, fun us hp id c => ?_⟩
    obtain ⟨y', k1, k2⟩ := h3 us hp id c
    refine ⟨y', ?_, k2⟩
    unfold ackV
    rw [if_pos hkn, e1, e2, e3, hwi]
    simp only
    rw [show delX (reX x id c) i = reX (delX x i) id c from rfl, show keyAt (reX x id c) i = keyAt x i from rfl, k1]

/-! ### All -/
theorem do_out {ts : List Term} {x x' : StV} {a : Nat} {r : Rat} (h : DoOk ts x a r) {ts' : List Term} (hd : doV ts x a r = (true, x', ts')) :
    OutS x a ts.length x' ts' ∧ (x.o.kind ≠ 1 → ∀ i, i ≠ a → x'.rats[i]? = x.rats[i]? ∨ (x.o.kind = 2 ∧ x.o.who = [(i : Int)] ∧ ∃ q, x.rats[i]? = some q ∧ x'.rats[i]? = some ⟨true, q.open_, q.key, q.chain⟩)) ∧
      ∀ us, ts' <+: us → ∀ id c, ∃ y', doV us (reX x id c) a r = (true, y', us) ∧ y'.rats = x'.rats := by
  obtain ⟨p1, p2, p3, p4⟩ := right_parts h.right
  obtain ⟨b1, b2⟩ := boxes_parts p4
  have hau := h.au
  have q1 : ∀ id c, forV (reX x id c).o (reX x id c).me = forV x.o x.me := fun _ _ => rfl
  have q2 : ∀ id c, (reX x id c).o.kind = x.o.kind := fun _ _ => rfl
  have q3 : ∀ id c, whoN (reX x id c).o = whoN x.o := fun _ _ => rfl
  unfold doV at hd
  split at hd
  · rename_i hf
    simp only [Prod.mk.injEq, true_and] at hd
    obtain ⟨rfl, rfl⟩ := hd
    refine ⟨⟨rfl, rfl, ⟨hau.au, hau.lt, by simp [lostX, rX, hau.len]⟩, ⟨ratLost, ?_, rfl, rfl⟩, by omega⟩, fun _ i hi => .inl ?_, fun us _ id c => ⟨lostX (reX x id c) a, ?_, rfl⟩⟩
    · show (x.rats.set a ratLost)[a]? = _
      rw [List.getElem?_set_self (by rw [hau.len]; exact hau.lt)]
    · show (x.rats.set a ratLost)[i]? = _
      rw [List.getElem?_set_ne (Ne.symm hi)]
    · unfold doV
      rw [q1, if_pos hf]
  rename_i hf
  split at hd
  · rename_i hk
    have ha1 : AuOk (rX x (crR x.rats x.o.who)) a := ⟨hau.au, hau.lt, by show (crR x.rats x.o.who).length = 8; rw [crR_len]; exact hau.len⟩
    obtain ⟨h1, _, h3⟩ := seed_out ha1 (x := rX x (crR x.rats x.o.who)) b1 hd
    refine ⟨⟨h1.o, h1.me, h1.au, h1.r, h1.n⟩, fun hc => absurd hk hc, fun us hp id c => ?_⟩
    obtain ⟨y', k1, k2⟩ := h3 us hp id c
    refine ⟨y', ?_, k2⟩
    unfold doV
    rw [q1, if_neg hf, q2, if_pos hk]
    exact k1
  rename_i hk1
  split at hd
  · rename_i hk
    obtain ⟨n, w1, w2, w3, w4⟩ := who_one p3 (.inl hk)
    rw [w3] at hd
    obtain ⟨hd1, hd2⟩ := Prod.mk.inj hd
    obtain ⟨h1, h2, h3⟩ := add_out hau h.hr h.rk h.g32 (fun e => w4 (by rw [hau.au, e])) hd1 hd2
    refine ⟨h1, fun _ i hi => (h2 i hi).imp id fun ⟨e, g⟩ => ⟨hk, by rw [w1, e], g⟩, fun us hp id c => ?_⟩
    obtain ⟨k0, y', k1, k2⟩ := h3 us hp id c
    refine ⟨y', ?_, k2⟩
    unfold doV
    rw [q1, if_neg hf, q2, if_neg hk1, if_pos hk, q3, w3, k0, k1]
  rename_i hk2
  split at hd
  · rename_i hk
    split at hd <;> try (cases hd; done)
    rename_i hkn
    obtain ⟨h1, h2, h3⟩ := seed_out hau b1 hd
    refine ⟨h1, fun _ i hi => .inl (h2 i hi), fun us hp id c => ?_⟩
    obtain ⟨y', k1, k2⟩ := h3 us hp id c
    refine ⟨y', ?_, k2⟩
    unfold doV
    rw [q1, if_neg hf, q2, if_neg hk1, if_neg hk2, if_pos hk, if_pos hkn, k1]
  rename_i hk34
  split at hd
  · rename_i hk
    obtain ⟨h1, h2, h3⟩ := ack_out hau hd
    refine ⟨h1, fun _ i hi => .inl (h2 i hi), fun us hp id c => ?_⟩
    obtain ⟨y', k1, k2⟩ := h3 us hp id c
    refine ⟨y', ?_, k2⟩
    unfold doV
    rw [q1, if_neg hf, q2, if_neg hk1, if_neg hk2, if_neg hk34, if_pos hk, k1]
  rename_i hk5
  split at hd
  · rename_i hk
    obtain ⟨hd1, hd2⟩ := Prod.mk.inj hd
    obtain ⟨h1, h2, h3⟩ := addAck_out hau h.hr h.rk h.g32 hd1 hd2
    refine ⟨h1, fun _ i hi => .inl (h2 i hi), fun us hp id c => ?_⟩
    obtain ⟨k0, y', k1, k2⟩ := h3 us hp id c
    refine ⟨y', ?_, k2⟩
    unfold doV
    rw [q1, if_neg hf, q2, if_neg hk1, if_neg hk2, if_neg hk34, if_neg hk5, if_pos hk, k0, k1]
  · rename_i hk6
    simp only [Prod.mk.injEq] at hd
    obtain ⟨hkn, rfl, rfl⟩ := hd
    refine ⟨⟨rfl, rfl, hau, ⟨r, h.hr, h.rk⟩, by omega⟩, fun _ i hi => .inl rfl, fun us hp id c => ⟨reX x id c, ?_, rfl⟩⟩
    unfold doV
    rw [q1, if_neg hf, q2, if_neg hk1, if_neg hk2, if_neg hk34, if_neg hk5, if_neg hk6, hkn]
end Go.Cab

/- Secrets: begin, Check and Apply: what isn't let in, what isn't known, what has no check. -/
-- TEXTS
-- KIT
namespace Go.Cab
open Go.RowKit
open Classical

/-- What begin asks of every state. -/
structure BgW (x : StV) : Prop where
  o : OpOk x.o
  of_ : OpOk x.of_
  bl : ∀ b ∈ x.o.boxes, b.body.length < 9223372036854775808
  rl : x.rats.length = 8
  id : x.id.length = 32
  wl : x.waits.length < 10000
theorem BgW.ok {x : StV} (h : BgW x) (hr : rightV x.o = true) (hm : memB x.me = true) : BgOk x := ⟨h.o, h.of_, h.bl, hr, hm, h.rl, h.id, h.wl⟩
def errA (e : Nat) : AV := .tup [.lit (.pointer none), .lit (jn e)]
set_option maxHeartbeats 32000000 in
/-- Not let in. -/
theorem begin_arg {H : List (Option Blk)} {t : Tb} {V : Value} {ts : List Term} (hh : TbOk H t V ts) {x : StV} (h : BgW x) (hno : ¬ (rightV x.o = true ∧ memB x.me = true)) :
    XCall Go.Proofs.Tryd.prog 19 (begA t x) H fun r' H' => r' = errA 1 ∧ ∃ V', H' = tbOf H t V' ts := by
  have h612 := fc612_eq
  refine XCall.le ?_
  have hself := hh.self
  have G1 : ∀ V' ts', (tbOf H t V' ts').length = H.length := fun V' ts' => tbOf_len _ _ _ _
  have g1 : ∀ V' ts' L k, (tbOf H t V' ts' ++ L)[H.length + k]? = L[k]? := fun V' ts' L k => cat1 _ _ _ _ (G1 _ _)
  have g2 : ∀ V' ts' L k x, (tbOf H t V' ts' ++ L).set (H.length + k) x = tbOf H t V' ts' ++ L.set k x := fun V' ts' L k x => cat2 _ _ _ _ _ (G1 _ _)
  have cr := right_call h.o h.bl
  have hid := h.id
  have hA : (x.rats.map ratA).length = 8 := by rw [List.length_map]; exact h.rl
  have z1 := opA_sz h.o
  have z2 := opA_sz h.of_
  have hm1 : binVal .lss (ji x.me) (jn 0) = some (.bool (decide (x.me < 0))) := by simp [binVal, ji, jn]
  have hm2 : binVal .geq (ji x.me) (jn 8) = some (.bool (decide (8 ≤ x.me))) := by simp [binVal, ji, jn]
  have hmm : memB x.me = (!decide (x.me < 0) && !decide (8 ≤ x.me)) := by
    unfold memB
    rw [Bool.eq_iff_iff]
    simp
  rw [hmm] at hno
  unfold begA keysA
  generalize rightV x.o = rt at *
  generalize decide (x.me < 0) = m1 at *
  generalize decide (8 ≤ x.me) = m2 at *
  refine XCall.of h612 rfl ?_; show AC.wp _ fb612 ⟨H.length, [freeI t.b t.l, .st [528, 1] [.arr 66 (x.rats.map ratA), .sl 65 (x.waits.map waitA)], .lit (ji x.me), keyA x.id, opA x.o, opA x.of_, .sl 32 (klA x.got)] ++ List.replicate (45 - 7) .any, H ++ List.replicate 45 none⟩ (fun x s => match x with | .exit _ => False | _ => ∃ s1, Le s s1 ∧ FinX [(.tmp 14), (.tmp 15)] s1 _); unfold fb612
  rw [← hself]
  rw [tbOf_len]
  generalize hN : H.length = N at *
  have fin : ∀ (s : AS) (R : List (Option Blk)), s.ev (.tmp 14) = .lit (.pointer none) → s.ev (.tmp 15) = .lit (jn 1) → s.hp = tbOf H t V ts ++ R → ∃ s1, Le s s1 ∧ FinX [RV.tmp 14, RV.tmp 15] s1 fun r' H' => ∃ r1 A, RelLe r' r1 ∧ r1 ≠ .any ∧ HpLe H' A ∧ r1 = errA 1 ∧ ∃ V', A = tbOf (tbOf H t V ts) t V' ts := fun s R e1 e2 e3 =>
    ⟨s, Le.refl _, [], errA 1, ⟨_, rfl, by simp [AS.seals, RVals, RVal, e1, e2, AS.coe, errA], by simp [errA]⟩, errA 1, _, RelLe.refl _, by simp [errA], by rw [show (s.seals []).hp = s.hp from rfl, e3]; exact HpLe.trim _ _, rfl, V, (hh.of_of _ _ _ _).symm⟩
  refine wp_sg (areg_bx rfl (by simp [AS.ev, AS.put, AV.sz, hA]) fun l8 => areg_bx rfl (by simp [AS.ev, AS.put, keyA, AV.sz, bl, hid]) fun l10 => areg_bx rfl (by simp only [AS.ev, AS.put]; exact z1) fun l11 => areg_bx rfl (by simp only [AS.ev, AS.put]; exact z2) fun l12 => areg_end (by simp [push_cast, g2]; exact rfl) ?_)
  refine wp_seq' (wp_seq' (wp_rg ?_))
  refine areg_run 1 (by simp [push_cast, g1, opA]; exact rfl) ?_
  refine areg_ca (by simp [AS.ev, AS.coe, AS.put] <;> exact rfl) cr ?_
  cases rt with
  | false =>
    refine areg_end (by simp [push_cast, hm1, hm2]; exact rfl) ?_
    refine wp_cond_t (by simp [AS.ev]) (wp_sr (by simp [push_cast]; exact rfl) (wp_ret' ?_))
    exact fin _ _ rfl rfl rfl
  | true =>
    cases m1 with
    | true =>
      refine areg_end (by simp [push_cast, hm1, hm2]; exact rfl) ?_
      refine wp_cond_t (by simp [AS.ev]) (wp_sr (by simp [push_cast]; exact rfl) (wp_ret' ?_))
      exact fin _ _ rfl rfl rfl
    | false =>
      cases m2 with
      | true =>
        refine areg_end (by simp [push_cast, hm1, hm2]; exact rfl) ?_
        refine wp_cond_t (by simp [AS.ev]) (wp_sr (by simp [push_cast]; exact rfl) (wp_ret' ?_))
        exact fin _ _ rfl rfl rfl
      | false => exact absurd ⟨rfl, rfl⟩ hno

set_option maxHeartbeats 32000000 in
/-- Something isn't known. -/
theorem begin_keys {H : List (Option Blk)} {t : Tb} {V : Value} {ts : List Term} (hh : TbOk H t V ts) {x x' : StV} {ts' : List Term} (h : BgOk x)
    (hdo : ∀ H V Vc S, StT H t S x Vc V ts → XCall Go.Proofs.Tryd.prog 30 [.ptr S.b S.l 0 []] H fun r' H' => r' = .lit (.bool false) ∧ ∃ V' Vc', H' = tbOf (stOf H t S x' Vc') t V' ts') :
    XCall Go.Proofs.Tryd.prog 19 (begA t x) H fun r' H' => r' = errA 18 ∧ ∃ V', H' = tbOf H t V' ts' := by
  have h612 := fc612_eq
  refine XCall.le ?_
  have hself := hh.self
  have G1 : ∀ V' ts', (tbOf H t V' ts').length = H.length := fun V' ts' => tbOf_len _ _ _ _
  have g1 : ∀ V' ts' L k, (tbOf H t V' ts' ++ L)[H.length + k]? = L[k]? := fun V' ts' L k => cat1 _ _ _ _ (G1 _ _)
  have g2 : ∀ V' ts' L k x, (tbOf H t V' ts' ++ L).set (H.length + k) x = tbOf H t V' ts' ++ L.set k x := fun V' ts' L k x => cat2 _ _ _ _ _ (G1 _ _)
  have cr := right_call h.o h.bl
  rw [h.right] at cr
  have cw := cloneW_row (x.waits.map waitA) (by rw [List.length_map]; have := h.wl; omega)
  have hme := h.me
  have hid := h.id
  have hA : (x.rats.map ratA).length = 8 := by rw [List.length_map]; exact h.rl
  have z1 := opA_sz h.o
  have z2 := opA_sz h.of_
  obtain ⟨n, hn⟩ : ∃ n : Nat, x.me = (n : Int) := ⟨x.me.toNat, by unfold memB at hme; simp at hme; omega⟩
  have hn8 : n < 8 := by unfold memB at hme; simp at hme; omega
  unfold begA keysA
  have hm1 : binVal .lss (ji x.me) (jn 0) = some (.bool false) := by rw [hn]; simp [binVal, ji, jn]
  have hm2 : binVal .geq (ji x.me) (jn 8) = some (.bool false) := by rw [hn]; simp [binVal, ji, jn]; omega
  refine XCall.of h612 rfl ?_; show AC.wp _ fb612 ⟨H.length, [freeI t.b t.l, .st [528, 1] [.arr 66 (x.rats.map ratA), .sl 65 (x.waits.map waitA)], .lit (ji x.me), keyA x.id, opA x.o, opA x.of_, .sl 32 (klA x.got)] ++ List.replicate (45 - 7) .any, H ++ List.replicate 45 none⟩ (fun x s => match x with | .exit _ => False | _ => ∃ s1, Le s s1 ∧ FinX [(.tmp 14), (.tmp 15)] s1 _); unfold fb612
  rw [← hself]
  rw [tbOf_len]
  generalize hN : H.length = N at *
  refine wp_sg (areg_bx rfl (by simp [AS.ev, AS.put, AV.sz, hA]) fun l8 => areg_bx rfl (by simp [AS.ev, AS.put, keyA, AV.sz, bl, hid]) fun l10 => areg_bx rfl (by simp only [AS.ev, AS.put]; exact z1) fun l11 => areg_bx rfl (by simp only [AS.ev, AS.put]; exact z2) fun l12 => areg_end (by simp [push_cast, g2]; exact rfl) ?_)
  refine wp_seq' (wp_seq' (wp_rg ?_))
  refine areg_run 1 (by simp [push_cast, g1, opA]; exact rfl) ?_
  refine areg_ca (by simp [AS.ev, AS.coe, AS.put] <;> exact rfl) cr ?_
  refine areg_end (by simp [push_cast, hm1, hm2]; exact rfl) ?_
  refine wp_cond_f (by simp [AS.ev]) (wp_skip' ?_)
  refine wp_sg ?_
  refine areg_run 2 (by simp [push_cast, g1, hA]; exact rfl) ?_
  refine areg_cr (d := 30) (by simp [AS.ev, AS.coe, AS.put] <;> exact rfl) cw fun Vw => ?_
  refine areg_end (by simp [push_cast, g1, g2, hA]; exact rfl) ?_
  refine wp_sg ?_
  refine areg_run 7 (by simp [push_cast, g1, hA, hid, opA]; exact rfl) ?_
  refine areg_bd (z' := stA t ⟨N + 40, (0, 0), N + 30⟩ x Vw) (fill_st rfl rfl rfl rfl rfl (fill_st rfl rfl rfl rfl (by simp [AV.sz, AS.ev, AS.put, hA]) (fill_st rfl rfl rfl rfl rfl (fill_st rfl rfl rfl rfl (by simp [AV.sz, AS.ev, AS.put, keyA, hid, bl_len]) (fill_st rfl rfl rfl rfl z1 (fill_st rfl rfl rfl rfl z2 (fill_st rfl rfl rfl rfl rfl rfl))))))) ?_
  refine areg_bx rfl (by simp only [AS.ev, AS.put]; rfl) fun l40 => areg_end (by simp [push_cast, g1, g2]; exact rfl) ?_
  refine wp_seq' (wp_seq' (wp_rg ?_))
  refine areg_run 1 (by simp [push_cast]; exact rfl) ?_
  have hbg : ∀ L, L[40]? = some (some (sbk t ⟨N + 40, l40, N + 30⟩ x Vw)) → L[30]? = some (some (swk x Vw)) → Beg H.length t ⟨N + 40, l40, N + 30⟩ x Vw L 40 30 := fun L a b => ⟨by rw [hN], by rw [hN], by decide, a, b⟩
  refine areg_xc (vs := [.ptr (N + 40) l40 0 []]) rfl (hdo _ V Vw ⟨N + 40, l40, N + 30⟩ (Beg.st hh (hbg _ rfl rfl))) ⟨_, _, rfl, .slice none 0 0, .slice none 0 0, rfl⟩ ?_
  rintro r' H' ⟨rfl, V2, Vc2, rfl⟩
  rw [beg_set hh (hbg _ rfl rfl)]
  refine areg_end (by simp [push_cast]; exact rfl) ?_
  refine wp_cond_t (by simp [AS.ev]) (wp_sr (by simp [push_cast]; exact rfl) (wp_ret' ?_))
  exact ⟨_, Le.refl _, [], errA 18, ⟨_, rfl, by simp [AS.seals, RVals, RVal, AS.ev, AS.coe, errA], by simp [errA]⟩, errA 18, _, RelLe.refl _, by simp [errA], HpLe.trim _ _, rfl, V2, (hh.of_of _ _ _ _).symm⟩

set_option maxHeartbeats 16000000 in
/-- No check. -/
theorem check_none {G : List (Option Blk)} {t : Tb} {S : Sb} {x : StV} {Vc V : Value} {ts : List Term} (hh : StT G t S x Vc V ts) (ho : OpOk x.o) (hno : ¬ (forV x.o x.me = true ∧ x.o.kind ≠ 7)) :
    XCall Go.Proofs.Tryd.prog 20 [.ptr S.b S.l 0 []] G fun r' H' => r' = keyA zk ∧ ∃ V', H' = tbOf G t V' ts := by
  have h614 := fc614_eq
  refine XCall.le ?_
  have hself := hh.self
  have G1 : ∀ Y Z V' ts', (tbOf (stB G S Y Z) t V' ts').length = G.length := fun Y Z V' ts' => stB_len _ _ _ _ _ _ _
  have g1 : ∀ Y Z V' ts' L k, (tbOf (stB G S Y Z) t V' ts' ++ L)[G.length + k]? = L[k]? := fun Y Z V' ts' L k => cat1 _ _ _ _ (G1 _ _ _ _)
  have g2 : ∀ Y Z V' ts' L k x, (tbOf (stB G S Y Z) t V' ts' ++ L).set (G.length + k) x = tbOf (stB G S Y Z) t V' ts' ++ L.set k x := fun Y Z V' ts' L k x => cat2 _ _ _ _ _ (G1 _ _ _ _)
  have gb := hh.gb
  have isf := isFor_call ho x.me
  have hk7 : binVal .eql (ji x.o.kind) (jn 7) = some (.bool (decide (x.o.kind = 7))) := bin_eqli _ _
  have hno' : forV x.o x.me = false ∨ decide (x.o.kind = 7) = true := by
    cases h1 : forV x.o x.me with
    | false => exact .inl rfl
    | true =>
      right
      rw [decide_eq_true_eq]
      exact Classical.byContradiction fun hc => hno ⟨h1, hc⟩
  generalize forV x.o x.me = fo at *
  generalize decide (x.o.kind = 7) = k7 at *
  refine XCall.of h614 rfl ?_; show AC.wp _ fb614 ⟨G.length, [.ptr S.b S.l 0 []] ++ List.replicate (35 - 1) .any, G ++ List.replicate 35 none⟩ (fun x s => match x with | .exit _ => False | _ => ∃ s1, Le s s1 ∧ FinX [(.cell 2 .true 32)] s1 _); unfold fb614
  rw [← hself]
  unfold stOf
  rw [stB_len]
  generalize hN : G.length = N at *
  refine wp_sg (areg_al' zk_eq.symm fun l2 => areg_end (by simp [push_cast, g1, g2]; exact rfl) ?_)
  refine wp_seq' (wp_seq' (wp_rg ?_))
  refine areg_run 8 (by simp [push_cast, gb, sbk, stA, opA]; exact rfl) ?_
  refine areg_cv (by simp [AS.ev, AS.coe, AS.put] <;> exact rfl) isf ?_
  cases fo with
  | false =>
    refine areg_end (by simp [push_cast, gb, opA]; exact rfl) ?_
    refine wp_cond_t (by simp [AS.ev]) (wp_sg ?_)
    refine areg_bd (z' := keyA zk) (by rw [zk_eq]; rfl) ?_
    refine areg_end (by simp [push_cast, g1, g2, zk_len]; exact rfl) (wp_ret' ?_)
    exact ⟨_, Le.refl _, [], _, ⟨by simp [AS.seals, RVals, RVal, AS.ev, AS.peek, AS.blk, g1, Blk.loc, Blk.cont, Blk.n, AV.nav, AV.isAgg, AV.isTup, AS.coe]; rfl, by simp [keyA]⟩, keyA zk, _, RelLe.refl _, by simp [keyA], HpLe.trim _ _, rfl, V, ((hh.st.tb hh.tb x Vc).of_of _ _ _ _).symm⟩
  | true =>
    have h7 : k7 = true := by simpa using hno'
    subst h7
    refine areg_end (by simp [push_cast, gb, opA, hk7]; exact rfl) ?_
    refine wp_cond_t (by simp [AS.ev]) (wp_sg ?_)
    refine areg_bd (z' := keyA zk) (by rw [zk_eq]; rfl) ?_
    refine areg_end (by simp [push_cast, g1, g2, zk_len]; exact rfl) (wp_ret' ?_)
    exact ⟨_, Le.refl _, [], _, ⟨by simp [AS.seals, RVals, RVal, AS.ev, AS.peek, AS.blk, g1, Blk.loc, Blk.cont, Blk.n, AV.nav, AV.isAgg, AV.isTup, AS.coe]; rfl, by simp [keyA]⟩, keyA zk, _, RelLe.refl _, by simp [keyA], HpLe.trim _ _, rfl, V, ((hh.st.tb hh.tb x Vc).of_of _ _ _ _).symm⟩
end Go.Cab

/- Secrets: Check and Apply, however they end. -/
-- TEXTS
-- KIT
namespace Go.Cab
open Go.RowKit
open Classical

set_option maxHeartbeats 32000000 in
/-- begin's error is Check's. -/
theorem scheck_err {H : List (Option Blk)} {t : Tb} {V : Value} {ts : List Term} (hh : TbOk H t V ts) {x : StV} {ts' : List Term} (h : BgW x) (hid : x.id = zk) {e : Nat} (he : e ≠ 0)
    (cb : ∀ H V, TbOk H t V ts → XCall Go.Proofs.Tryd.prog 19 (begA t x) H fun r' H' => r' = errA e ∧ ∃ V', H' = tbOf H t V' ts') :
    XCall Go.Proofs.Tryd.prog 8 [freeI t.b t.l, keysA x.rats (x.waits.map waitA), .lit (ji x.me), opA x.o, opA x.of_, .sl 32 (klA x.got)] H fun r H' => r = .tup [keyA zk, .lit (jn e)] ∧ ∃ V', H' = tbOf H t V' ts' := by
  have h610 := fc610_eq
  refine XCall.le ?_
  have hself := hh.self
  have G1 : ∀ V' ts', (tbOf H t V' ts').length = H.length := fun V' ts' => tbOf_len _ _ _ _
  have g1 : ∀ V' ts' L k, (tbOf H t V' ts' ++ L)[H.length + k]? = L[k]? := fun V' ts' L k => cat1 _ _ _ _ (G1 _ _)
  have g2 : ∀ V' ts' L k x, (tbOf H t V' ts' ++ L).set (H.length + k) x = tbOf H t V' ts' ++ L.set k x := fun V' ts' L k x => cat2 _ _ _ _ _ (G1 _ _)
  have cb := fun V L => cb _ _ (hh.at V ts L)
  have hA : (x.rats.map ratA).length = 8 := by rw [List.length_map]; exact h.rl
  have z1 := opA_sz h.o
  have z2 := opA_sz h.of_
  have hne : binVal .neq (jn e) (jn 0) = some (.bool true) := by simp [binVal, jn, he]
  unfold begA keysA at cb
  rw [hid] at cb
  unfold keysA
  unfold errA at cb
  refine XCall.of h610 rfl ?_; show AC.wp _ fb610 ⟨H.length, [freeI t.b t.l, .st [528, 1] [.arr 66 (x.rats.map ratA), .sl 65 (x.waits.map waitA)], .lit (ji x.me), opA x.o, opA x.of_, .sl 32 (klA x.got)] ++ List.replicate (33 - 6) .any, H ++ List.replicate 33 none⟩ (fun x s => match x with | .exit _ => False | _ => ∃ s1, Le s s1 ∧ FinX [(.cell 12 .true 32), (.tmp 13)] s1 _); unfold fb610
  rw [← hself]
  rw [tbOf_len]
  generalize hN : H.length = N at *
  refine wp_sg (areg_bx rfl (by simp [AS.ev, AS.put, AV.sz, hA]) fun l7 => areg_bx rfl (by simp only [AS.ev, AS.put]; exact z1) fun l9 => areg_bx rfl (by simp only [AS.ev, AS.put]; exact z2) fun l10 => areg_al' zk_eq.symm fun l12 => areg_end (by simp [push_cast, g2]; exact rfl) ?_)
  refine wp_sg ?_
  refine areg_run 3 (by simp [push_cast, g1, hA]; exact rfl) ?_
  refine areg_bd (z' := keyA zk) (by rw [zk_eq]; rfl) ?_
  refine areg_run 3 (by simp [push_cast, g1, opA]; exact rfl) ?_
  refine areg_xq (us := [freeI t.b t.l, .st [528, 1] [.arr 66 (x.rats.map ratA), .sl 65 (x.waits.map waitA)], .lit (ji x.me), keyA zk, opA x.o, opA x.of_, .sl 32 (klA x.got)]) rfl (tgt_begin _ _ _ _ _ _ _) (cb V _) ⟨_, _, rfl, .slice none 0 0, rfl⟩ (fun r hp' hK t' ht' => by cases ht') ?_
  rintro r' H' ⟨rfl, V2, rfl⟩
  rw [hh.at_of]
  refine areg_end (by simp [push_cast]; exact rfl) ?_
  refine wp_seq' (wp_sr (by simp [push_cast, hne]; exact rfl) ?_)
  refine wp_cond_t (by simp [AS.ev]) (wp_sg ?_)
  refine areg_bd (z' := keyA zk) (by rw [zk_eq]; rfl) ?_
  refine areg_end (by simp [push_cast, g1, g2, zk_len]; exact rfl) (wp_ret' ?_)
  exact ⟨_, Le.refl _, [], _, ⟨_, rfl, by simp [AS.seals, RVals, RVal, AS.ev, AS.peek, AS.blk, g1, Blk.loc, Blk.cont, Blk.n, AV.nav, AV.isAgg, AV.isTup, AS.coe]; rfl, by simp [keyA]⟩, .tup [keyA zk, .lit (jn e)], _, RelLe.refl _, by simp, HpLe.trim _ _, rfl, V2, (hh.of_of _ _ _ _).symm⟩

set_option maxHeartbeats 32000000 in
/-- No check is asked. -/
theorem scheck_none {H : List (Option Blk)} {t : Tb} {V : Value} {ts : List Term} (hh : TbOk H t V ts) {x x' : StV} {ts' : List Term} (h : BgOk x) (hid : x.id = zk)
    (hdo : ∀ H V Vc S, StT H t S x Vc V ts → XCall Go.Proofs.Tryd.prog 30 [.ptr S.b S.l 0 []] H fun r' H' => r' = .lit (.bool true) ∧ ∃ V' Vc', H' = tbOf (stOf H t S x' Vc') t V' ts')
    (ho : x'.o = x.o) (hm : x'.me = x.me) (hno : ¬ (forV x.o x.me = true ∧ x.o.kind ≠ 7)) :
    XCall Go.Proofs.Tryd.prog 8 [freeI t.b t.l, keysA x.rats (x.waits.map waitA), .lit (ji x.me), opA x.o, opA x.of_, .sl 32 (klA x.got)] H fun r' H' => r' = .tup [keyA zk, .lit (jn 0)] ∧ ∃ V', H' = tbOf H t V' ts' := by
  have h610 := fc610_eq
  refine XCall.le ?_
  have hself := hh.self
  have G1 : ∀ V' ts', (tbOf H t V' ts').length = H.length := fun V' ts' => tbOf_len _ _ _ _
  have g1 : ∀ V' ts' L k, (tbOf H t V' ts' ++ L)[H.length + k]? = L[k]? := fun V' ts' L k => cat1 _ _ _ _ (G1 _ _)
  have g2 : ∀ V' ts' L k x, (tbOf H t V' ts' ++ L).set (H.length + k) x = tbOf H t V' ts' ++ L.set k x := fun V' ts' L k x => cat2 _ _ _ _ _ (G1 _ _)
  have cb := fun V L => begin_call (hh.at V ts L) h hdo
  have ck := fun {H} {V} {Vc} {S} (hs : StT H t S x' Vc V ts') => check_none hs (by rw [ho]; exact h.o) (by rw [ho, hm]; exact hno)
  have hA : (x.rats.map ratA).length = 8 := by rw [List.length_map]; exact h.rl
  have z1 := opA_sz h.o
  have z2 := opA_sz h.of_
  have kl := zk_len
  unfold begA keysA at cb
  rw [hid] at cb
  unfold keysA
  refine XCall.of h610 rfl ?_; show AC.wp _ fb610 ⟨H.length, [freeI t.b t.l, .st [528, 1] [.arr 66 (x.rats.map ratA), .sl 65 (x.waits.map waitA)], .lit (ji x.me), opA x.o, opA x.of_, .sl 32 (klA x.got)] ++ List.replicate (33 - 6) .any, H ++ List.replicate 33 none⟩ (fun x s => match x with | .exit _ => False | _ => ∃ s1, Le s s1 ∧ FinX [(.cell 12 .true 32), (.tmp 13)] s1 _); unfold fb610
  rw [← hself]
  rw [tbOf_len]
  generalize hN : H.length = N at *
  refine wp_sg (areg_bx rfl (by simp [AS.ev, AS.put, AV.sz, hA]) fun l7 => areg_bx rfl (by simp only [AS.ev, AS.put]; exact z1) fun l9 => areg_bx rfl (by simp only [AS.ev, AS.put]; exact z2) fun l10 => areg_al' zk_eq.symm fun l12 => areg_end (by simp [push_cast, g2]; exact rfl) ?_)
  refine wp_sg ?_
  refine areg_run 3 (by simp [push_cast, g1, hA]; exact rfl) ?_
  refine areg_bd (z' := keyA zk) (by rw [zk_eq]; rfl) ?_
  refine areg_run 3 (by simp [push_cast, g1, opA]; exact rfl) ?_
  refine areg_xq (us := [freeI t.b t.l, .st [528, 1] [.arr 66 (x.rats.map ratA), .sl 65 (x.waits.map waitA)], .lit (ji x.me), keyA zk, opA x.o, opA x.of_, .sl 32 (klA x.got)]) rfl (tgt_begin _ _ _ _ _ _ _) (cb V _) (BegK.ex _ _ _ _) (fun r hp' hK t' ht' => by cases ht') ?_
  rintro r' H' ⟨S, Vc, V2, L, p, q, hB, rfl, rfl⟩
  rw [hh.at_of, List.append_assoc]
  rw [List.length_append, G1] at hB
  have hB' := fun M (hM : List.drop 33 M = L) hl => (Beg.drop (N := H.length) (n := 33) (by rw [hN]; exact hB) hM hl)
  refine areg_end (by simp [push_cast]; exact rfl) ?_
  refine wp_seq' (wp_sr (by simp [push_cast]; exact rfl) ?_)
  refine wp_cond_f (by simp [AS.ev]) (wp_skip' ?_)
  refine wp_sg ?_
  refine areg_run 1 (by simp [push_cast]; exact rfl) ?_
  refine areg_xc (vs := [.ptr S.b S.l 0 []]) rfl (ck (Beg.st hh (hB' _ rfl (by simp)))) ⟨_, _, rfl, .slice none 0 0, rfl⟩ ?_
  rintro r' H' ⟨rfl, V3, rfl⟩
  rw [hh.at_of]
  refine areg_end (by simp [push_cast, g1, g2, kl]; exact rfl) (wp_ret' ?_)
  exact ⟨_, Le.refl _, [], _, ⟨_, rfl, by simp [AS.seals, RVals, RVal, AS.ev, AS.peek, AS.blk, g1, Blk.loc, Blk.cont, Blk.n, AV.nav, AV.isAgg, AV.isTup, AS.coe]; rfl, by simp [keyA]⟩, .tup [keyA zk, .lit (jn 0)], _, RelLe.refl _, by simp, HpLe.trim _ _, rfl, V3, (hh.of_of _ _ _ _).symm⟩

set_option maxHeartbeats 64000000 in
/-- .. nor by Apply. -/
theorem apply_none {H : List (Option Blk)} {t : Tb} {V : Value} {ts : List Term} (hh : TbOk H t V ts) {x x' : StV} {ts' : List Term} (h : BgOk x)
    (hdo : ∀ H V Vc S, StT H t S x Vc V ts → XCall Go.Proofs.Tryd.prog 30 [.ptr S.b S.l 0 []] H fun r' H' => r' = .lit (.bool true) ∧ ∃ V' Vc', H' = tbOf (stOf H t S x' Vc') t V' ts')
    (hrl : x'.rats.length = 8) (hno : ¬ (forV x.o x.me = true ∧ x.o.kind ≠ 7)) :
    XCall Go.Proofs.Tryd.prog 10 (begA t x) H fun r' H' => r' = appA x' true ∧ ∃ V', H' = tbOf H t V' ts' := by
  have h611 := fc611_eq
  refine XCall.le ?_
  have hself := hh.self
  have G1 : ∀ V' ts', (tbOf H t V' ts').length = H.length := fun V' ts' => tbOf_len _ _ _ _
  have g1 : ∀ V' ts' L k, (tbOf H t V' ts' ++ L)[H.length + k]? = L[k]? := fun V' ts' L k => cat1 _ _ _ _ (G1 _ _)
  have g2 : ∀ V' ts' L k x, (tbOf H t V' ts' ++ L).set (H.length + k) x = tbOf H t V' ts' ++ L.set k x := fun V' ts' L k x => cat2 _ _ _ _ _ (G1 _ _)
  have cb := fun V L => begin_call (hh.at V ts L) h hdo
  have isf := isFor_call h.o x.me
  have hA : (x.rats.map ratA).length = 8 := by rw [List.length_map]; exact h.rl
  have hA' : (x'.rats.map ratA).length = 8 := by rw [List.length_map]; exact hrl
  have z1 := opA_sz h.o
  have z2 := opA_sz h.of_
  have hid := h.id
  have hk7 : binVal .neq (ji x.o.kind) (jn 7) = some (.bool (decide (x.o.kind ≠ 7))) := bin_neqi _ _
  have hno' : forV x.o x.me = false ∨ decide (x.o.kind ≠ 7) = false := by
    cases h1 : forV x.o x.me with
    | false => exact .inl rfl
    | true =>
      right
      rw [decide_eq_false_iff_not]
      exact fun hc => hno ⟨h1, hc⟩
  unfold begA keysA at cb
  unfold begA keysA
  generalize forV x.o x.me = fo at *
  generalize decide (x.o.kind ≠ 7) = k7 at *
  refine XCall.of h611 rfl ?_; show AC.wp _ fb611 ⟨H.length, [freeI t.b t.l, .st [528, 1] [.arr 66 (x.rats.map ratA), .sl 65 (x.waits.map waitA)], .lit (ji x.me), keyA x.id, opA x.o, opA x.of_, .sl 32 (klA x.got)] ++ List.replicate (55 - 7) .any, H ++ List.replicate 55 none⟩ (fun x s => match x with | .exit _ => False | _ => ∃ s1, Le s s1 ∧ FinX [(.cell 14 .true 529), (.tmp 15)] s1 _); unfold fb611
  rw [← hself]
  rw [tbOf_len]
  generalize hN : H.length = N at *
  refine wp_sg (areg_bx rfl (by simp [AS.ev, AS.put, AV.sz, hA]) fun l8 => areg_bx rfl (by simp [AS.ev, AS.put, keyA, AV.sz, bl, hid]) fun l10 => areg_bx rfl (by simp only [AS.ev, AS.put]; exact z1) fun l11 => areg_bx rfl (by simp only [AS.ev, AS.put]; exact z2) fun l12 => areg_al' (z' := ks0) rfl fun l14 => areg_end (by simp [push_cast, g2, ks0]; exact rfl) ?_)
  refine wp_sg ?_
  refine areg_run 7 (by simp [push_cast, g1, hA, hid, opA]; exact rfl) ?_
  refine areg_xq (us := [freeI t.b t.l, .st [528, 1] [.arr 66 (x.rats.map ratA), .sl 65 (x.waits.map waitA)], .lit (ji x.me), keyA x.id, opA x.o, opA x.of_, .sl 32 (klA x.got)]) rfl (tgt_begin _ _ _ _ _ _ _) (cb V _) (BegK.ex _ _ _ _) (fun r hp' hK t' ht' => by cases ht') ?_
  rintro r' H' ⟨S, Vc, V2, L, p, q, hB, rfl, rfl⟩
  rw [hh.at_of, List.append_assoc]
  rw [List.length_append, G1] at hB
  have hB' := fun M (hM : List.drop 55 M = L) hl => (Beg.drop (N := H.length) (n := 55) (by rw [hN]; exact hB) hM hl)
  refine areg_end (by simp [push_cast]; exact rfl) ?_
  refine wp_seq' (wp_block' ?_)
  refine wp_sr (by simp [push_cast]; exact rfl) ?_
  refine wp_cond_f (by simp [AS.ev]) ?_
  refine wp_seqM (X := Unit) (fun _ => ⟨N, [.any, .any, .any, .any, .any, .any, .any, .any, .any, .any, .any, .any, .any, .any, .ptr (N + 14) l14 0 [], .lit (jn 0), .ptr S.b S.l 0 []] ++ List.replicate 17 .any ++ [.lit (.bool false)] ++ List.replicate 20 .any, tbOf H t V2 ts' ++ ([none, none, none, none, none, none, none, none, none, none, none, none, none, none, some (.box l14 529 ks0)] ++ List.replicate 40 none ++ L)⟩) (fun _ => True) ?_ ?_
  · rintro _ _
    refine wp_cond_f (by simp [AS.ev]) (wp_skip' ?_)
    refine wp_M (A := tbOf H t V2 ts') (fun M => Beg H.length t S x' Vc M (55 + p) (55 + q) ∧ M[14]? = some (some (.box l14 529 ks0)) ∧ 55 ≤ M.length) ⟨hB' _ rfl (by simp), rfl, by simp⟩ ?_
    rintro M ⟨hM1, hM2, hM3⟩
    have gM : ∀ V ts, (tbOf H t V ts ++ M)[S.b]? = some (some (sbk t S x' Vc)) := fun V ts => (Beg.st hh hM1).st.hb
    have hSc : S.c = N + (55 + q) := by rw [hM1.c, hN]
    unfold ks0 at hM2
    refine wp_sgL ?_
    refine areg_end (by simp [push_cast, g1, g2, gM, sbk, stA, hM2, hA']; exact rfl) ?_
    have hM4 : ∀ X, (M.set 14 (some X))[14]? = some (some X) := fun X => List.getElem?_set_self (by omega)
    have hM5 : ∀ X, (M.set 14 X)[55 + q]? = some (some (swk x' Vc)) := fun X => by rw [List.getElem?_set_ne (by omega)]; exact hM1.hc
    refine ⟨_, Le.sealedF (b := N + 14) (j := S.c) (n := 529) (i := 1) (e := 83) (esz := 65) (sl := 0) (l := l14) (ns := [528, 1]) (fs := [.arr 66 (x'.rats.map ratA), .own S.c Vc]) (els := x'.waits.map waitA) (V := Vc) (by simp only [AS.blk, g1, hM4]; rfl) rfl (by simp only [AS.blk, hSc, g1, hM5]; rfl), ?_⟩
    simp only [hSc, g2, List.set_set]
    refine wp_ret' ?_
    have hr : ∀ X, ((M.set 14 (some X)).set (55 + q) none)[14]? = some (some X) := fun X => by rw [List.getElem?_set_ne (by omega), hM4]
    exact ⟨_, Le.refl _, [], _, ⟨_, rfl, by simp [AS.seals, RVals, RVal, AS.ev, AS.peek, AS.blk, g1, hr, Blk.loc, Blk.cont, Blk.n, AV.nav, AV.isAgg, AV.isTup, AS.coe]; rfl, by simp [keysA]⟩, appA x' true, _, RelLe.refl _, by simp [appA, keysA], HpLe.trim _ _, rfl, V2, (hh.of_of _ _ _ _).symm⟩
  · refine wp_rg ?_
    refine areg_run 2 (by simp [push_cast, g1, opA]; exact rfl) ?_
    refine areg_cv (by simp [AS.ev, AS.coe, AS.put] <;> exact rfl) isf ?_ (by intro p hp b V; simp at hp; rcases hp with rfl | rfl <;> simp [AS.ev, AS.put])
    cases fo with
    | false =>
      refine areg_run 6 (by simp [push_cast]; exact rfl) ?_
      refine areg_end (by simp [push_cast]; exact rfl) ?_
      exact ⟨(), trivial, Le.mk rfl (by simp [leT]) (leH_app (leH_refl _) (by simp [leH, ks0, leH_refl]))⟩
    | true =>
      have h7 : k7 = false := by simpa using hno'
      subst h7
      refine areg_run 6 (by simp [push_cast, g1, opA, hk7]; exact rfl) ?_
      refine areg_end (by simp [push_cast]; exact rfl) ?_
      exact ⟨(), trivial, Le.mk rfl (by simp [leT]) (leH_app (leH_refl _) (by simp [leH, ks0, leH_refl]))⟩
end Go.Cab

/- Secrets' laws: what is more than is looked at; the reference's For. -/
-- TEXTS
-- KIT
namespace Go.Cab
open Go.RowKit
open Classical
def fb604 : AC := (.seq (.reg [⟨(.some 4), .none, (.box 529 (.tmp 0)), [], .none⟩, ⟨(.some 5), .none, (.box 71 (.tmp 1)), [], .none⟩, ⟨(.some 6), .none, (.box 71 (.tmp 2)), [], .none⟩, ⟨(.some 8), .none, (.mov (.const (.bool .false))), [], .none⟩]) (.seq (.reg [⟨(.some 9), .none, (.faddr 528 1 (.tmp 4)), [], .none⟩, ⟨(.some 10), .none, (.load .false 1 (.tmp 9)), [], .none⟩, ⟨(.some 11), .none, (.len .false (.tmp 10)), [], .none⟩, ⟨(.some 12), .none, (.bin .gtr (.tmp 11) (.const (jn 60))), [], .none⟩, ⟨(.some 13), .none, (.mov (.tmp 12)), [], .none⟩, ⟨(.some 14), (.some (13, .false)), (.mov (.tmp 3)), [], .none⟩, ⟨(.some 15), (.some (13, .false)), (.len .false (.tmp 14)), [], .none⟩, ⟨(.some 16), (.some (13, .false)), (.bin .gtr (.tmp 15) (.const (jn 10))), [], .none⟩, ⟨(.some 17), .none, (.pick (.tmp 13) (.const (.bool .true)) (.tmp 16)), [], .none⟩, ⟨(.some 18), .none, (.mov (.tmp 17)), [], .none⟩, ⟨(.some 19), (.some (18, .false)), (.load .true 71 (.tmp 5)), [], .none⟩, ⟨(.some 20), (.some (18, .false)), (.call 17 [(.tmp 19)]), [], .none⟩, ⟨(.some 21), .none, (.pick (.tmp 18) (.const (.bool .true)) (.tmp 20)), [], .none⟩, ⟨(.some 22), .none, (.mov (.tmp 21)), [], .none⟩, ⟨(.some 23), (.some (22, .false)), (.load .true 71 (.tmp 6)), [], .none⟩, ⟨(.some 24), (.some (22, .false)), (.call 17 [(.tmp 23)]), [], .none⟩, ⟨(.some 25), .none, (.pick (.tmp 22) (.const (.bool .true)) (.tmp 24)), [], .none⟩, ⟨(.some 8), .none, (.mov (.tmp 25)), [], .none⟩]) .ret))
def fc604 : FC := ⟨4, 26, [(.tmp 8)], fb604⟩
theorem fc604_eq : compF Go.Proofs.Tryd.prog 6 = some fc604 := by kernel_rfl
def fb640 : AC := (.seq (.reg [⟨(.some 1), .none, (.box 71 (.tmp 0)), [], .none⟩, ⟨(.some 2), .none, (.mov (.const (.bool .false))), [], .none⟩]) (.seq (.seq (.reg [⟨(.some 4), .none, (.faddr 2 2 (.tmp 1)), [], .none⟩, ⟨(.some 5), .none, (.load .false 1 (.tmp 4)), [], .none⟩, ⟨(.some 6), .none, (.len .false (.tmp 5)), [], .none⟩, ⟨(.some 7), .none, (.bin .gtr (.tmp 6) (.const (jn 30))), [], .none⟩, ⟨(.some 8), .none, (.mov (.tmp 7)), [], .none⟩, ⟨(.some 9), (.some (8, .false)), (.faddr 4 4 (.tmp 1)), [], .none⟩, ⟨(.some 10), (.some (8, .false)), (.load .false 1 (.tmp 9)), [], .none⟩, ⟨(.some 11), (.some (8, .false)), (.len .false (.tmp 10)), [], .none⟩, ⟨(.some 12), (.some (8, .false)), (.bin .gtr (.tmp 11) (.const (jn 30))), [], .none⟩, ⟨(.some 13), .none, (.pick (.tmp 8) (.const (.bool .true)) (.tmp 12)), [], .none⟩, ⟨(.some 14), .none, (.mov (.tmp 13)), [], .none⟩, ⟨(.some 15), (.some (14, .false)), (.faddr 70 8 (.tmp 1)), [], .none⟩, ⟨(.some 16), (.some (14, .false)), (.load .false 1 (.tmp 15)), [], .none⟩, ⟨(.some 17), (.some (14, .false)), (.len .false (.tmp 16)), [], .none⟩, ⟨(.some 18), (.some (14, .false)), (.bin .gtr (.tmp 17) (.const (jn 30))), [], .none⟩, ⟨(.some 19), .none, (.pick (.tmp 14) (.const (.bool .true)) (.tmp 18)), [], .none⟩, ⟨(.some 20), .none, (.mov (.tmp 19)), [], .none⟩, ⟨(.some 21), (.some (20, .false)), (.faddr 69 7 (.tmp 1)), [], .none⟩, ⟨(.some 22), (.some (20, .false)), (.load .false 1 (.tmp 21)), [], .none⟩, ⟨(.some 23), (.some (20, .false)), (.len .true (.tmp 22)), [], .none⟩, ⟨(.some 24), (.some (20, .false)), (.bin .gtr (.tmp 23) (.const (jn 600))), [], .none⟩, ⟨(.some 25), .none, (.pick (.tmp 20) (.const (.bool .true)) (.tmp 24)), [], .none⟩]) (.cond (.tmp 25) (.seq (.reg [⟨(.some 2), .none, (.mov (.const (.bool .true))), [], .none⟩]) .ret) .skip)) (.seq (.seq (.reg [⟨(.some 3), .none, (.mov (.const (jn 0))), [], .none⟩]) (.block 0 (.loop (.seq (.seq (.reg [⟨(.some 26), .none, (.mov (.tmp 3)), [], .none⟩, ⟨(.some 27), .none, (.faddr 70 8 (.tmp 1)), [], .none⟩, ⟨(.some 28), .none, (.load .false 1 (.tmp 27)), [], .none⟩, ⟨(.some 29), .none, (.len .false (.tmp 28)), [], .none⟩, ⟨(.some 30), .none, (.bin .lss (.tmp 26) (.tmp 29)), [], .none⟩]) (.cond (.tmp 30) .skip (.exit 0))) (.seq (.block 1 (.seq (.reg [⟨(.some 33), .none, (.faddr 70 8 (.tmp 1)), [], .none⟩, ⟨(.some 34), .none, (.load .false 1 (.tmp 33)), [], .none⟩, ⟨(.some 35), .none, (.mov (.tmp 3)), [], .none⟩, ⟨(.some 36), .none, (.iaddrS 36 (.tmp 34) (.tmp 35)), [], .none⟩, ⟨(.some 37), .none, (.faddr 35 2 (.tmp 36)), [], .none⟩, ⟨(.some 38), .none, (.load .false 1 (.tmp 37)), [], .none⟩, ⟨(.some 39), .none, (.len .true (.tmp 38)), [], .none⟩, ⟨(.some 40), .none, (.bin .gtr (.tmp 39) (.const (jn 600))), [], .none⟩]) (.cond (.tmp 40) (.seq (.reg [⟨(.some 2), .none, (.mov (.const (.bool .true))), [], .none⟩]) .ret) .skip))) (.reg [⟨(.some 31), .none, (.mov (.tmp 3)), [], .none⟩, ⟨(.some 32), .none, (.bin .add (.tmp 31) (.const (jn 1))), [], .none⟩, ⟨(.some 3), .none, (.mov (.tmp 32)), [], .none⟩])))))) (.seq (.reg [⟨(.some 2), .none, (.mov (.const (.bool .false))), [], .none⟩]) .ret))))
def fc640 : FC := ⟨1, 41, [(.tmp 2)], fb640⟩
theorem fc640_eq : compF Go.Proofs.Tryd.prog 17 = some fc640 := by kernel_rfl
def fb641 : AC := (.seq (.reg [⟨(.some 2), .none, (.box 71 (.tmp 0)), [], .none⟩, ⟨(.some 4), .none, (.mov (.const (.bool .false))), [], .none⟩]) (.seq (.seq (.reg [⟨(.some 6), .none, (.faddr 0 0 (.tmp 2)), [], .none⟩, ⟨(.some 7), .none, (.load .false 1 (.tmp 6)), [], .none⟩, ⟨(.some 8), .none, (.mov (.tmp 1)), [], .none⟩, ⟨(.some 9), .none, (.bin .eql (.tmp 7) (.tmp 8)), [], .none⟩]) (.cond (.tmp 9) (.seq (.reg [⟨(.some 4), .none, (.mov (.const (.bool .true))), [], .none⟩]) .ret) .skip)) (.seq (.seq (.reg [⟨(.some 5), .none, (.mov (.const (jn 0))), [], .none⟩]) (.block 0 (.loop (.seq (.seq (.reg [⟨(.some 10), .none, (.mov (.tmp 5)), [], .none⟩, ⟨(.some 11), .none, (.faddr 70 8 (.tmp 2)), [], .none⟩, ⟨(.some 12), .none, (.load .false 1 (.tmp 11)), [], .none⟩, ⟨(.some 13), .none, (.len .false (.tmp 12)), [], .none⟩, ⟨(.some 14), .none, (.bin .lss (.tmp 10) (.tmp 13)), [], .none⟩]) (.cond (.tmp 14) .skip (.exit 0))) (.seq (.block 1 (.seq (.reg [⟨(.some 17), .none, (.faddr 70 8 (.tmp 2)), [], .none⟩, ⟨(.some 18), .none, (.load .false 1 (.tmp 17)), [], .none⟩, ⟨(.some 19), .none, (.mov (.tmp 5)), [], .none⟩, ⟨(.some 20), .none, (.iaddrS 36 (.tmp 18) (.tmp 19)), [], .none⟩, ⟨(.some 21), .none, (.faddr 0 0 (.tmp 20)), [], .none⟩, ⟨(.some 22), .none, (.load .false 1 (.tmp 21)), [], .none⟩, ⟨(.some 23), .none, (.mov (.tmp 1)), [], .none⟩, ⟨(.some 24), .none, (.bin .eql (.tmp 22) (.tmp 23)), [], .none⟩]) (.cond (.tmp 24) (.seq (.reg [⟨(.some 4), .none, (.mov (.const (.bool .true))), [], .none⟩]) .ret) .skip))) (.reg [⟨(.some 15), .none, (.mov (.tmp 5)), [], .none⟩, ⟨(.some 16), .none, (.bin .add (.tmp 15) (.const (jn 1))), [], .none⟩, ⟨(.some 5), .none, (.mov (.tmp 16)), [], .none⟩])))))) (.seq (.reg [⟨(.some 4), .none, (.mov (.const (.bool .false))), [], .none⟩]) .ret))))
def fc641 : FC := ⟨2, 25, [(.tmp 4)], fb641⟩
theorem fc641_eq : compF Go.Proofs.Tryd.prog 9 = some fc641 := by kernel_rfl

def longB (b : BoxV) : Bool := decide (600 < b.body.length)
def greatO (o : OpV) : Bool := decide (30 < o.parents.length) || (decide (30 < o.who.length) || (decide (30 < o.boxes.length) || (decide (600 < o.text.length) || o.boxes.any longB)))
set_option maxHeartbeats 16000000 in
theorem great_call {o : OpV} (h32 : o.ofk.length = 32 ∧ o.check.length = 32) (ht : o.text.length < 9223372036854775808) (hb : ∀ b ∈ o.boxes, b.body.length < 9223372036854775808) : PCall Go.Proofs.Tryd.prog 17 [opA o] (.val (.lit (.bool (greatO o)))) := by
  have h640 := fc640_eq
  obtain ⟨o5, o6⟩ := h32
  have hopA : opA o = .st [1, 1, 1, 1, 1, 32, 32, 1, 1] [.lit (ji o.author), .lit (wn o.seq), .sl 32 (klA o.parents), .lit (ji o.kind), .sl 1 (o.who.map fun x => AV.lit (ji x)), keyA o.ofk, keyA o.check, .lit (tx o.text), .sl 36 (o.boxes.map fun x => boxA x)] := rfl
  have hpl := klA_len o.parents
  have hwl : (o.who.map fun x => AV.lit (ji x)).length = o.who.length := List.length_map _
  have hbl : (o.boxes.map fun x => boxA x).length = o.boxes.length := List.length_map _
  have hget : ∀ i b, o.boxes[i]? = some b → (o.boxes.map fun x => boxA x)[i]? = some (boxA b) := fun i b h => by rw [List.getElem?_map, h]; rfl
  rw [hopA]
  unfold greatO
  generalize (o.boxes.map fun x => boxA x) = T at *
  generalize (o.who.map fun x => AV.lit (ji x)) = T2 at *
  generalize klA o.parents = T3 at *
  refine PCall.of h640 rfl ?_; show AC.wp _ fb640 (AS.init [.st [1, 1, 1, 1, 1, 32, 32, 1, 1] [.lit (ji o.author), .lit (wn o.seq), .sl 32 T3, .lit (ji o.kind), .sl 1 T2, keyA o.ofk, keyA o.check, .lit (tx o.text), .sl 36 T]] 1 41) (fun x s => match x with | .exit _ => False | _ => Fin [(.tmp 2)] s _); unfold fb640 AS.init
  refine wp_sg (areg_bx rfl (by simp [AS.ev, AV.sz]) fun l1 => areg_end (by simp [push_cast]; exact rfl) ?_)
  refine wp_seq' ?_
  by_cases h1 : 30 < o.parents.length
  · refine wp_sr (by simp [push_cast, hpl, h1, o5, o6]; exact rfl) ?_
    refine wp_cond_t (by simp [AS.ev]) (wp_sr (by simp [push_cast]; exact rfl) (wp_ret' ?_))
    exact fin_tmp (by simp [RVal, AS.ev, AS.coe, h1]) (by simp)
  by_cases h2 : 30 < o.who.length
  · refine wp_sr (by simp [push_cast, hpl, hwl, h1, h2, o5, o6]; exact rfl) ?_
    refine wp_cond_t (by simp [AS.ev]) (wp_sr (by simp [push_cast]; exact rfl) (wp_ret' ?_))
    exact fin_tmp (by simp [RVal, AS.ev, AS.coe, h1, h2]) (by simp)
  by_cases h3 : 30 < o.boxes.length
  · refine wp_sr (by simp [push_cast, hpl, hwl, hbl, h1, h2, h3, o5, o6]; exact rfl) ?_
    refine wp_cond_t (by simp [AS.ev]) (wp_sr (by simp [push_cast]; exact rfl) (wp_ret' ?_))
    exact fin_tmp (by simp [RVal, AS.ev, AS.coe, h1, h2, h3]) (by simp)
  by_cases h4 : 600 < o.text.length
  · refine wp_sr (by simp [push_cast, hpl, hwl, hbl, h1, h2, h3, h4, o5, o6]; exact rfl) ?_
    refine wp_cond_t (by simp [AS.ev]) (wp_sr (by simp [push_cast]; exact rfl) (wp_ret' ?_))
    exact fin_tmp (by simp [RVal, AS.ev, AS.coe, h1, h2, h3, h4]) (by simp)
  refine wp_sr (by simp [push_cast, hpl, hwl, hbl, h1, h2, h3, h4, o5, o6]; exact rfl) ?_
  refine wp_cond_f (by simp [AS.ev]) (wp_skip' ?_)
  have hfin : (decide (30 < o.parents.length) || (decide (30 < o.who.length) || (decide (30 < o.boxes.length) || (decide (600 < o.text.length) || o.boxes.any longB)))) = o.boxes.any longB := by simp [h1, h2, h3, h4]
  rw [hfin]
  refine wp_seq' (wp_seq' (wp_r (by simp [push_cast]; exact rfl) ?_))
  refine wp_block' (wp_loop_m (fun i => ⟨0, [.any, .ptr 1 l1 0 [], .lit (.bool false), .lit (jn i)] ++ List.replicate 37 .any, [none, some (.box l1 71 (.st [1, 1, 1, 1, 1, 32, 32, 1, 1] [.lit (ji o.author), .lit (wn o.seq), .sl 32 T3, .lit (ji o.kind), .sl 1 T2, keyA o.ofk, keyA o.check, .lit (tx o.text), .sl 36 T]))] ++ List.replicate 39 none⟩) (fun i => o.boxes.length - i) (fun i => (o.boxes.drop i).any longB = o.boxes.any longB ∧ i ≤ o.boxes.length) 0 ?_ ⟨rfl, by simp⟩ ?_)
  · exact Le.mk rfl (by simp [leT]) (by simp [leH, keyA])
  rintro i ⟨hI, hi⟩
  simp only at hI hi ⊢
  by_cases hlt : i < o.boxes.length
  · obtain ⟨b, hbi⟩ : ∃ b, o.boxes[i]? = some b := ⟨_, List.getElem?_eq_getElem hlt⟩
    have hdrop : o.boxes.drop i = b :: o.boxes.drop (i + 1) := by
      rw [List.drop_eq_getElem_cons hlt]
      rw [List.getElem?_eq_getElem hlt] at hbi
      rw [Option.some.inj hbi]
    rw [hdrop, List.any_cons] at hI
    have j1 := hget i b hbi
    have j2 : ∀ h, T[i]'h = boxA b := fun h => by rw [List.getElem?_eq_getElem h] at j1; exact Option.some.inj j1
    have hbb := hb b (List.mem_of_getElem? hbi)
    have q1 : i + 1 < 9223372036854775808 := by omega
    unfold boxA at j1 j2
    refine wp_seq' (wp_sr (by simp [push_cast, hbl, hlt, o5, o6]; exact rfl) ?_)
    refine wp_cond_t (by simp [AS.ev]) (wp_skip' ?_)
    by_cases hlb : 600 < b.body.length
    · refine wp_seq' (wp_block' (wp_sr (by simp [push_cast, hbl, hlt, j1, j2, o5, o6, hlb]; exact rfl) ?_))
      refine wp_cond_t (by simp [AS.ev]) (wp_sr (by simp [push_cast]; exact rfl) (wp_ret' ?_))
      exact fin_tmp (by simp [RVal, AS.ev, AS.coe, ← hI, longB, hlb]) (by simp)
    · refine wp_seq' (wp_block' (wp_sr (by simp [push_cast, hbl, hlt, j1, j2, o5, o6, hlb]; exact rfl) ?_))
      refine wp_cond_f (by simp [AS.ev]) (wp_skip' ?_)
      refine wp_r (by simp [push_cast, q1]; exact rfl) ?_
      refine Exists.intro (i + 1) ⟨⟨by rw [← hI]; simp [longB, hlb], by omega⟩, by omega, Le.mk rfl (by simp [leT]) (by simp [leH, keyA])⟩
  · have hin : i = o.boxes.length := by omega
    subst hin
    rw [List.drop_length] at hI
    refine wp_seq' (wp_sr (by simp [push_cast, hbl, o5, o6]; exact rfl) ?_)
    refine wp_cond_f (by simp [AS.ev]) (wp_exit' (if_hit rfl ?_))
    refine wp_sr (by simp [push_cast]; exact rfl) (wp_ret' ?_)
    exact fin_tmp (by simp [RVal, AS.ev, AS.coe, ← hI]) (by simp)

set_option maxHeartbeats 16000000 in
theorem for_call {o : OpV} (h32 : o.ofk.length = 32 ∧ o.check.length = 32) (hbx : o.boxes.length < 100000) (who : Int) : PCall Go.Proofs.Tryd.prog 9 [opA o, .lit (ji who)] (.val (.lit (.bool (forV o who)))) := by
  have h641 := fc641_eq
  obtain ⟨o5, o6⟩ := h32
  have hopA : opA o = .st [1, 1, 1, 1, 1, 32, 32, 1, 1] [.lit (ji o.author), .lit (wn o.seq), .sl 32 (klA o.parents), .lit (ji o.kind), .sl 1 (o.who.map fun x => AV.lit (ji x)), keyA o.ofk, keyA o.check, .lit (tx o.text), .sl 36 (o.boxes.map fun x => boxA x)] := rfl
  have hbl : (o.boxes.map fun x => boxA x).length = o.boxes.length := List.length_map _
  have hget : ∀ i b, o.boxes[i]? = some b → (o.boxes.map fun x => boxA x)[i]? = some (boxA b) := fun i b h => by rw [List.getElem?_map, h]; rfl
  rw [hopA]
  unfold forV
  generalize (o.boxes.map fun x => boxA x) = T at *
  generalize (o.who.map fun x => AV.lit (ji x)) = T2 at *
  generalize klA o.parents = T3 at *
  refine PCall.of h641 rfl ?_; show AC.wp _ fb641 (AS.init [.st [1, 1, 1, 1, 1, 32, 32, 1, 1] [.lit (ji o.author), .lit (wn o.seq), .sl 32 T3, .lit (ji o.kind), .sl 1 T2, keyA o.ofk, keyA o.check, .lit (tx o.text), .sl 36 T], .lit (ji who)] 2 25) (fun x s => match x with | .exit _ => False | _ => Fin [(.tmp 4)] s _); unfold fb641 AS.init
  refine wp_sg (areg_bx rfl (by simp [AS.ev, AV.sz]) fun l1 => areg_end (by simp [push_cast]; exact rfl) ?_)
  refine wp_seq' ?_
  by_cases h1 : o.author = who
  · refine wp_sr (by simp [push_cast, h1, o5, o6]; exact rfl) ?_
    refine wp_cond_t (by simp [AS.ev]) (wp_sr (by simp [push_cast]; exact rfl) (wp_ret' ?_))
    exact fin_tmp (by simp [RVal, AS.ev, AS.coe, h1]) (by simp)
  refine wp_sr (by simp [push_cast, h1, o5, o6]; exact rfl) ?_
  refine wp_cond_f (by simp [AS.ev]) (wp_skip' ?_)
  have hfin : (decide (o.author = who) || o.boxes.any fun b => decide (b.to = who)) = o.boxes.any fun b => decide (b.to = who) := by simp [h1]
  rw [hfin]
  refine wp_seq' (wp_seq' (wp_r (by simp [push_cast]; exact rfl) ?_))
  refine wp_block' (wp_loop_m (fun i => ⟨0, [.any, .lit (ji who), .ptr 2 l1 0 [], .any, .lit (.bool false), .lit (jn i)] ++ List.replicate 19 .any, [none, none, some (.box l1 71 (.st [1, 1, 1, 1, 1, 32, 32, 1, 1] [.lit (ji o.author), .lit (wn o.seq), .sl 32 T3, .lit (ji o.kind), .sl 1 T2, keyA o.ofk, keyA o.check, .lit (tx o.text), .sl 36 T]))] ++ List.replicate 22 none⟩) (fun i => o.boxes.length - i) (fun i => ((o.boxes.drop i).any fun b => decide (b.to = who)) = (o.boxes.any fun b => decide (b.to = who)) ∧ i ≤ o.boxes.length) 0 ?_ ⟨rfl, by simp⟩ ?_)
  · exact Le.mk rfl (by simp [leT]) (by simp [leH, keyA])
  rintro i ⟨hI, hi⟩
  simp only at hI hi ⊢
  by_cases hlt : i < o.boxes.length
  · obtain ⟨b, hbi⟩ : ∃ b, o.boxes[i]? = some b := ⟨_, List.getElem?_eq_getElem hlt⟩
    have hdrop : o.boxes.drop i = b :: o.boxes.drop (i + 1) := by
      rw [List.drop_eq_getElem_cons hlt]
      rw [List.getElem?_eq_getElem hlt] at hbi
      rw [Option.some.inj hbi]
    rw [hdrop, List.any_cons] at hI
    have j1 := hget i b hbi
    have j2 : ∀ h, T[i]'h = boxA b := fun h => by rw [List.getElem?_eq_getElem h] at j1; exact Option.some.inj j1
    have q1 : i + 1 < 9223372036854775808 := by omega
    unfold boxA at j1 j2
    refine wp_seq' (wp_sr (by simp [push_cast, hbl, hlt, o5, o6]; exact rfl) ?_)
    refine wp_cond_t (by simp [AS.ev]) (wp_skip' ?_)
    by_cases hlb : b.to = who
    · refine wp_seq' (wp_block' (wp_sr (by simp [push_cast, hbl, hlt, j1, j2, o5, o6, hlb]; exact rfl) ?_))
      refine wp_cond_t (by simp [AS.ev]) (wp_sr (by simp [push_cast]; exact rfl) (wp_ret' ?_))
      exact fin_tmp (by simp [RVal, AS.ev, AS.coe, ← hI, hlb]) (by simp)
    · refine wp_seq' (wp_block' (wp_sr (by simp [push_cast, hbl, hlt, j1, j2, o5, o6, hlb]; exact rfl) ?_))
      refine wp_cond_f (by simp [AS.ev]) (wp_skip' ?_)
      refine wp_r (by simp [push_cast, q1]; exact rfl) ?_
      refine Exists.intro (i + 1) ⟨⟨by rw [← hI]; simp [hlb], by omega⟩, by omega, Le.mk rfl (by simp [leT]) (by simp [leH, keyA])⟩
  · have hin : i = o.boxes.length := by omega
    subst hin
    rw [List.drop_length] at hI
    refine wp_seq' (wp_sr (by simp [push_cast, hbl, o5, o6]; exact rfl) ?_)
    refine wp_cond_f (by simp [AS.ev]) (wp_exit' (if_hit rfl ?_))
    refine wp_sr (by simp [push_cast]; exact rfl) (wp_ret' ?_)
    exact fin_tmp (by simp [RVal, AS.ev, AS.coe, ← hI]) (by simp)

def greatV (ws got : Nat) (o of_ : OpV) : Bool := decide (60 < ws) || (decide (10 < got) || (greatO o || greatO of_))
set_option maxHeartbeats 8000000 in
theorem great4_call {rs : List Rat} {ws : List WaitV} {o of_ : OpV} {got : List (List UInt8)} (hrl : rs.length = 8) (h32 : o.ofk.length = 32 ∧ o.check.length = 32) (ht : o.text.length < 9223372036854775808) (hb : ∀ b ∈ o.boxes, b.body.length < 9223372036854775808)
    (h32' : of_.ofk.length = 32 ∧ of_.check.length = 32) (ht' : of_.text.length < 9223372036854775808) (hb' : ∀ b ∈ of_.boxes, b.body.length < 9223372036854775808) :
    PCall Go.Proofs.Tryd.prog 6 [keysA rs (ws.map waitA), opA o, opA of_, .sl 32 (klA got)] (.val (.lit (.bool (greatV ws.length got.length o of_)))) := by
  have h604 := fc604_eq
  have c1 := great_call h32 ht hb
  have c2 := great_call h32' ht' hb'
  have hwl : (ws.map waitA).length = ws.length := List.length_map _
  have hgl := klA_len got
  have hA : (rs.map ratA).length = 8 := by rw [List.length_map]; exact hrl
  have z1 : (opA o).sz = 71 := by simp [opA, AV.sz]
  have z2 : (opA of_).sz = 71 := by simp [opA, AV.sz]
  have z3 := opA_agg o; have z4 := opA_agg of_; have z5 := opA_tup o; have z6 := opA_tup of_
  unfold greatV keysA
  generalize greatO o = g1 at *
  generalize greatO of_ = g2 at *
  generalize (ws.map waitA) = T at *
  generalize (rs.map ratA) = A at *
  generalize klA got = T2 at *
  refine PCall.of h604 rfl ?_; show AC.wp _ fb604 (AS.init [.st [528, 1] [.arr 66 A, .sl 65 T], opA o, opA of_, .sl 32 T2] 4 26) (fun x s => match x with | .exit _ => False | _ => Fin [(.tmp 8)] s _); unfold fb604 AS.init
  refine wp_sg (areg_bx rfl (by simp [AS.ev, AV.sz]) fun l4 => areg_bx (by simp [AS.ev, z5]) (by simp [AS.ev, z1]) fun l5 => areg_bx (by simp [AS.ev, z6]) (by simp [AS.ev, z2]) fun l6 => areg_end (by simp [push_cast]; exact rfl) ?_)
  refine wp_sg ?_
  by_cases h1 : 60 < ws.length
  · refine areg_run 10 (by simp [push_cast, hA, hwl, h1]; exact rfl) ?_
    refine areg_end (by simp [push_cast]; exact rfl) (wp_ret' ?_)
    exact fin_tmp (by simp [RVal, AS.ev, AS.coe, h1]) (by simp)
  by_cases h2 : 10 < got.length
  · refine areg_run 10 (by simp [push_cast, hA, hwl, hgl, h1, h2]; exact rfl) ?_
    refine areg_end (by simp [push_cast]; exact rfl) (wp_ret' ?_)
    exact fin_tmp (by simp [RVal, AS.ev, AS.coe, h1, h2]) (by simp)
  refine areg_run 10 (by simp [push_cast, hA, hwl, hgl, h1, h2]; exact rfl) ?_
  obtain ⟨o5, o6⟩ := h32
  obtain ⟨p5, p6⟩ := h32'
  refine areg_run 1 (by simp [push_cast, opA, o5, o6]; exact rfl) ?_
  refine areg_g (by simp [AS.ev, AS.put]) ?_
  refine areg_ca (by simp [AS.ev, AS.coe, AS.put] <;> exact rfl) c1 ?_
  cases g1 with
  | true =>
    refine areg_end (by simp [push_cast]; exact rfl) (wp_ret' ?_)
    exact fin_tmp (by simp [RVal, AS.ev, AS.coe, h1, h2]) (by simp)
  | false =>
    refine areg_run 2 (by simp [push_cast]; exact rfl) ?_
    refine areg_run 1 (by simp [push_cast, opA, p5, p6]; exact rfl) ?_
    refine areg_g (by simp [AS.ev, AS.put]) ?_
    refine areg_ca (by simp [AS.ev, AS.coe, AS.put] <;> exact rfl) c2 ?_
    refine areg_end (by simp [push_cast]; exact rfl) (wp_ret' ?_)
    exact fin_tmp (by simp [RVal, AS.ev, AS.coe, h1, h2]) (by simp)
end Go.Cab

/- Secrets' laws: Check, then Apply by what it said. -/
-- TEXTS
-- KIT
namespace Go.Cab
open Go.RowKit
open Classical

/-- Two ratchets that differ at most by whether they are known. -/
theorem eq_rat2 {a a' b : Bool} {k c : List UInt8} (hk : k.length = 32) (hc : c.length = 32) : EqAV Go.Proofs.Tryd.prog 25 (.st [1, 1, 32, 32] [.lit (.bool a), .lit (.bool b), keyA k, keyA c]) (.st [1, 1, 32, 32] [.lit (.bool a'), .lit (.bool b), keyA k, keyA c]) (decide (a = a')) := by
  obtain ⟨fs, _, _, _, _, hu, _⟩ := four_fields (P := Go.Proofs.Tryd.prog) (o := Go.Proofs.Tryd.prog.underlying 25) (tk := 23) (by kernel_rfl)
  have hcr : Go.Proofs.Tryd.prog.cellsOf 25 = 66 := by kernel_rfl
  intro Imm w cs cs' hx hy
  have l1 := hx.len rfl
  have l2 := hy.len rfl
  simp only [AV.sz] at l1 l2
  refine ⟨3, 3, _, _, ?_, ?_, (KLit.rat (d := 0) hk hc).2.2 Imm w cs hx, (KLit.rat (d := 0) hk hc).2.2 Imm w cs' hy, ?_⟩
  · simp only [asVal, Value.formed, hu]
    simp at l1
    simp [hcr, l1]
  · simp only [asVal, Value.formed, hu]
    simp at l2
    simp [hcr, l2]
  · simp

/-- The operation that is applied. -/
def oC (o : OpV) (me : Int) (c : List UInt8) : OpV := if forV o me = true ∧ o.kind ≠ 7 then { o with check := c } else o
structure ApIn (rats : List Rat) (ws : List WaitV) (id : List UInt8) (o of_ : OpV) (got : List (List UInt8)) : Prop where
  rl : rats.length = 8
  rk : ∀ r ∈ rats, r.key.length = 32 ∧ r.chain.length = 32
  w : ∀ w ∈ ws, w.of_.length = 32 ∧ w.key.length = 32
  wl : ws.length ≤ 60
  id : id.length = 32
  bl : ∀ b ∈ o.boxes, b.body.length < 9223372036854775808
  ok : OpOk o
  ok2 : OpOk of_
  g32 : ∀ g ∈ got, g.length = 32
  gl : got.length ≤ 10
/-- Other members' ratchets. -/
def ApartP (o : OpV) (rs rs' : List Rat) : Prop :=
  o.kind ≠ 1 → ∀ i : Nat, (i : Int) ≠ o.author → rs'[i]? = rs[i]? ∨ (o.kind = 2 ∧ o.who = [(i : Int)] ∧ ∃ q, rs[i]? = some q ∧ rs'[i]? = some ⟨true, q.open_, q.key, q.chain⟩)
theorem right_re {o : OpV} (h : rightV o = true) (h7 : o.kind ≠ 7) {c : List UInt8} (hc : c ≠ zk) : rightV { o with check := c } = true := by
  unfold rightV at h ⊢
  have e1 : c1V { o with check := c } = c1V o := rfl
  have e2 : c2V { o with check := c } = c2V o := rfl
  have e4 : whoV { o with check := c } = whoV o := rfl
  have e5 : boxesV { o with check := c } = boxesV o := rfl
  rw [e1, e2, e4, e5]
  simp only [Bool.and_eq_true, Bool.not_eq_true'] at h ⊢
  obtain ⟨⟨⟨h1, h2⟩, h3⟩, h4⟩ := h
  refine ⟨⟨⟨h1, h2⟩, ?_⟩, h4⟩
  unfold c3V at h3 ⊢
  simp only [decide_eq_false_iff_not, not_or] at h3 ⊢
  exact ⟨h3.1, by simp only [h7, false_iff]; exact not_not.2 hc, h3.2.2⟩
theorem opOk_re {o : OpV} (h : OpOk o) {c : List UInt8} (hc : c.length = 32) : OpOk { o with check := c } := ⟨h.seq, h.parents, h.p32, h.who, h.ofk, hc, h.text, h.boxes, h.bok⟩
theorem bg_re {x : StV} (h : BgOk x) {id c : List UInt8} (hi : id.length = 32) (hc : c.length = 32) (hr : rightV { x.o with check := c } = true) : BgOk (reX x id c) :=
  ⟨opOk_re h.o hc, h.of_, h.bl, hr, h.me, h.rl, hi, h.wl⟩
theorem do_re {ts us : List Term} {x : StV} {a : Nat} {r : Rat} (h : DoOk ts x a r) (hn : us.length + 100 < 90000) {id c : List UInt8} (hi : id.length = 32) (hc : c.length = 32) (hr : rightV { x.o with check := c } = true) : DoOk us (reX x id c) a r :=
  ⟨hn, opOk_re h.o hc, h.of_, hr, ⟨h.au.au, h.au.lt, h.au.len⟩, h.hr, h.rk, h.g32, h.gl, h.w, h.wl, hi⟩

theorem check_apply {H : List (Option Blk)} {t : Tb} {V0 : Value} {ts0 : List Term} (hh : TbOk H t V0 ts0) {rats : List Rat} {ws : List WaitV} {me : Int} {id : List UInt8} {o of_ : OpV} {got : List (List UInt8)} (h : ApIn rats ws id o of_ got) :
    ∃ (c : List UInt8) (e : Nat) (us : List Term), KC Go.Proofs.Tryd.prog 8 [freeI t.b t.l, keysA rats (ws.map waitA), .lit (ji me), opA o, opA of_, .sl 32 (klA got)] H t [] (.tup [keyA c, .lit (jn e)]) us ∧ c.length = 32 ∧
      ((e ≠ 0 ∧ e < 100) ∨ (e = 0 ∧ ∃ (rs' : List Rat) (ws' : List WaitV) (us2 : List Term),
        KC Go.Proofs.Tryd.prog 10 [freeI t.b t.l, keysA rats (ws.map waitA), .lit (ji me), keyA id, opA (oC o me c), opA of_, .sl 32 (klA got)] H t us (.tup [keysA rs' (ws'.map waitA), .lit (jn 0)]) us2 ∧ rs'.length = 8 ∧ ApartP o rats rs')) := by
  obtain ⟨x, hx⟩ : ∃ x : StV, x = ⟨rats, ws, me, zk, o, of_, got⟩ := ⟨_, rfl⟩
  have hbw : BgW x := by subst hx; exact ⟨h.ok, h.ok2, h.bl, h.rl, zk_len, by have := h.wl; show ws.length < 10000; omega⟩
  by_cases hA : ¬ (rightV o = true ∧ memB me = true)
  · refine ⟨zk, 1, [], KC.of hh fun H V h' => ?_, zk_len, .inl ⟨by decide, by decide⟩⟩
    have := scheck_err h' hbw (by subst hx; rfl) (e := 1) (by decide) (fun H V h' => begin_arg h' hbw (by subst hx; exact hA))
    subst hx
    exact this
  have hA := Classical.not_not.1 hA
  obtain ⟨p1, p2, p3, p4⟩ := right_parts hA.1
  obtain ⟨a, ha⟩ : ∃ a : Nat, o.author = (a : Int) := ⟨o.author.toNat, by unfold memB at p2; simp at p2; omega⟩
  have ha8 : a < 8 := by unfold memB at p2; simp at p2; omega
  obtain ⟨r, hr⟩ : ∃ r, rats[a]? = some r := ⟨_, List.getElem?_eq_getElem (by rw [h.rl]; exact ha8)⟩
  have hdo : DoOk [] x a r := by
    subst hx
    exact ⟨by simp, h.ok, h.ok2, hA.1, ⟨ha, ha8, h.rl⟩, hr, h.rk r (List.mem_of_getElem? hr), h.g32, by have := h.gl; show got.length < _; omega, h.w, by have := h.wl; show ws.length < 9000; omega, zk_len⟩
  have hbg : BgOk x := hbw.ok (by subst hx; exact hA.1) (by subst hx; exact hA.2)
  obtain ⟨b, x', ts', hd⟩ : ∃ b x' ts', doV [] x a r = (b, x', ts') := ⟨_, _, _, rfl⟩
  have hdoc := fun (H : List (Option Blk)) (V Vc : Value) (S : Sb) (hs : StT H t S x Vc V []) => do_all hdo hs
  rw [hd] at hdoc
  cases b with
  | false =>
    refine ⟨zk, 18, ts', KC.of hh fun H V h' => ?_, zk_len, .inl ⟨by decide, by decide⟩⟩
    have := scheck_err h' hbw (by subst hx; rfl) (e := 18) (by decide) (fun H V h' => begin_keys h' hbg hdoc)
    subst hx
    exact this
  | true =>
    simp only at hdoc
    obtain ⟨hO, hRest, hAg⟩ := do_out hdo hd
    obtain ⟨r', k1, k2, k3⟩ := hO.r
    have hn := hO.n
    simp only [List.length_nil] at hn
    by_cases hC : forV o me = true ∧ o.kind ≠ 7
    · have hC' : forV x.o x.me = true ∧ x.o.kind ≠ 7 := by subst hx; exact hC
      have hpl := putT_len ts' (chkT r'.chain)
      have nm := Nm.put ts' (chkT r'.chain)
      have hck := hdoc
      have kc := fun (H : List (Option Blk)) (V : Value) (h' : TbOk H t V []) => scheck_call h' hbg (by subst hx; rfl) (by omega) hdoc hO.o hO.me hO.au k1 k2 k3 hC'.1 hC'.2
      have pre := put_pre ts' (chkT r'.chain)
      generalize nameK (putN ts' (chkT r'.chain)) = c at *
      generalize putT ts' (chkT r'.chain) = us at *
      have hcl := nm.len
      have hcz := nm.nz
      refine ⟨c, 0, us, KC.of hh fun H V h' => (by have := kc H V h'; subst hx; exact this), hcl, .inr ⟨rfl, ?_⟩⟩
      obtain ⟨y', hd2, hy⟩ := hAg us pre id c
      have hrr : rightV { x.o with check := c } = true := right_re (by subst hx; exact hA.1) hC'.2 hcz
      have hdo2 := do_re hdo (us := us) (by omega) (id := id) (c := c) h.id hcl hrr
      obtain ⟨hO2, _, _⟩ := do_out hdo2 hd2
      have hdoc2 := fun (H : List (Option Blk)) (V Vc : Value) (S : Sb) (hs : StT H t S (reX x id c) Vc V us) => do_all hdo2 hs
      rw [hd2] at hdoc2
      simp only at hdoc2
      have ka := fun (H : List (Option Blk)) (V : Value) (h' : TbOk H t V us) => apply_call h' (bg_re hbg h.id hcl hrr) (by omega) hdoc2 hO2.o hO2.me hO2.au (r := r') (by rw [hy]; exact k1) k2 k3 (by exact hC'.1) (by exact hC'.2)
      rw [nm.putT, nm.putN] at ka
      have hoc : oC o me c = { o with check := c } := by unfold oC; rw [if_pos hC]
      rw [hoc]
      have hcc : ∀ (id c : List UInt8), (reX x id c).o.check = c := fun _ _ => rfl
      have fin : ∀ r0 H' H, (r0 = appA y' (decide (c = (reX x id c).o.check)) ∧ ∃ V', H' = tbOf H t V' us) → r0 = .tup [keysA y'.rats (y'.waits.map waitA), .lit (jn 0)] ∧ ∃ V', H' = tbOf H t V' us := fun r0 H' H ⟨e1, h2⟩ => ⟨by rw [e1, hcc]; simp [appA], h2⟩
      have ka2 := fun H V h' => XCall.mono (ka H V h') (fun r0 H' hk => fin r0 H' H hk)
      refine ⟨y'.rats, y'.waits, us, KC.of hh fun H V h' => (by have := ka2 H V h'; subst hx; exact this), by rw [hy]; exact hO.au.len, ?_⟩
      rw [hy]
      intro hk i hi
      subst hx
      exact hRest hk i (fun e => hi (by rw [ha, e]))
    · have hC' : ¬ (forV x.o x.me = true ∧ x.o.kind ≠ 7) := by subst hx; exact hC
      refine ⟨zk, 0, ts', KC.of hh fun H V h' => (by have := scheck_none h' hbg (by subst hx; rfl) hdoc hO.o hO.me hC'; subst hx; exact this), zk_len, .inr ⟨rfl, ?_⟩⟩
      obtain ⟨y', hd2, hy⟩ := hAg ts' (List.prefix_refl _) id x.o.check
      have hrr : rightV { x.o with check := x.o.check } = true := by subst hx; exact hA.1
      have hcl : x.o.check.length = 32 := by subst hx; exact h.ok.check
      have hdo2 := do_re hdo (us := ts') (by omega) (id := id) (c := x.o.check) h.id hcl hrr
      obtain ⟨hO2, _, _⟩ := do_out hdo2 hd2
      have hdoc2 := fun (H : List (Option Blk)) (V Vc : Value) (S : Sb) (hs : StT H t S (reX x id x.o.check) Vc V ts') => do_all hdo2 hs
      rw [hd2] at hdoc2
      simp only at hdoc2
      have ka := fun (H : List (Option Blk)) (V : Value) (h' : TbOk H t V ts') => apply_none h' (bg_re hbg h.id hcl hrr) hdoc2 hO2.au.len (by exact hC')
      have hoc : oC o me zk = o := by unfold oC; rw [if_neg hC]
      rw [hoc]
      refine ⟨y'.rats, y'.waits, ts', KC.of hh fun H V h' => (by have := ka H V h'; subst hx; exact this), by rw [hy]; exact hO.au.len, ?_⟩
      rw [hy]
      intro hk i hi
      subst hx
      exact hRest hk i (fun e => hi (by rw [ha, e]))
end Go.Cab

/- Part 8 of what the proof stands on: G13, G14, G15, G16, G17, G18. -/
import Derived.Test.YtjdoefdcdogeiaaCab07
set_option linter.unusedSimpArgs false
set_option linter.unnecessarySimpa false
set_option linter.unusedVariables false
set_option linter.unusedSectionVars false
/- Bundle: Show. -/
-- TEXTS
-- KIT
namespace Go.Cab
open Classical
def fb413 : AC := (.seq (.reg [⟨(.some 3), .none, (.box 65 (.tmp 1)), [], .none⟩, ⟨(.some 4), .none, (.alloc 65 (.st [32, 32, 1] [(.arr 1 (List.replicate 32 (.lit (bn 0)))), (.arr 1 (List.replicate 32 (.lit (bn 0)))), (.lit (.slice .none 0 0))])), [], .none⟩]) (.seq (.reg [⟨(.some 9), .none, (.mov (.tmp 0)), [], .none⟩, ⟨(.some 10), .none, (.rdp .nilv [(.tmp 9)]), [], .none⟩, ⟨(.some 11), .none, (.rdp (.mkfn (.method "Pub") 1) [(.tmp 10)]), [], .none⟩, ⟨(.some 5), .none, (.mov (.tmp 11)), [], .none⟩]) (.seq (.reg [⟨(.some 12), .none, (.mov (.tmp 5)), [], .none⟩, ⟨(.some 13), .none, (.faddr 0 0 (.tmp 3)), [], .none⟩, ⟨(.some 14), .none, (.load .true 32 (.tmp 13)), [6], (.some 3)⟩, ⟨(.some 15), .none, (.xc .val [(.tmp 12), (.tmp 14)] [3] [6]), [], .none⟩, ⟨(.some 16), .none, (.mov (.tmp 5)), [], .none⟩, ⟨(.some 17), .none, (.faddr 32 1 (.tmp 3)), [], .none⟩, ⟨(.some 18), .none, (.load .true 32 (.tmp 17)), [6], (.some 3)⟩, ⟨(.some 19), .none, (.xc .val [(.tmp 16), (.tmp 18)] [] [6]), [], .none⟩, ⟨(.some 20), .none, (.build (.st [32, 32, 1] [(.arr 1 (List.replicate 32 (.lit (bn 0)))), (.arr 1 (List.replicate 32 (.lit (bn 0)))), (.lit (.slice .none 0 0))]) [(0, (.tmp 15)), (1, (.tmp 19))]), [], .none⟩, ⟨(.some 6), .none, (.alloc 65 (.st [32, 32, 1] [(.arr 1 (List.replicate 32 (.lit (bn 0)))), (.arr 1 (List.replicate 32 (.lit (bn 0)))), (.lit (.slice .none 0 0))])), [], .none⟩, ⟨.none, .none, (.store 65 (.tmp 6) (.tmp 20)), [], .none⟩]) (.seq (.seq (.reg [⟨(.some 21), .none, (.faddr 64 2 (.tmp 3)), [], .none⟩, ⟨(.some 22), .none, (.load .false 1 (.tmp 21)), [], .none⟩, ⟨(.some 23), .none, (.len .false (.tmp 22)), [], .none⟩, ⟨(.some 24), .none, (.mov (.const (jn 0))), [], .none⟩]) (.block 0 (.loop (.seq (.reg [⟨(.some 25), .none, (.bin .lss (.tmp 24) (.tmp 23)), [], .none⟩]) (.seq (.cond (.tmp 25) .skip (.exit 0)) (.seq (.block 1 (.seq (.reg [⟨(.some 26), .none, (.iaddrS 32 (.tmp 22) (.tmp 24)), [], .none⟩, ⟨(.some 27), .none, (.load .true 32 (.tmp 26)), [], .none⟩, ⟨(.some 8), .none, (.alloc 32 (.arr 1 (List.replicate 32 (.lit (bn 0))))), [], .none⟩, ⟨.none, .none, (.store 32 (.tmp 8) (.tmp 27)), [], .none⟩]) (.reg [⟨(.some 28), .none, (.faddr 64 2 (.tmp 6)), [], .none⟩, ⟨(.some 29), .none, (.load .false 1 (.tmp 28)), [], (.some 6)⟩, ⟨(.some 30), .none, (.mov (.tmp 5)), [], .none⟩, ⟨(.some 31), .none, (.load .true 32 (.tmp 8)), [], (.some 8)⟩, ⟨(.some 32), .none, (.xc .val [(.tmp 30), (.tmp 31)] [6] []), [], .none⟩, ⟨(.some 33), .none, (.bslice 32 (.arr 1 (List.replicate 32 (.lit (bn 0)))) 1 [(0, (.tmp 32))]), [], .none⟩, ⟨(.some 34), .none, (.append 28 32 32 (.tmp 29) (.tmp 33)), [], .none⟩, ⟨(.some 35), .none, (.faddr 64 2 (.tmp 6)), [], .none⟩, ⟨.none, .none, (.store 1 (.tmp 35) (.tmp 34)), [], .none⟩]))) (.reg [⟨(.some 36), .none, (.bin .add (.tmp 24) (.const (jn 1))), [], .none⟩, ⟨(.some 24), .none, (.mov (.tmp 36)), [], .none⟩]))))))) (.seq (.reg [⟨(.some 37), .none, (.load .true 65 (.tmp 6)), [], .none⟩, ⟨.none, .none, (.store 65 (.tmp 4) (.tmp 37)), [], .none⟩]) .ret)))))
def fc413 : FC := ⟨2, 38, [(.cell 4 .true 65)], fb413⟩
theorem fc413_eq : compF Go.Proofs.Try.prog 8 = some fc413 := by kernel_rfl

def mpub (b : Nat) (l : Nat × Nat) : AV := .fnv (.method "Pub") [freeI b l] []
theorem tgt_mpub (b : Nat) (l : Nat × Nat) (x : AV) : tgtA Go.Proofs.Try.prog .val [mpub b l, x] = some (52, [.ptr b l 0 [], x]) := by kernel_rfl
theorem nilv_free (b : Nat) (l : Nat × Nat) : rdA Go.Proofs.Try.prog (fun _ => none) .nilv [freeI b l] = some (freeI b l) := rfl
theorem mkfn_pub (b : Nat) (l : Nat × Nat) : rdA Go.Proofs.Try.prog (fun _ => none) (.mkfn (.method "Pub") 1) [freeI b l] = some (mpub b l) := rfl
def pubsG : List (List UInt8) → List Term → List (List UInt8) → List (List UInt8) × List Term
  | [], ts, acc => (acc, ts)
  | x :: xs, ts, acc => pubsG xs (putT ts (pubT x)) (acc ++ [nameK (putN ts (pubT x))])
/-- What a store shows. -/
def showT (ts : List Term) (s : Store) : Store × List Term :=
  let ts1 := putT ts (pubT s.id)
  let ts2 := putT ts1 (pubT s.pre)
  let o := pubsG s.ones ts2 []
  (⟨nameK (putN ts (pubT s.id)), nameK (putN ts1 (pubT s.pre)), o.1⟩, o.2)

def PubG (H : List (Option Blk)) (t : Tb) (ts : List Term) (k : List UInt8) (r : AV) (G : List (Option Blk)) : Prop := r = keyA (nameK (putN ts (pubT k))) ∧ ∃ V', G = tbOf H t V' (putT ts (pubT k))
theorem pub_xf {H : List (Option Blk)} {t : Tb} {V0 : Value} {ts0 : List Term} (hh : TbOk H t V0 ts0) {ts : List Term} (hn : ts.length < 100000) (V : Value) (L : List (Option Blk)) {k : List UInt8} (hk : k.length = 32) (E : List (Tmp × Blk)) :
    XCall Go.Proofs.Try.prog 52 [.ptr t.b t.l 0 [], keyA k] (setE H.length (tbOf H t V ts ++ L) E) fun r H' => ∃ hp', (∃ G', PubG H t ts k r G' ∧ hp' = G' ++ L) ∧ H' = setE H.length hp' E := by
  refine xf_of (tbOf_len _ _ _ _) (fun L => ?_) (fun r G' hG => by obtain ⟨_, V', rfl⟩ := hG; exact tbOf_len _ _ _ _) E
  refine XCall.mono (pub_at hh hn V L hk) ?_
  rintro r H' ⟨h1, V', rfl⟩
  exact ⟨_, ⟨h1, V', rfl⟩, rfl⟩
theorem PubG.ex (H : List (Option Blk)) (t : Tb) (ts : List Term) (k : List UInt8) (L : List (Option Blk)) : ∃ r hp', ∃ G', PubG H t ts k r G' ∧ hp' = G' ++ L := ⟨_, _, _, ⟨rfl, .slice none 0 0, rfl⟩, rfl⟩

def zst : AV := .st [32, 32, 1] [keyA zk, keyA zk, .lit (.slice none 0 0)]
def shwS (N : Nat) (H : List (Option Blk)) (t : Tb) (s : Store) (l3 l4 l6 : Nat × Nat) (id pre : List UInt8) (x : Nat × List (List UInt8) × List Term × Value × Value) : AS :=
  ⟨N, [freeI t.b t.l, storeA s, .any, .ptr (N + 3) l3 0 [], .ptr (N + 4) l4 0 [], mpub t.b t.l, .ptr (N + 6) l6 0 []] ++ List.replicate 15 .any ++ [.sl 32 (klA s.ones), .lit (jn s.ones.length), .lit (jn x.1)] ++ List.replicate 13 .any,
    tbOf H t x.2.2.2.2 x.2.2.1 ++ ([none, none, none, some (.box l3 65 (storeA s)), some (.box l4 65 zst), none, some (.box l6 65 (.st [32, 32, 1] [keyA id, keyA pre, .own (N + 34) x.2.2.2.1]))] ++ List.replicate 27 none ++ [some (.row 28 x.2.2.2.1 32 (klA x.2.1) 0)] ++ List.replicate 3 none)⟩

set_option maxHeartbeats 16000000 in
theorem show_call {H : List (Option Blk)} {t : Tb} {V : Value} {ts : List Term} (hh : TbOk H t V ts) (hts : TsOk ts) {s : Store} (hs : StoreOk s) (hlen : ts.length + 3000 < 90000) :
    XCall Go.Proofs.Try.prog 8 [freeI t.b t.l, storeA s] H fun r H' => r = storeA (showT ts s).1 ∧ ∃ V', H' = tbOf H t V' (showT ts s).2 := by
  have h413 := fc413_eq
  refine XCall.le ?_
  have hself := hh.self
  have G1 : ∀ V' ts', (tbOf H t V' ts').length = H.length := fun V' ts' => tbOf_len _ _ _ _
  have g1 : ∀ V' ts' L k, (tbOf H t V' ts' ++ L)[H.length + k]? = L[k]? := fun V' ts' L k => cat1 _ _ _ _ (G1 _ _)
  have g2 : ∀ V' ts' L k x, (tbOf H t V' ts' ++ L).set (H.length + k) x = tbOf H t V' ts' ++ L.set k x := fun V' ts' L k x => cat2 _ _ _ _ _ (G1 _ _)
  have hpx := fun ts' (h : ts'.length < 100000) V' L k hk E => pub_xf hh (ts := ts') h V' L (k := k) hk E
  have hpa := fun ts' (h : ts'.length < 100000) V' L k hk => pub_at hh (ts := ts') h V' L (k := k) hk
  obtain ⟨sid, spre, sones⟩ := s
  obtain ⟨o1, o2, o3, o4⟩ := hs
  simp only at o1 o2 o3 o4
  have hst : showT ts ⟨sid, spre, sones⟩ = (⟨nameK (putN ts (pubT sid)), nameK (putN (putT ts (pubT sid)) (pubT spre)), (pubsG sones (putT (putT ts (pubT sid)) (pubT spre)) []).1⟩, (pubsG sones (putT (putT ts (pubT sid)) (pubT spre)) []).2) := rfl
  rw [hst]
  unfold storeA
  simp only
  refine XCall.of h413 rfl ?_; show AC.wp _ fb413 ⟨H.length, [freeI t.b t.l, .st [32, 32, 1] [keyA sid, keyA spre, .sl 32 (klA sones)]] ++ List.replicate (38 - 2) .any, H ++ List.replicate 38 none⟩ (fun x s => match x with | .exit _ => False | _ => ∃ s1, Le s s1 ∧ FinX [(.cell 4 .true 65)] s1 _); unfold fb413
  rw [← hself]
  rw [tbOf_len]
  generalize hN : H.length = N at *
  refine wp_sg (areg_bx rfl (by simp [AS.ev, AV.sz]) fun l3 => areg_al' (z' := zst) (by rw [zst, zk_eq]) fun l4 => areg_end (by simp [push_cast, g2]; exact rfl) ?_)
  refine wp_sg ?_
  refine areg_run 1 (by simp [push_cast]; exact rfl) ?_
  refine areg_rdp (us := [freeI t.b t.l]) rfl (nilv_free _ _) ?_
  refine areg_rdp (us := [freeI t.b t.l]) rfl (mkfn_pub _ _) ?_
  refine areg_end (by simp [push_cast]; exact rfl) ?_
  refine wp_sg ?_
  refine areg_run 3 (by simp [push_cast, g1, g2, o1, zst]; exact rfl) ?_
  refine areg_xf (us := [mpub t.b t.l, keyA sid]) rfl (tgt_mpub _ _ _) (fun E _ => hpx ts (by omega) V _ sid o1 E) (PubG.ex _ _ _ _ _) (fun t' ht' => by simp at ht'; subst ht'; simp [G1]) (fun r hp' hK => ?_) ?_
  · obtain ⟨G', ⟨_, V', rfl⟩, rfl⟩ := hK
    refine ⟨fun t' ht' b hb' => ?_, by simp [G1]⟩
    simp at ht'
    subst ht'
    simp [AS.ev, AV.place] at hb'
    subst hb'
    simp only [g1]
  rintro r H' ⟨G', ⟨rfl, V1, rfl⟩, rfl⟩
  have hlen1 := putT_len ts (pubT sid)
  have hts1 := hts.putPub o1 (by omega)
  have k1 := nameK_len (putN ts (pubT sid))
  generalize nameK (putN ts (pubT sid)) = id at *
  generalize putT ts (pubT sid) = ts1 at *
  refine areg_run 3 (by simp [push_cast, g1, g2, o2, zst]; exact rfl) ?_
  refine areg_xf (us := [mpub t.b t.l, keyA spre]) rfl (tgt_mpub _ _ _) (fun E _ => hpx ts1 (by omega) V1 _ spre o2 E) (PubG.ex _ _ _ _ _) (fun t' ht' => by simp at ht'; subst ht'; simp [G1]) (fun r hp' hK => ?_) ?_
  · obtain ⟨G', ⟨_, V', rfl⟩, rfl⟩ := hK
    exact ⟨fun t' ht' => (by cases ht'), by simp [G1]⟩
  rintro r H' ⟨G', ⟨rfl, V2, rfl⟩, rfl⟩
  have hlen2 := putT_len ts1 (pubT spre)
  have hts2 := hts1.putPub o2 (by omega)
  have k2 := nameK_len (putN ts1 (pubT spre))
  generalize nameK (putN ts1 (pubT spre)) = pre at *
  generalize putT ts1 (pubT spre) = ts2 at *
  refine areg_run 1 (by simp [push_cast, k1, k2]; exact rfl) ?_
  refine areg_al' (z' := zst) (by rw [zst, zk_eq]) fun l6 => areg_end (by simp [push_cast, g1, g2, k1, k2, zst]; exact rfl) ?_
  refine wp_seqL (wp_seq' (wp_r (by simp [push_cast, g1, klA_len]; exact rfl) ?_))
  refine wp_block' (wp_loop_m (shwS N H t ⟨sid, spre, sones⟩ l3 l4 l6 id pre) (fun x => sones.length - x.1) (fun x => pubsG (sones.drop x.1) x.2.2.1 x.2.1 = pubsG sones ts2 [] ∧ x.1 ≤ sones.length ∧ TsOk x.2.2.1 ∧ x.2.2.1.length + (sones.length - x.1) + 1000 < 90000 ∧ x.2.1.length = x.1) (0, [], ts2, .slice none 0 0, V2) ?_ ⟨rfl, by simp, hts2, by simp; omega, rfl⟩ ?_)
  · refine Le.trans (Le.nilField (b := N + 6) (j := N + 34) (l := l6) (n := 65) (v := .st [32, 32, 1] [keyA id, keyA pre, .lit (.slice none 0 0)]) (v' := .st [32, 32, 1] [keyA id, keyA pre, .own (N + 34) (.slice none 0 0)]) (by simp only [AS.blk, g1]; rfl) (AVle.st1 (AVle.refl _) (AVle.st1 (AVle.refl _) (AVle.st1 (AVle.nil _) AVle.st0))) (by simp only [AS.blk, g1]; rfl) (by simp [G1]) (by simp [G1]) 28 32) (Le.mk rfl (by simp [shwS, leT, storeA, keyA]) ?_)
    simp only [g2, shwS]
    exact leH_app (leH_refl _) (by simp [leH, klA, keyA, zst, storeA])
  · rintro ⟨i, acc, ts3, Vr, Vt⟩ ⟨hI, hi, hok, hl3, hacc⟩
    simp only at hI hi hok hl3 hacc ⊢
    unfold shwS storeA zst
    simp only
    by_cases hlt : i < sones.length
    · obtain ⟨x, hx⟩ : ∃ x, sones[i]? = some x := ⟨_, List.getElem?_eq_getElem hlt⟩
      have hdrop : sones.drop i = x :: sones.drop (i + 1) := by
        rw [List.drop_eq_getElem_cons hlt]
        rw [List.getElem?_eq_getElem hlt] at hx
        rw [Option.some.inj hx]
      rw [hdrop, pubsG] at hI
      have hx32 := o3 _ (List.mem_of_getElem? hx)
      have e1 : (klA sones)[i]? = some (keyA x) := by rw [klA_get, hx]; rfl
      have e2 : ∀ h, (klA sones)[i]'h = keyA x := fun h => by rw [List.getElem?_eq_getElem h] at e1; exact Option.some.inj e1
      have q1 : i + 1 < 9223372036854775808 := by omega
      have hpa1 := fun L => hpa ts3 (by omega) Vt L x hx32
      have hlen4 := putT_len ts3 (pubT x)
      have hts4 := hok.putPub hx32 (by omega)
      have hk32 := nameK_len (putN ts3 (pubT x))
      refine wp_sr (by simp [push_cast, hlt]; exact rfl) (wp_seq' (wp_cond_t (by simp [AS.ev]) (wp_skip' ?_)))
      refine wp_seq' (wp_block' (wp_sg ?_))
      refine areg_run 2 (by simp [push_cast, e1, e2, hlt, klA_len]; exact rfl) ?_
      refine areg_al' zk_eq.symm fun l8 => areg_end (by simp [push_cast, g1, g2, hx32]; exact rfl) ?_
      refine wp_rg ?_
      refine areg_run 4 (by simp [push_cast, g1, g2, hx32]; exact rfl) ?_
      refine areg_xq (us := [mpub t.b t.l, keyA x]) rfl (tgt_mpub _ _ _) (hpa1 _) ⟨_, _, rfl, .slice none 0 0, rfl⟩ (fun r hp' hK t' ht' b hb' => ?_) ?_
      · obtain ⟨_, V', rfl⟩ := hK
        simp at ht'
        subst ht'
        simp [AS.ev, AV.place] at hb'
        subst hb'
        simp only [g1]
      rintro r H' ⟨rfl, Vt', rfl⟩
      generalize nameK (putN ts3 (pubT x)) = kk at *
      generalize putT ts3 (pubT x) = ts4 at *
      refine areg_run 1 (by simp [push_cast, hk32]; exact rfl) ?_
      refine areg_ap (b := N + 34) (V := Vr) (ys := [keyA kk]) rfl (by simp only [AS.blk, g1]; rfl) (by simp [AS.ev, AS.coe, keyA]) (by rw [klA_len, hacc]; simp [maxLen]; omega) (by rw [klA_len, hacc]; simp; omega) (fun V4 => ?_)
      refine areg_end (by simp [push_cast, g1, g2]; exact rfl) ?_
      refine wp_r (by simp [push_cast, q1]; exact rfl) ?_
      refine Exists.intro (i + 1, acc ++ [kk], ts4, V4, Vt') ⟨⟨hI, by omega, hts4, by simp only; omega, by simp [hacc]⟩, by simp only; omega, Le.mk rfl (by simp [leT, keyA]) ?_⟩
      refine leH_app (leH_refl _) ?_
      simp [leH, klA, keyA]
    · have hin : i = sones.length := by omega
      subst hin
      rw [List.drop_length, pubsG] at hI
      rw [← hI]
      refine wp_sr (by simp [push_cast]; exact rfl) (wp_seq' (wp_cond_f (by simp [AS.ev]) (wp_exit' (if_hit rfl ?_))))
      refine ⟨_, Le.sealedF (b := N + 6) (j := N + 34) (n := 65) (i := 2) (e := 28) (esz := 32) (sl := 0) (l := l6) (ns := [32, 32, 1]) (fs := [keyA id, keyA pre, .own (N + 34) Vr]) (els := klA acc) (V := Vr) (by simp only [AS.blk, g1]; rfl) rfl (by simp only [AS.blk, g1]; rfl), ?_⟩
      refine wp_sr (by simp [push_cast, g1, g2, k1, k2]; exact rfl) (wp_ret' ?_)
      refine ⟨_, Le.refl _, [], storeA ⟨id, pre, acc⟩, ⟨by simp [AS.seals, RVal, AS.ev, AS.peek, AS.blk, g1, Blk.loc, Blk.cont, Blk.n, AV.nav, AV.isAgg, AV.isTup, AS.coe]; rfl, by simp [storeA]⟩, _, _, RelLe.refl _, by simp [storeA], HpLe.trim _ _, rfl, Vt, (hh.of_of _ _ _ _).symm⟩
end Go.Cab

/- Bundle: Begin. -/
-- TEXTS
-- KIT
namespace Go.Cab
open Classical
def fb415 : AC := (.seq (.reg [⟨(.some 5), .none, (.box 32 (.tmp 1)), [], .none⟩, ⟨(.some 6), .none, (.box 32 (.tmp 2)), [], .none⟩, ⟨(.some 7), .none, (.box 65 (.tmp 3)), [], .none⟩, ⟨(.some 8), .none, (.alloc 96 (.st [32, 32, 32] [(.arr 1 (List.replicate 32 (.lit (bn 0)))), (.arr 1 (List.replicate 32 (.lit (bn 0)))), (.arr 1 (List.replicate 32 (.lit (bn 0))))])), [], .none⟩, ⟨(.some 9), .none, (.alloc 32 (.arr 1 (List.replicate 32 (.lit (bn 0))))), [], .none⟩, ⟨(.some 10), .none, (.alloc 65 (.st [32, 32, 1] [(.arr 1 (List.replicate 32 (.lit (bn 0)))), (.arr 1 (List.replicate 32 (.lit (bn 0)))), (.lit (.slice .none 0 0))])), [], .none⟩, ⟨(.some 11), .none, (.mov (.const (jn 0))), [], .none⟩]) (.seq (.reg [⟨(.some 17), .none, (.load .true 32 (.tmp 5)), [], .none⟩, ⟨(.some 18), .none, (.faddr 32 1 (.tmp 7)), [], .none⟩, ⟨(.some 19), .none, (.load .true 32 (.tmp 18)), [], .none⟩, ⟨(.some 20), .none, (.build (.st [32, 32] [(.arr 1 (List.replicate 32 (.lit (bn 0)))), (.arr 1 (List.replicate 32 (.lit (bn 0))))]) [(0, (.tmp 17)), (1, (.tmp 19))]), [], .none⟩, ⟨(.some 21), .none, (.load .true 32 (.tmp 6)), [], .none⟩, ⟨(.some 22), .none, (.faddr 0 0 (.tmp 7)), [], .none⟩, ⟨(.some 23), .none, (.load .true 32 (.tmp 22)), [], .none⟩, ⟨(.some 24), .none, (.build (.st [32, 32] [(.arr 1 (List.replicate 32 (.lit (bn 0)))), (.arr 1 (List.replicate 32 (.lit (bn 0))))]) [(0, (.tmp 21)), (1, (.tmp 23))]), [], .none⟩, ⟨(.some 25), .none, (.load .true 32 (.tmp 6)), [], .none⟩, ⟨(.some 26), .none, (.faddr 32 1 (.tmp 7)), [], .none⟩, ⟨(.some 27), .none, (.load .true 32 (.tmp 26)), [], .none⟩, ⟨(.some 28), .none, (.build (.st [32, 32] [(.arr 1 (List.replicate 32 (.lit (bn 0)))), (.arr 1 (List.replicate 32 (.lit (bn 0))))]) [(0, (.tmp 25)), (1, (.tmp 27))]), [], .none⟩, ⟨(.some 29), .none, (.ef (.bown 55 64 (.st [32, 32] [(.arr 1 (List.replicate 32 (.lit (bn 0)))), (.arr 1 (List.replicate 32 (.lit (bn 0))))]) 3 [0, 1, 2]) [(.tmp 20), (.tmp 24), (.tmp 28)]), [], .none⟩, ⟨(.some 12), .none, (.mov (.tmp 29)), [], .none⟩]) (.seq (.reg [⟨(.some 13), .none, (.alloc 96 (.st [32, 32, 32] [(.arr 1 (List.replicate 32 (.lit (bn 0)))), (.arr 1 (List.replicate 32 (.lit (bn 0)))), (.arr 1 (List.replicate 32 (.lit (bn 0))))])), [], .none⟩]) (.seq (.reg [⟨(.some 30), .none, (.faddr 64 2 (.tmp 7)), [], .none⟩, ⟨(.some 31), .none, (.load .false 1 (.tmp 30)), [], .none⟩, ⟨(.some 32), .none, (.call 15 [(.tmp 31)]), [], .none⟩, ⟨(.some 14), .none, (.mov (.tmp 32)), [], .none⟩]) (.seq (.seq (.reg [⟨(.some 33), .none, (.mov (.tmp 14)), [], .none⟩, ⟨(.some 34), .none, (.len .false (.tmp 33)), [], .none⟩, ⟨(.some 35), .none, (.bin .gtr (.tmp 34) (.const (jn 0))), [], .none⟩]) (.cond (.tmp 35) (.seq (.reg [⟨(.some 36), .none, (.mov (.tmp 14)), [], .none⟩, ⟨(.some 37), .none, (.iaddrS 32 (.tmp 36) (.const (jn 0))), [], .none⟩, ⟨(.some 38), .none, (.load .true 32 (.tmp 37)), [], .none⟩, ⟨(.some 39), .none, (.faddr 64 2 (.tmp 13)), [], .none⟩, ⟨.none, .none, (.store 32 (.tmp 39) (.tmp 38)), [], .none⟩]) (.reg [⟨(.some 40), .none, (.mov (.tmp 12)), [], .none⟩, ⟨(.some 41), .none, (.load .true 32 (.tmp 6)), [], (.some 6)⟩, ⟨(.some 42), .none, (.faddr 64 2 (.tmp 13)), [], .none⟩, ⟨(.some 43), .none, (.load .true 32 (.tmp 42)), [], (.some 13)⟩, ⟨(.some 44), .none, (.build (.st [32, 32] [(.arr 1 (List.replicate 32 (.lit (bn 0)))), (.arr 1 (List.replicate 32 (.lit (bn 0))))]) [(0, (.tmp 41)), (1, (.tmp 43))]), [], .none⟩, ⟨(.some 45), .none, (.bslice 64 (.st [32, 32] [(.arr 1 (List.replicate 32 (.lit (bn 0)))), (.arr 1 (List.replicate 32 (.lit (bn 0))))]) 1 [(0, (.tmp 44))]), [], .none⟩, ⟨(.some 46), .none, (.append 55 64 64 (.tmp 40) (.tmp 45)), [], .none⟩, ⟨(.some 47), .none, (.mov (.tmp 14)), [], .none⟩, ⟨(.some 48), .none, (.rdp (.sslice 32 .true .false) [(.tmp 47), (.const (jn 1))]), [], .none⟩, ⟨(.some 12), .none, (.mov (.tmp 46)), [], .none⟩, ⟨(.some 14), .none, (.mov (.tmp 48)), [], .none⟩])) .skip)) (.seq (.reg [⟨(.some 50), .none, (.mov (.tmp 0)), [], .none⟩, ⟨(.some 51), .none, (.mov (.tmp 12)), [], .none⟩, ⟨(.some 52), .none, (.xc (.dir 16) [(.tmp 50), (.tmp 51)] [] []), [], .none⟩, ⟨(.some 49), .none, (.mov (.tmp 52)), [], .none⟩, ⟨(.some 53), .none, (.ext (.tmp 49) 0), [], .none⟩, ⟨(.some 54), .none, (.ext (.tmp 49) 1), [], .none⟩, ⟨(.some 15), .none, (.alloc 32 (.arr 1 (List.replicate 32 (.lit (bn 0))))), [], .none⟩, ⟨.none, .none, (.store 32 (.tmp 15) (.tmp 53)), [], .none⟩, ⟨(.some 16), .none, (.mov (.tmp 54)), [], .none⟩]) (.seq (.seq (.reg [⟨(.some 55), .none, (.mov (.tmp 16)), [], .none⟩, ⟨(.some 56), .none, (.un .not (.tmp 55)), [], .none⟩]) (.cond (.tmp 56) (.seq (.reg [⟨(.some 57), .none, (.build (.st [32, 32, 32] [(.arr 1 (List.replicate 32 (.lit (bn 0)))), (.arr 1 (List.replicate 32 (.lit (bn 0)))), (.arr 1 (List.replicate 32 (.lit (bn 0))))]) []), [], .none⟩, ⟨(.some 58), .none, (.build (.arr 1 (List.replicate 32 (.lit (bn 0)))) []), [], .none⟩, ⟨(.some 59), .none, (.build (.st [32, 32, 1] [(.arr 1 (List.replicate 32 (.lit (bn 0)))), (.arr 1 (List.replicate 32 (.lit (bn 0)))), (.lit (.slice .none 0 0))]) []), [], .none⟩, ⟨.none, .none, (.store 96 (.tmp 8) (.tmp 57)), [], .none⟩, ⟨.none, .none, (.store 32 (.tmp 9) (.tmp 58)), [], .none⟩, ⟨.none, .none, (.store 65 (.tmp 10) (.tmp 59)), [], .none⟩, ⟨(.some 11), .none, (.mov (.const (jn 12))), [], .none⟩]) .ret) .skip)) (.seq (.reg [⟨(.some 60), .none, (.mov (.tmp 0)), [], .none⟩, ⟨(.some 61), .none, (.load .true 32 (.tmp 5)), [], (.some 5)⟩, ⟨(.some 62), .none, (.xc (.inv "Pub") [(.tmp 60), (.tmp 61)] [6] []), [], .none⟩, ⟨(.some 63), .none, (.mov (.tmp 0)), [], .none⟩, ⟨(.some 64), .none, (.load .true 32 (.tmp 6)), [13], (.some 6)⟩, ⟨(.some 65), .none, (.xc (.inv "Pub") [(.tmp 63), (.tmp 64)] [] []), [], .none⟩, ⟨(.some 66), .none, (.faddr 0 0 (.tmp 13)), [], .none⟩, ⟨.none, .none, (.store 32 (.tmp 66) (.tmp 62)), [], (.some 13)⟩, ⟨(.some 67), .none, (.faddr 32 1 (.tmp 13)), [], .none⟩, ⟨.none, .none, (.store 32 (.tmp 67) (.tmp 65)), [], .none⟩]) (.seq (.reg [⟨(.some 68), .none, (.load .true 96 (.tmp 13)), [], .none⟩, ⟨(.some 69), .none, (.load .true 32 (.tmp 15)), [8], .none⟩, ⟨(.some 70), .none, (.faddr 0 0 (.tmp 7)), [], .none⟩, ⟨(.some 71), .none, (.load .true 32 (.tmp 70)), [8, 9], .none⟩, ⟨(.some 72), .none, (.faddr 32 1 (.tmp 7)), [], .none⟩, ⟨(.some 73), .none, (.load .true 32 (.tmp 72)), [8, 9], .none⟩, ⟨(.some 74), .none, (.mov (.tmp 14)), [], .none⟩, ⟨(.some 75), .none, (.build (.st [32, 32, 1] [(.arr 1 (List.replicate 32 (.lit (bn 0)))), (.arr 1 (List.replicate 32 (.lit (bn 0)))), (.lit (.slice .none 0 0))]) [(0, (.tmp 71)), (1, (.tmp 73)), (2, (.tmp 74))]), [], .none⟩, ⟨.none, .none, (.store 96 (.tmp 8) (.tmp 68)), [], (.some 8)⟩, ⟨.none, .none, (.store 32 (.tmp 9) (.tmp 69)), [], (.some 9)⟩, ⟨.none, .none, (.store 65 (.tmp 10) (.tmp 75)), [], .none⟩, ⟨(.some 11), .none, (.mov (.const (jn 0))), [], .none⟩]) .ret)))))))))
def fc415 : FC := ⟨4, 76, [(.cell 8 .true 96), (.cell 9 .true 32), (.cell 10 .true 65), (.tmp 11)], fb415⟩
theorem fc415_eq : compF Go.Proofs.Try.prog 10 = some fc415 := by kernel_rfl

theorem agreedG_ok : ∀ (ps : List KK) (ts : List Term) (acc : List (List UInt8)), TsOk ts → ts.length + ps.length + 10 < 90000 → (∀ x ∈ ps, x.1.length = 32 ∧ x.2.length = 32) → (∀ k ∈ acc, k.length = 32) →
    TsOk (agreedG ts acc ps).2 ∧ ts.length ≤ (agreedG ts acc ps).2.length ∧ (agreedG ts acc ps).2.length ≤ ts.length + ps.length ∧ ∀ l, (agreedG ts acc ps).1 = some l → l.length = acc.length + ps.length ∧ ∀ k ∈ l, k.length = 32
  | [], ts, acc, h, hl, _, ha => ⟨h, Nat.le_refl _, by simp [agreedG], fun l hl => by cases hl; exact ⟨by simp, ha⟩⟩
  | x :: ps, ts, acc, h, hl, h32, ha => by
    obtain ⟨x1, x2⟩ := h32 x (by simp)
    have hx := fun y hy => agreeX_ok h x1 x2 (x := y) hy
    rw [agreedG]
    cases hag : agreeX ts x.1 x.2 with
    | none => exact ⟨h, Nat.le_refl _, by simp, fun l hl => by cases hl⟩
    | some y =>
      obtain ⟨y1, y2⟩ := hx y hag
      simp only [List.length_cons] at hl
      have hlen := putT_len ts y
      have hp := TsOk.put h y1 y2 (by omega)
      obtain ⟨r1, r2, r3, r4⟩ := agreedG_ok ps (putT ts y) (acc ++ [nameK (putN ts y)]) hp (by omega) (fun z hz => h32 z (by simp [hz])) (fun k hk => by
        rcases List.mem_append.1 hk with hk | hk
        · exact ha k hk
        · simp at hk; subst hk; exact nameK_len _)
      refine ⟨r1, by simp only; omega, by simp only [List.length_cons]; omega, fun l hl => ?_⟩
      obtain ⟨s1, s2⟩ := r4 l hl
      exact ⟨by simp only [List.length_append, List.length_cons, List.length_nil] at s1 ⊢; omega, s2⟩
theorem agreedT_ok {ts : List Term} {ps : List KK} (h : TsOk ts) (hl : ts.length + ps.length + 10 < 90000) (h32 : ∀ x ∈ ps, x.1.length = 32 ∧ x.2.length = 32) :
    TsOk (agreedT ts ps).2 ∧ ts.length ≤ (agreedT ts ps).2.length ∧ (agreedT ts ps).2.length ≤ ts.length + ps.length + 1 ∧ ∀ k, (agreedT ts ps).1 = some k → k.length = 32 := by
  obtain ⟨r1, r2, r3, r4⟩ := agreedG_ok ps ts [] h hl h32 (by simp)
  unfold agreedT
  generalize agreedG ts [] ps = o at *
  obtain ⟨o1, o2⟩ := o
  simp only at r1 r2 r3 r4
  cases o1 with
  | none => exact ⟨r1, r2, by simp only; omega, fun k hk => by cases hk⟩
  | some l =>
    obtain ⟨s1, s2⟩ := r4 l rfl
    have hlen := putT_len o2 ⟨2, hello, l⟩
    refine ⟨TsOk.put r1 ⟨by simp, by simp [hello], by simp only [s1, List.length_nil]; omega, s2⟩ ⟨by simp, by simp⟩ (by omega), by simp only; omega, by simp only; omega, fun k hk => by cases hk; exact nameK_len _⟩

/-- What greeting comes to. -/
structure Begun where
  h : Hello
  secret : List UInt8
  rest : Store
def pairs0 (id eph : List UInt8) (b : Store) : List KK := [(id, b.pre), (eph, b.id), (eph, b.pre)]
def beginP (id eph : List UInt8) (b : Store) : List UInt8 × List KK × List (List UInt8) :=
  match b.ones with
  | [] => (zk, pairs0 id eph b, [])
  | o :: r => (o, pairs0 id eph b ++ [(eph, o)], r)
def beginT (ts : List Term) (id eph : List UInt8) (b : Store) : Option Begun × List Term :=
  match agreedT ts (beginP id eph b).2.1 with
  | (none, ts1) => (none, ts1)
  | (some k, ts1) => (some ⟨⟨nameK (putN ts1 (pubT id)), nameK (putN (putT ts1 (pubT id)) (pubT eph)), (beginP id eph b).1⟩, k, ⟨b.id, b.pre, (beginP id eph b).2.2⟩⟩, putT (putT ts1 (pubT id)) (pubT eph))
def zhello : Hello := ⟨zk, zk, zk⟩
def begunA : Option Begun → AV
  | none => .tup [helloA zhello, keyA zk, zst, .lit (jn 12)]
  | some x => .tup [helloA x.h, keyA x.secret, storeA x.rest, .lit (jn 0)]

def begS (N : Nat) (H : List (Option Blk)) (t : Tb) (V : Value) (ts : List Term) (id eph : List UInt8) (b : Store) (l5 l6 l7 l8 l9 l10 l13 : Nat × Nat) (Vp : Value) (one : List UInt8) (ps : List KK) (rest : List (List UInt8)) : AS :=
  ⟨N, [freeI t.b t.l, keyA id, keyA eph, storeA b, .any, .ptr (N + 5) l5 0 [], .ptr (N + 6) l6 0 [], .ptr (N + 7) l7 0 [], .ptr (N + 8) l8 0 [], .ptr (N + 9) l9 0 [], .ptr (N + 10) l10 0 [], .lit (jn 0), .own (N + 29) Vp, .ptr (N + 13) l13 0 [], .sl 32 (klA rest)] ++ List.replicate 61 .any,
    tbOf H t V ts ++ ([none, none, none, none, none, some (.box l5 32 (keyA id)), some (.box l6 32 (keyA eph)), some (.box l7 65 (storeA b)), some (.box l8 96 (helloA zhello)), some (.box l9 32 (keyA zk)), some (.box l10 65 zst), none, none, some (.box l13 96 (.st [32, 32, 32] [keyA zk, keyA zk, keyA one]))] ++ List.replicate 15 none ++ [some (.row 55 Vp 64 (ps.map pairA) 0)] ++ List.replicate 46 none)⟩

/-- The first piece ends in one of these states; the second goes on from each. -/
theorem wp_seqM {P : Program} {s : AS} {Q : AX → AS → Prop} {a b : AC} {X : Type} (S : X → AS) (F : X → Prop) (k : ∀ y, F y → b.wp P (S y) Q) (h : a.wp P s fun x s' => match x with | .normal => ∃ y, F y ∧ Le s' (S y) | x => Q x s') : (AC.seq a b).wp P s Q :=
  wp_seqL (AC.mono a (fun x s g => by
    cases x with
    | normal => obtain ⟨y, hy, hle⟩ := g; exact ⟨S y, hle, k y hy⟩
    | exit i => exact g
    | ret => exact g) h)
theorem areg_bh {P : Program} {s : AS} {K : AS → Prop} {xs : List AOp} {d : Option Tmp} {fo : List Tmp} {ow : Option Tmp} (h : AReg P xs (s.put d (helloA zhello)) K) : AReg P (⟨d, none, .build (.st [32, 32, 32] [.arr 1 (List.replicate 32 (.lit (bn 0))), .arr 1 (List.replicate 32 (.lit (bn 0))), .arr 1 (List.replicate 32 (.lit (bn 0)))]) [], fo, ow⟩ :: xs) s K := by
  refine AOp.ex_go (s' := s.put d (helloA zhello)) ?_ h
  rw [helloA, zhello, zk_eq]
  rfl
theorem areg_bs {P : Program} {s : AS} {K : AS → Prop} {xs : List AOp} {d : Option Tmp} {fo : List Tmp} {ow : Option Tmp} (h : AReg P xs (s.put d zst) K) : AReg P (⟨d, none, .build (.st [32, 32, 1] [.arr 1 (List.replicate 32 (.lit (bn 0))), .arr 1 (List.replicate 32 (.lit (bn 0))), .lit (.slice none 0 0)]) [], fo, ow⟩ :: xs) s K := by
  refine AOp.ex_go (s' := s.put d zst) ?_ h
  rw [zst, zk_eq]
  rfl
theorem klA_cons (o : List UInt8) (r : List (List UInt8)) : klA (o :: r) = keyA o :: klA r := rfl

set_option maxHeartbeats 32000000 in
theorem begin_call {H : List (Option Blk)} {t : Tb} {V : Value} {ts : List Term} (hh : TbOk H t V ts) (hts : TsOk ts) {id eph : List UInt8} {b : Store} (hid : id.length = 32) (heph : eph.length = 32) (hb : StoreOk b) (hlen : ts.length + 3000 < 90000) :
    XCall Go.Proofs.Try.prog 10 [freeI t.b t.l, keyA id, keyA eph, storeA b] H fun r H' => r = begunA (beginT ts id eph b).1 ∧ ∃ V', H' = tbOf H t V' (beginT ts id eph b).2 := by
  have h415 := fc415_eq
  refine XCall.le ?_
  have hcal : callable Go.Proofs.Try.prog 16 = true := by kernel_rfl
  have hself := hh.self
  have lb := hh.lb; have lj := hh.lj; have lm := hh.lm
  have G1 : ∀ V' ts', (tbOf H t V' ts').length = H.length := fun V' ts' => tbOf_len _ _ _ _
  have g1 : ∀ V' ts' L k, (tbOf H t V' ts' ++ L)[H.length + k]? = L[k]? := fun V' ts' L k => cat1 _ _ _ _ (G1 _ _)
  have g2 : ∀ V' ts' L k x, (tbOf H t V' ts' ++ L).set (H.length + k) x = tbOf H t V' ts' ++ L.set k x := fun V' ts' L k x => cat2 _ _ _ _ _ (G1 _ _)
  have hpa := fun ts' (h : ts'.length < 100000) V' L k hk => pub_at hh (ts := ts') h V' L (k := k) hk
  obtain ⟨bid, bpre, bones⟩ := b
  obtain ⟨o1, o2, o3, o4⟩ := hb
  simp only at o1 o2 o3 o4
  have c1 := clone_call (klA bones) (by rw [klA_len]; omega)
  unfold storeA
  simp only
  refine XCall.of h415 rfl ?_; show AC.wp _ fb415 ⟨H.length, [freeI t.b t.l, keyA id, keyA eph, .st [32, 32, 1] [keyA bid, keyA bpre, .sl 32 (klA bones)]] ++ List.replicate (76 - 4) .any, H ++ List.replicate 76 none⟩ (fun x s => match x with | .exit _ => False | _ => ∃ s1, Le s s1 ∧ FinX [(.cell 8 .true 96), (.cell 9 .true 32), (.cell 10 .true 65), (.tmp 11)] s1 _); unfold fb415
  rw [← hself]
  rw [tbOf_len]
  generalize hN : H.length = N at *
  refine wp_sg (areg_bx rfl (by simp [AS.ev, keyA, AV.sz, bl, hid]) fun l5 => areg_bx rfl (by simp [AS.ev, AS.put, keyA, AV.sz, bl, heph]) fun l6 => areg_bx rfl (by simp [AS.ev, AV.sz]) fun l7 => areg_al' (z' := helloA zhello) (by rw [helloA, zhello, zk_eq]) fun l8 => areg_al' zk_eq.symm fun l9 => areg_al' (z' := zst) (by rw [zst, zk_eq]) fun l10 => areg_end (by simp [push_cast, g2]; exact rfl) ?_)
  refine wp_sg ?_
  refine areg_run 12 (by simp [push_cast, g1, g2, hid, heph, o1, o2]; exact rfl) ?_
  refine areg_bown (vs := [.st [32, 32] [keyA id, keyA bpre], .st [32, 32] [keyA eph, keyA bid], .st [32, 32] [keyA eph, keyA bpre]]) (els := (pairs0 id eph ⟨bid, bpre, bones⟩).map pairA) (by simp [AS.ev, AS.put, keyA]) (by simp [fillV, AV.sub, AV.isTup, AV.sz, AV.upd, pairs0, pairA]; rfl) (by intro t ht; cases ht) fun V1 => ?_
  refine areg_end (by simp [push_cast, g2]; exact rfl) ?_
  refine wp_sg (areg_al' (z' := helloA zhello) (by rw [helloA, zhello, zk_eq]) fun l13 => areg_end (by simp [push_cast, g2]; exact rfl) ?_)
  refine wp_sg ?_
  refine areg_run 2 (by simp [push_cast, g1, g2, o1, o2]; exact rfl) ?_
  refine areg_ca (by simp [AS.ev, AS.coe, AS.put] <;> exact rfl) c1 ?_
  refine areg_end (by simp [push_cast]; exact rfl) ?_
  have hp0 : ∀ x ∈ pairs0 id eph ⟨bid, bpre, bones⟩, x.1.length = 32 ∧ x.2.length = 32 := by simp [pairs0, hid, heph, o1, o2]
  refine wp_seqM (fun x : List UInt8 × List KK × List (List UInt8) × Value => begS N H t V ts id eph ⟨bid, bpre, bones⟩ l5 l6 l7 l8 l9 l10 l13 x.2.2.2 x.1 x.2.1 x.2.2.1) (fun x => (x.1, x.2.1, x.2.2.1) = beginP id eph ⟨bid, bpre, bones⟩ ∧ x.1.length = 32 ∧ x.2.1.length < 10 ∧ ∀ y ∈ x.2.1, y.1.length = 32 ∧ y.2.length = 32) ?_ ?_
  rotate_left
  · cases bones with
    | nil =>
      have h0 : (klA []).length = 0 := rfl
      refine wp_seq' (wp_r (by simp [push_cast, h0]; exact rfl) (wp_cond_f rfl (wp_skip' ?_)))
      refine ⟨(zk, pairs0 id eph ⟨bid, bpre, []⟩, [], V1), ⟨rfl, zk_len, by simp [pairs0], hp0⟩, Le.mk rfl (by simp [begS, leT, storeA, keyA]) ?_⟩
      simp only [begS]
      exact leH_app (leH_refl _) (by simp [leH, keyA, storeA, helloA, zhello, zst])
    | cons o r =>
      have ho := o3 o (by simp)
      have hkl : klA (o :: r) = keyA o :: klA r := rfl
      have hl0 : (klA r).length = r.length := klA_len r
      simp only [List.length_cons] at o4
      refine wp_seq' (wp_r (by simp [push_cast, hkl, hl0]; exact rfl) (wp_cond_t rfl ?_))
      refine wp_sr (by simp [push_cast, g1, g2, hkl, hl0, ho, helloA, zhello, zk_len]; exact rfl) ?_
      refine wp_rg ?_
      refine areg_run 6 (by simp [push_cast, g1, g2, heph, ho, helloA, zhello, zk_len]; exact rfl) ?_
      refine areg_ap (b := N + 29) (V := V1) (ys := [pairA (eph, o)]) rfl (by simp only [AS.blk, g1]; rfl) (by simp [AS.ev, AS.coe, pairA, keyA]) (by simp [pairs0, maxLen]) (by simp [pairs0]) (fun V2 => ?_)
      have htk : (klA r).take r.length = klA r := by rw [← hl0]; exact List.take_length
      refine areg_end (by simp [push_cast, g2, hkl, hl0, htk]; exact rfl) ?_
      refine ⟨(o, pairs0 id eph ⟨bid, bpre, o :: r⟩ ++ [(eph, o)], r, V2), ⟨rfl, ho, by simp [pairs0], fun y hy => ?_⟩, ?_⟩
      · rcases List.mem_append.1 hy with hy | hy
        · exact hp0 y hy
        · simp at hy; subst hy; exact ⟨heph, ho⟩
      · refine Le.mvR (A := tbOf H t V ts ++ ([none, none, none, none, none, some (.box l5 32 (keyA id)), some (.box l6 32 (keyA eph)), some (.box l7 65 (.st [32, 32, 1] [keyA bid, keyA bpre, .sl 32 (klA (o :: r))])), some (.box l8 96 (helloA zhello)), some (.box l9 32 (keyA zk)), some (.box l10 65 zst), none, none, some (.box l13 96 (.st [32, 32, 32] [keyA zk, keyA zk, keyA o]))] ++ List.replicate 15 none))
          (R := List.replicate 17 none ++ [some (.row 55 V2 64 ((pairs0 id eph ⟨bid, bpre, o :: r⟩ ++ [(eph, o)]).map pairA) 0)] ++ List.replicate 29 none) (d := 17) (d' := 0) (m := 47) (Y := .row 55 V2 64 ((pairs0 id eph ⟨bid, bpre, o :: r⟩ ++ [(eph, o)]).map pairA) 0) ?_ ?_ rfl ?_
        · simp [keyA, helloA, zhello, hkl]
        · simp [begS, keyA, helloA, zhello, storeA]
        · simp [leO, begS, keyA, storeA, hkl]
  · rintro ⟨one, ps, rest, Vp⟩ ⟨hP, hone, hpl, hp32⟩
    simp only at hP hone hpl hp32 ⊢
    have hbt : beginT ts id eph ⟨bid, bpre, bones⟩ = match agreedT ts ps with
      | (none, ts1) => (none, ts1)
      | (some k, ts1) => (some ⟨⟨nameK (putN ts1 (pubT id)), nameK (putN (putT ts1 (pubT id)) (pubT eph)), one⟩, k, ⟨bid, bpre, rest⟩⟩, putT (putT ts1 (pubT id)) (pubT eph)) := by unfold beginT; rw [← hP]
    rw [hbt]
    unfold begS
    obtain ⟨k1, k2, k3, k4⟩ := agreedT_ok hts (ps := ps) (by omega) hp32
    have hag := fun L (hc : (tbOf H t V ts ++ L)[N + 29]? = some (some (.row 55 Vp 64 (ps.map pairA) 0))) => agreed_call (hh.at V ts L) hts (c := N + 29) (by omega) (by omega) (by omega) hc (by omega) hp32 (by omega)
    generalize agreedT ts ps = oo at *
    obtain ⟨sec, ts1⟩ := oo
    simp only at k1 k2 k3 k4
    refine wp_sg ?_
    refine areg_run 2 (by simp [push_cast]; exact rfl) ?_
    refine areg_xq (us := [freeI t.b t.l, .own (N + 29) Vp]) rfl (by simp only [tgtA, tgtB, Option.bind_some, hcal, if_true]) (hag _ (by rw [g1]; rfl)) (AgreedK.ex _ _ _) (fun r hp' _ t' ht' => by cases ht') ?_
    rintro r H' ⟨rfl, V3, rfl⟩
    rw [hh.at_of]
    cases sec with
    | none =>
      refine areg_run 3 (by simp [push_cast, optK]; exact rfl) ?_
      refine areg_al' zk_eq.symm fun l15 => areg_end (by simp [push_cast, g1, g2, zk_len]; exact rfl) ?_
      refine wp_seq' (wp_seq' (wp_r (by simp [push_cast]; exact rfl) (wp_cond_t rfl (wp_seq' (wp_rg ?_)))))
      refine areg_bh (areg_bz (areg_bs (areg_end (by simp [push_cast, g1, g2, helloA, zhello, zst, zk_len]; exact rfl) (wp_ret' ?_))))
      exact ⟨_, Le.refl _, [], _, ⟨_, rfl, by simp [AS.seals, RVals, RVal, AS.ev, AS.peek, AS.blk, g1, Blk.loc, Blk.cont, Blk.n, AV.nav, AV.isAgg, AV.isTup, AS.coe]; rfl, by simp [keyA, helloA, zst, storeA]⟩, begunA none, _, RelLe.refl _, by simp [begunA], HpLe.trim _ _, rfl, V3, (hh.of_of _ _ _ _).symm⟩
    | some k =>
      have hk32 := k4 k rfl
      simp only
      refine areg_run 3 (by simp [push_cast, optK]; exact rfl) ?_
      refine areg_al' zk_eq.symm fun l15 => areg_end (by simp [push_cast, g1, g2, hk32]; exact rfl) ?_
      refine wp_seq' (wp_seq' (wp_r (by simp [push_cast]; exact rfl) (wp_cond_f rfl (wp_skip' ?_))))
      have hlen1 := putT_len ts1 (pubT id)
      have hts1 := k1.putPub hid (by omega)
      have n1 := nameK_len (putN ts1 (pubT id))
      have hpa1 := fun L => hpa ts1 (by omega) V3 L id hid
      have hpa2 := fun V' L => hpa (putT ts1 (pubT id)) (by omega) V' L eph heph
      have n2 := nameK_len (putN (putT ts1 (pubT id)) (pubT eph))
      generalize nameK (putN ts1 (pubT id)) = e1 at *
      generalize nameK (putN (putT ts1 (pubT id)) (pubT eph)) = e2 at *
      generalize putT (putT ts1 (pubT id)) (pubT eph) = ts3 at *
      generalize putT ts1 (pubT id) = ts2 at *
      refine wp_sg ?_
      refine areg_run 2 (by simp [push_cast, g1, g2, hid, heph]; exact rfl) ?_
      refine areg_xq (us := [freeI t.b t.l, keyA id]) rfl (tgt_pub _ _ _) (hpa1 _) ⟨_, _, rfl, .slice none 0 0, rfl⟩ (fun r hp' hK t' ht' b hb' => ?_) ?_
      · obtain ⟨_, V', rfl⟩ := hK
        simp at ht'
        subst ht'
        simp [AS.ev, AV.place] at hb'
        subst hb'
        simp only [g1]
      rintro r H' ⟨rfl, V4, rfl⟩
      refine areg_run 2 (by simp [push_cast, g1, g2, hid, heph]; exact rfl) ?_
      refine areg_xq (us := [freeI t.b t.l, keyA eph]) rfl (tgt_pub _ _ _) (hpa2 V4 _) ⟨_, _, rfl, .slice none 0 0, rfl⟩ (fun r hp' _ t' ht' => by cases ht') ?_
      rintro r H' ⟨rfl, V5, rfl⟩
      refine areg_end (by simp [push_cast, g1, g2, n1, n2]; exact rfl) ?_
      refine wp_sr (by simp [push_cast, g1, g2, n1, n2, hone, hk32, o1, o2, storeA, helloA, zhello, zst, zk_len]; exact rfl) (wp_ret' ?_)
      refine ⟨_, Le.refl _, [], _, ⟨_, rfl, by simp [AS.seals, RVals, RVal, AS.ev, AS.peek, AS.blk, g1, Blk.loc, Blk.cont, Blk.n, AV.nav, AV.isAgg, AV.isTup, AS.coe]; rfl, by simp [keyA, helloA, zst, storeA]⟩, begunA (some ⟨⟨e1, e2, one⟩, k, ⟨bid, bpre, rest⟩⟩), _, RelLe.refl _, by simp [begunA], HpLe.trim _ _, rfl, V5, (hh.of_of _ _ _ _).symm⟩
end Go.Cab

/- Bundle: Answer. -/
-- TEXTS
-- KIT
namespace Go.Cab
open Classical
def fb417 : AC := (.seq (.reg [⟨(.some 3), .none, (.box 1 (.tmp 0)), [], .none⟩, ⟨(.some 4), .none, (.box 65 (.tmp 1)), [], .none⟩, ⟨(.some 5), .none, (.box 96 (.tmp 2)), [], .none⟩, ⟨(.some 6), .none, (.alloc 65 (.st [32, 32, 1] [(.arr 1 (List.replicate 32 (.lit (bn 0)))), (.arr 1 (List.replicate 32 (.lit (bn 0)))), (.lit (.slice .none 0 0))])), [], .none⟩, ⟨(.some 7), .none, (.alloc 32 (.arr 1 (List.replicate 32 (.lit (bn 0))))), [], .none⟩, ⟨(.some 8), .none, (.mov (.const (jn 0))), [], .none⟩]) (.seq (.reg [⟨(.some 14), .none, (.faddr 32 1 (.tmp 4)), [], .none⟩, ⟨(.some 15), .none, (.load .true 32 (.tmp 14)), [], .none⟩, ⟨(.some 16), .none, (.faddr 0 0 (.tmp 5)), [], .none⟩, ⟨(.some 17), .none, (.load .true 32 (.tmp 16)), [], .none⟩, ⟨(.some 18), .none, (.build (.st [32, 32] [(.arr 1 (List.replicate 32 (.lit (bn 0)))), (.arr 1 (List.replicate 32 (.lit (bn 0))))]) [(0, (.tmp 15)), (1, (.tmp 17))]), [], .none⟩, ⟨(.some 19), .none, (.faddr 0 0 (.tmp 4)), [], .none⟩, ⟨(.some 20), .none, (.load .true 32 (.tmp 19)), [], .none⟩, ⟨(.some 21), .none, (.faddr 32 1 (.tmp 5)), [], .none⟩, ⟨(.some 22), .none, (.load .true 32 (.tmp 21)), [], .none⟩, ⟨(.some 23), .none, (.build (.st [32, 32] [(.arr 1 (List.replicate 32 (.lit (bn 0)))), (.arr 1 (List.replicate 32 (.lit (bn 0))))]) [(0, (.tmp 20)), (1, (.tmp 22))]), [], .none⟩, ⟨(.some 24), .none, (.faddr 32 1 (.tmp 4)), [], .none⟩, ⟨(.some 25), .none, (.load .true 32 (.tmp 24)), [], .none⟩, ⟨(.some 26), .none, (.faddr 32 1 (.tmp 5)), [], .none⟩, ⟨(.some 27), .none, (.load .true 32 (.tmp 26)), [], .none⟩, ⟨(.some 28), .none, (.build (.st [32, 32] [(.arr 1 (List.replicate 32 (.lit (bn 0)))), (.arr 1 (List.replicate 32 (.lit (bn 0))))]) [(0, (.tmp 25)), (1, (.tmp 27))]), [], .none⟩, ⟨(.some 29), .none, (.ef (.bown 55 64 (.st [32, 32] [(.arr 1 (List.replicate 32 (.lit (bn 0)))), (.arr 1 (List.replicate 32 (.lit (bn 0))))]) 3 [0, 1, 2]) [(.tmp 18), (.tmp 23), (.tmp 28)]), [], .none⟩, ⟨(.some 9), .none, (.mov (.tmp 29)), [], .none⟩]) (.seq (.reg [⟨(.some 30), .none, (.faddr 64 2 (.tmp 4)), [], .none⟩, ⟨(.some 31), .none, (.load .false 1 (.tmp 30)), [], .none⟩, ⟨(.some 32), .none, (.call 15 [(.tmp 31)]), [], .none⟩, ⟨(.some 10), .none, (.mov (.tmp 32)), [], .none⟩]) (.seq (.seq (.reg [⟨(.some 33), .none, (.faddr 64 2 (.tmp 5)), [], .none⟩, ⟨(.some 34), .none, (.load .true 32 (.tmp 33)), [], .none⟩, ⟨(.some 35), .none, (.build (.arr 1 (List.replicate 32 (.lit (bn 0)))) []), [], .none⟩, ⟨(.some 36), .none, (.eqv 28 .true (.tmp 34) (.tmp 35)), [], .none⟩]) (.cond (.tmp 36) (.seq (.reg [⟨(.some 37), .none, (.mov (.tmp 10)), [], .none⟩, ⟨(.some 38), .none, (.rdp (.mkfn (.func 19) 0) [(.tmp 3), (.tmp 5)]), [], .none⟩, ⟨(.some 39), .none, (.xc (.dir 18) [(.tmp 37), (.tmp 38)] [] []), [], .none⟩, ⟨(.some 11), .none, (.mov (.tmp 39)), [], .none⟩]) (.seq (.seq (.reg [⟨(.some 40), .none, (.mov (.tmp 11)), [], .none⟩, ⟨(.some 41), .none, (.bin .lss (.tmp 40) (.const (jn 0))), [], .none⟩]) (.cond (.tmp 41) (.seq (.reg [⟨(.some 42), .none, (.build (.st [32, 32, 1] [(.arr 1 (List.replicate 32 (.lit (bn 0)))), (.arr 1 (List.replicate 32 (.lit (bn 0)))), (.lit (.slice .none 0 0))]) []), [], .none⟩, ⟨(.some 43), .none, (.build (.arr 1 (List.replicate 32 (.lit (bn 0)))) []), [], .none⟩, ⟨.none, .none, (.store 65 (.tmp 6) (.tmp 42)), [], .none⟩, ⟨.none, .none, (.store 32 (.tmp 7) (.tmp 43)), [], .none⟩, ⟨(.some 8), .none, (.mov (.const (jn 22))), [], .none⟩]) .ret) .skip)) (.seq (.reg [⟨(.some 44), .none, (.mov (.tmp 9)), [], .none⟩, ⟨(.some 45), .none, (.mov (.tmp 10)), [], .none⟩, ⟨(.some 46), .none, (.mov (.tmp 11)), [], .none⟩, ⟨(.some 47), .none, (.iaddrS 32 (.tmp 45) (.tmp 46)), [], (.some 10)⟩, ⟨(.some 48), .none, (.load .true 32 (.tmp 47)), [], (.some 10)⟩, ⟨(.some 49), .none, (.faddr 32 1 (.tmp 5)), [], .none⟩, ⟨(.some 50), .none, (.load .true 32 (.tmp 49)), [], (.some 5)⟩, ⟨(.some 51), .none, (.build (.st [32, 32] [(.arr 1 (List.replicate 32 (.lit (bn 0)))), (.arr 1 (List.replicate 32 (.lit (bn 0))))]) [(0, (.tmp 48)), (1, (.tmp 50))]), [], .none⟩, ⟨(.some 52), .none, (.bslice 64 (.st [32, 32] [(.arr 1 (List.replicate 32 (.lit (bn 0)))), (.arr 1 (List.replicate 32 (.lit (bn 0))))]) 1 [(0, (.tmp 51))]), [], .none⟩, ⟨(.some 53), .none, (.append 55 64 64 (.tmp 44) (.tmp 52)), [], .none⟩, ⟨(.some 9), .none, (.mov (.tmp 53)), [], .none⟩]) (.reg [⟨(.some 54), .none, (.mov (.tmp 10)), [], .none⟩, ⟨(.some 55), .none, (.mov (.tmp 11)), [], .none⟩, ⟨(.some 56), .none, (.mov (.tmp 11)), [], .none⟩, ⟨(.some 57), .none, (.bin .add (.tmp 56) (.const (jn 1))), [], .none⟩, ⟨(.some 58), .none, (.xc (.dir 20) [(.tmp 54), (.tmp 55), (.tmp 57)] [] []), [], .none⟩, ⟨(.some 10), .none, (.mov (.tmp 58)), [], .none⟩])))) .skip)) (.seq (.reg [⟨(.some 60), .none, (.load .false 1 (.tmp 3)), [], .none⟩, ⟨(.some 61), .none, (.mov (.tmp 9)), [], .none⟩, ⟨(.some 62), .none, (.xc (.dir 16) [(.tmp 60), (.tmp 61)] [] []), [], .none⟩, ⟨(.some 59), .none, (.mov (.tmp 62)), [], .none⟩, ⟨(.some 63), .none, (.ext (.tmp 59) 0), [], .none⟩, ⟨(.some 64), .none, (.ext (.tmp 59) 1), [], .none⟩, ⟨(.some 12), .none, (.alloc 32 (.arr 1 (List.replicate 32 (.lit (bn 0))))), [], .none⟩, ⟨.none, .none, (.store 32 (.tmp 12) (.tmp 63)), [], .none⟩, ⟨(.some 13), .none, (.mov (.tmp 64)), [], .none⟩]) (.seq (.seq (.reg [⟨(.some 65), .none, (.mov (.tmp 13)), [], .none⟩, ⟨(.some 66), .none, (.un .not (.tmp 65)), [], .none⟩]) (.cond (.tmp 66) (.seq (.reg [⟨(.some 67), .none, (.build (.st [32, 32, 1] [(.arr 1 (List.replicate 32 (.lit (bn 0)))), (.arr 1 (List.replicate 32 (.lit (bn 0)))), (.lit (.slice .none 0 0))]) []), [], .none⟩, ⟨(.some 68), .none, (.build (.arr 1 (List.replicate 32 (.lit (bn 0)))) []), [], .none⟩, ⟨.none, .none, (.store 65 (.tmp 6) (.tmp 67)), [], .none⟩, ⟨.none, .none, (.store 32 (.tmp 7) (.tmp 68)), [], .none⟩, ⟨(.some 8), .none, (.mov (.const (jn 12))), [], .none⟩]) .ret) .skip)) (.seq (.reg [⟨(.some 69), .none, (.faddr 0 0 (.tmp 4)), [], .none⟩, ⟨(.some 70), .none, (.load .true 32 (.tmp 69)), [], .none⟩, ⟨(.some 71), .none, (.faddr 32 1 (.tmp 4)), [], .none⟩, ⟨(.some 72), .none, (.load .true 32 (.tmp 71)), [], .none⟩, ⟨(.some 73), .none, (.mov (.tmp 10)), [], .none⟩, ⟨(.some 74), .none, (.build (.st [32, 32, 1] [(.arr 1 (List.replicate 32 (.lit (bn 0)))), (.arr 1 (List.replicate 32 (.lit (bn 0)))), (.lit (.slice .none 0 0))]) [(0, (.tmp 70)), (1, (.tmp 72)), (2, (.tmp 73))]), [], .none⟩, ⟨(.some 75), .none, (.load .true 32 (.tmp 12)), [6], .none⟩, ⟨.none, .none, (.store 65 (.tmp 6) (.tmp 74)), [], (.some 6)⟩, ⟨.none, .none, (.store 32 (.tmp 7) (.tmp 75)), [], .none⟩, ⟨(.some 8), .none, (.mov (.const (jn 0))), [], .none⟩]) .ret)))))))
def fc417 : FC := ⟨3, 76, [(.cell 6 .true 65), (.cell 7 .true 32), (.tmp 8)], fb417⟩
theorem fc417_eq : compF Go.Proofs.Try.prog 12 = some fc417 := by kernel_rfl

/-- What answering comes to. -/
structure Answered where
  s : Store
  secret : List UInt8
def pairsA (s : Store) (h : Hello) : List KK := [(s.pre, h.id), (s.id, h.eph), (s.pre, h.eph)]
/-- The pairs, what is left, the table; none: nothing is so named. -/
def answerP (ts : List Term) (s : Store) (h : Hello) : Option (List KK × List (List UInt8)) × List Term :=
  if h.one = zk then (some (pairsA s h, s.ones), ts) else match idxF h.one ts s.ones 0 with
    | (none, ts1) => (none, ts1)
    | (some i, ts1) => (some (pairsA s h ++ [(s.ones.getD i zk, h.eph)], s.ones.take i ++ s.ones.drop (i + 1)), ts1)
def answerT (ts : List Term) (s : Store) (h : Hello) : Sum Nat Answered × List Term :=
  match answerP ts s h with
  | (none, ts1) => (.inl 22, ts1)
  | (some x, ts1) => match agreedT ts1 x.1 with
    | (none, ts2) => (.inl 12, ts2)
    | (some k, ts2) => (.inr ⟨⟨s.id, s.pre, x.2⟩, k⟩, ts2)
def answeredA : Sum Nat Answered → AV
  | .inl e => .tup [zst, keyA zk, .lit (jn e)]
  | .inr x => .tup [storeA x.s, keyA x.secret, .lit (jn 0)]

def ansS (N : Nat) (H : List (Option Blk)) (t : Tb) (s : Store) (h : Hello) (l3 l4 l5 l6 l7 : Nat × Nat) (V : Value) (ts : List Term) (Vp : Value) (ps : List KK) (ones : List (List UInt8)) : AS :=
  ⟨N, [freeI t.b t.l, storeA s, helloA h, .ptr (N + 3) l3 0 [], .ptr (N + 4) l4 0 [], .ptr (N + 5) l5 0 [], .ptr (N + 6) l6 0 [], .ptr (N + 7) l7 0 [], .lit (jn 0), .own (N + 29) Vp, .sl 32 (klA ones)] ++ List.replicate 65 .any,
    tbOf H t V ts ++ ([none, none, none, some (.box l3 1 (freeI t.b t.l)), some (.box l4 65 (storeA s)), some (.box l5 96 (helloA h)), some (.box l6 65 zst), some (.box l7 32 (keyA zk))] ++ List.replicate 21 none ++ [some (.row 55 Vp 64 (ps.map pairA) 0)] ++ List.replicate 46 none)⟩

theorem idxF_ok {one : List UInt8} : ∀ {ks : List (List UInt8)} {ts : List Term} {i : Nat}, TsOk ts → (∀ k ∈ ks, k.length = 32) → ts.length + ks.length + 10 < 90000 →
    TsOk (idxF one ts ks i).2 ∧ ts.length ≤ (idxF one ts ks i).2.length ∧ (idxF one ts ks i).2.length ≤ ts.length + ks.length ∧ ∀ n, (idxF one ts ks i).1 = some n → i ≤ n ∧ n < i + ks.length
  | [], ts, i, h, _, hl => ⟨h, by simp [idxF], by simp [idxF], fun n hn => by simp [idxF] at hn⟩
  | k :: ks, ts, i, h, h32, hl => by
    have hk := h32 k (by simp)
    simp only [List.length_cons] at hl ⊢
    have hlen := putT_len ts (pubT k)
    have hp := h.putPub hk (by omega)
    rw [idxF]
    split
    · exact ⟨hp, by simp only; omega, by simp only; omega, fun n hn => by cases hn; omega⟩
    · obtain ⟨r1, r2, r3, r4⟩ := idxF_ok (one := one) (ks := ks) (i := i + 1) hp (fun x hx => h32 x (by simp [hx])) (by omega)
      exact ⟨r1, by omega, by omega, fun n hn => by have := r4 n hn; omega⟩
theorem mkfn_clo (kb hb : Nat) (kl hl : Nat × Nat) : rdA Go.Proofs.Try.prog (fun _ => none) (.mkfn (.func 19) 0) [.ptr kb kl 0 [], .ptr hb hl 0 []] = some (cloA kb hb kl hl) := by kernel_rfl

set_option maxHeartbeats 32000000 in
theorem answer_call {H : List (Option Blk)} {t : Tb} {V : Value} {ts : List Term} (hh : TbOk H t V ts) (hts : TsOk ts) {s : Store} {h : Hello} (hs : StoreOk s) (hho : HelloOk h) (hlen : ts.length + 5000 < 90000) :
    XCall Go.Proofs.Try.prog 12 [freeI t.b t.l, storeA s, helloA h] H fun r H' => r = answeredA (answerT ts s h).1 ∧ ∃ V', H' = tbOf H t V' (answerT ts s h).2 := by
  have h417 := fc417_eq
  refine XCall.le ?_
  have hcal : callable Go.Proofs.Try.prog 16 = true := by kernel_rfl
  have hcalI : callable Go.Proofs.Try.prog 18 = true := by kernel_rfl
  have hcalD : callable Go.Proofs.Try.prog 20 = true := by kernel_rfl
  have hself := hh.self
  have lb := hh.lb; have lj := hh.lj; have lm := hh.lm
  have G1 : ∀ V' ts', (tbOf H t V' ts').length = H.length := fun V' ts' => tbOf_len _ _ _ _
  have g1 : ∀ V' ts' L k, (tbOf H t V' ts' ++ L)[H.length + k]? = L[k]? := fun V' ts' L k => cat1 _ _ _ _ (G1 _ _)
  have g2 : ∀ V' ts' L k x, (tbOf H t V' ts' ++ L).set (H.length + k) x = tbOf H t V' ts' ++ L.set k x := fun V' ts' L k x => cat2 _ _ _ _ _ (G1 _ _)
  obtain ⟨sid, spre, sones⟩ := s
  obtain ⟨o1, o2, o3, o4⟩ := hs
  simp only at o1 o2 o3 o4
  have hho2 := hho
  obtain ⟨hid, heph, hone⟩ := h
  obtain ⟨h1, h2, h3⟩ := hho
  simp only at h1 h2 h3
  have c1 := clone_row (klA sones) (by rw [klA_len]; omega)
  have e1 := eq_key h3 zk_len
  unfold storeA helloA
  simp only
  refine XCall.of h417 rfl ?_; show AC.wp _ fb417 ⟨H.length, [freeI t.b t.l, .st [32, 32, 1] [keyA sid, keyA spre, .sl 32 (klA sones)], .st [32, 32, 32] [keyA hid, keyA heph, keyA hone]] ++ List.replicate (76 - 3) .any, H ++ List.replicate 76 none⟩ (fun x s => match x with | .exit _ => False | _ => ∃ s1, Le s s1 ∧ FinX [(.cell 6 .true 65), (.cell 7 .true 32), (.tmp 8)] s1 _); unfold fb417
  rw [← hself]
  rw [tbOf_len]
  generalize hN : H.length = N at *
  refine wp_sg (areg_bx rfl (by simp [AS.ev, freeI, AV.sz]) fun l3 => areg_bx rfl (by simp [AS.ev, AS.put, AV.sz]) fun l4 => areg_bx rfl (by simp [AS.ev, AV.sz]) fun l5 => areg_al' (z' := zst) (by rw [zst, zk_eq]) fun l6 => areg_al' zk_eq.symm fun l7 => areg_end (by simp [push_cast, g2]; exact rfl) ?_)
  refine wp_sg ?_
  refine areg_run 15 (by simp [push_cast, g1, g2, h1, h2, o1, o2]; exact rfl) ?_
  refine areg_bown (vs := [.st [32, 32] [keyA spre, keyA hid], .st [32, 32] [keyA sid, keyA heph], .st [32, 32] [keyA spre, keyA heph]]) (els := (pairsA ⟨sid, spre, sones⟩ ⟨hid, heph, hone⟩).map pairA) (by simp [AS.ev, AS.put, keyA]) (by simp [fillV, AV.sub, AV.isTup, AV.sz, AV.upd, pairsA, pairA]; rfl) (by intro t ht; cases ht) fun V1 => ?_
  refine areg_end (by simp [push_cast, g2]; exact rfl) ?_
  refine wp_sg ?_
  refine areg_run 2 (by simp [push_cast, g1, g2]; exact rfl) ?_
  refine areg_cr (by simp [AS.ev, AS.coe, AS.put] <;> exact rfl) c1 (fun Vo => ?_)
  refine areg_end (by simp [push_cast, g2]; exact rfl) ?_
  have hidx := fun L (hk : (tbOf H t V ts ++ L)[N + 3]? = some (some (.box l3 1 (freeI t.b t.l)))) (hb : (tbOf H t V ts ++ L)[N + 5]? = some (some (.box l5 96 (helloA ⟨hid, heph, hone⟩)))) (hc : (tbOf H t V ts ++ L)[N + 32]? = some (some (.row 28 Vo 32 (klA sones) 0))) => index_call (hh.at V ts L) hts hho2 (ks := sones) (by omega) (by omega) (by omega) (by omega) (by omega) (by omega) (by omega) (by omega) (by omega) hk hb hc (by omega) o3 (by omega)
  have hiok := idxF_ok (one := hone) (i := 0) hts o3 (by omega)
  refine wp_seqM (fun x : List Term × Value × Value × List KK × List (List UInt8) => ansS N H t ⟨sid, spre, sones⟩ ⟨hid, heph, hone⟩ l3 l4 l5 l6 l7 x.2.1 x.1 x.2.2.1 x.2.2.2.1 x.2.2.2.2) (fun x => answerP ts ⟨sid, spre, sones⟩ ⟨hid, heph, hone⟩ = (some (x.2.2.2.1, x.2.2.2.2), x.1) ∧ TsOk x.1 ∧ x.1.length ≤ ts.length + 1000 ∧ x.2.2.2.1.length < 10 ∧ ∀ y ∈ x.2.2.2.1, y.1.length = 32 ∧ y.2.length = 32) ?_ ?_
  rotate_left
  · refine wp_seq' (wp_rg ?_)
    refine areg_run 2 (by simp [push_cast, g1, g2, h3, h1, h2]; exact rfl) ?_
    refine areg_bz ?_
    refine areg_eq (by simp [AS.ev, AS.put] <;> exact rfl) (by simp [AS.ev, AS.put] <;> exact rfl) e1 rfl rfl (areg_nil ?_)
    have hp0 : ∀ x ∈ pairsA ⟨sid, spre, sones⟩ ⟨hid, heph, hone⟩, x.1.length = 32 ∧ x.2.length = 32 := by simp [pairsA, h1, h2, o1, o2]
    by_cases hz : hone = zk
    · refine wp_cond_f (by simp [AS.ev, AS.put, hz]) (wp_skip' ?_)
      refine ⟨(ts, V, V1, pairsA ⟨sid, spre, sones⟩ ⟨hid, heph, hone⟩, sones), ⟨by simp [answerP, hz], hts, by simp, by simp [pairsA], hp0⟩, Le.trans (Le.sealed (t := 10) (b := N + 32) (e := 28) (esz := 32) (sl := 0) (V := Vo) (els := klA sones) rfl (by simp only [AS.blk, AS.put, g1]; rfl)) (Le.mk rfl (by simp [ansS, leT, storeA, helloA, keyA, AS.put]) ?_)⟩
      simp only [g2, ansS, AS.put]
      exact leH_app (leH_refl _) (by simp [leH, storeA, helloA, keyA])
    · refine wp_cond_t (by simp [AS.ev, AS.put, hz]) ?_
      have hanP : answerP ts ⟨sid, spre, sones⟩ ⟨hid, heph, hone⟩ = match idxF hone ts sones 0 with
        | (none, ts1) => (none, ts1)
        | (some i, ts1) => (some (pairsA ⟨sid, spre, sones⟩ ⟨hid, heph, hone⟩ ++ [(sones.getD i zk, heph)], sones.take i ++ sones.drop (i + 1)), ts1) := by simp only [answerP, hz, if_false]
      refine wp_sg ?_
      refine areg_run 1 (by simp [push_cast]; exact rfl) ?_
      refine areg_rdp (us := [.ptr (N + 3) l3 0 [], .ptr (N + 5) l5 0 []]) rfl (mkfn_clo _ _ _ _) ?_
      refine areg_run 0 (by simp [push_cast]; exact rfl) ?_
      refine areg_xq (us := [.own (N + 32) Vo, cloA (N + 3) (N + 5) l3 l5]) rfl (by simp only [tgtA, tgtB, Option.bind_some, hcalI, if_true]) (hidx _ (by rw [g1]; rfl) (by rw [g1]; rfl) (by rw [g1]; rfl)) ⟨_, _, rfl, .slice none 0 0, rfl⟩ (fun r hp' _ t' ht' => by cases ht') ?_
      rintro r H' ⟨rfl, V2, rfl⟩
      simp only [hh.at_of]
      generalize idxF hone ts sones 0 = oi at *
      obtain ⟨oi, ts1⟩ := oi
      obtain ⟨k1, k2, k3, k4⟩ := hiok
      simp only at k1 k2 k3 k4 hanP ⊢
      cases oi with
      | none =>
        have hlt : binVal .lss (.int .i64 (-1)) (jn 0) = some (.bool true) := bin_lssm
        refine areg_end (by simp [push_cast, idxV]; exact rfl) ?_
        refine wp_seq' (wp_seq' (wp_r (by simp [push_cast, idxV, hlt]; exact rfl) (wp_cond_t rfl (wp_seq' (wp_rg ?_)))))
        refine areg_bs (areg_bz (areg_end (by simp [push_cast, g1, g2, zst, zk_len]; exact rfl) (wp_ret' ?_)))
        have han : answerT ts ⟨sid, spre, sones⟩ ⟨hid, heph, hone⟩ = (.inl 22, ts1) := by unfold answerT; rw [hanP]
        rw [han]
        exact ⟨_, Le.refl _, [], _, ⟨_, rfl, by simp [AS.seals, RVals, RVal, AS.ev, AS.peek, AS.blk, g1, Blk.loc, Blk.cont, Blk.n, AV.nav, AV.isAgg, AV.isTup, AS.coe]; rfl, by simp [keyA, zst]⟩, answeredA (.inl 22), _, RelLe.refl _, by simp [answeredA], HpLe.trim _ _, rfl, V2, (hh.of_of _ _ _ _).symm⟩
      | some i =>
        obtain ⟨_, hil⟩ := k4 i rfl
        simp only [Nat.zero_add] at hil
        obtain ⟨x, hx⟩ : ∃ x, sones[i]? = some x := ⟨_, List.getElem?_eq_getElem hil⟩
        have hx32 := o3 _ (List.mem_of_getElem? hx)
        have gx : (klA sones)[i]? = some (keyA x) := by rw [klA_get, hx]; rfl
        have gx' : ∀ h, (klA sones)[i]'h = keyA x := fun h => by rw [List.getElem?_eq_getElem h] at gx; exact Option.some.inj gx
        have hgd : sones.getD i zk = x := by rw [List.getD_eq_getElem?_getD, hx]; rfl
        have hanP : answerP ts ⟨sid, spre, sones⟩ ⟨hid, heph, hone⟩ = (some (pairsA ⟨sid, spre, sones⟩ ⟨hid, heph, hone⟩ ++ [(sones.getD i zk, heph)], sones.take i ++ sones.drop (i + 1)), ts1) := hanP
        rw [hgd] at hanP
        have q1 : i + 1 < 9223372036854775808 := by omega
        refine areg_end (by simp [push_cast, idxV]; exact rfl) ?_
        refine wp_seq' (wp_seq' (wp_r (by simp [push_cast, idxV]; exact rfl) (wp_cond_f rfl (wp_skip' ?_))))
        refine wp_sg ?_
        refine areg_run 9 (by simp [push_cast, g1, g2, gx, gx', hil, klA_len, hx32, h1, h2, h3]; exact rfl) ?_
        refine areg_ap (b := N + 29) (V := V1) (ys := [pairA (x, heph)]) rfl (by simp only [AS.blk, g1]; rfl) (by simp [AS.ev, AS.coe, pairA, keyA]) (by simp [pairsA, maxLen]) (by simp [pairsA]) (fun V3 => ?_)
        refine areg_end (by simp [push_cast, g2]; exact rfl) ?_
        refine wp_rg ?_
        refine areg_run 4 (by simp [push_cast, q1]; exact rfl) ?_
        refine areg_xq (us := [.own (N + 32) Vo, .lit (jn i), .lit (jn (i + 1))]) rfl (by simp only [tgtA, tgtB, Option.bind_some, hcalD, if_true]) (delete_call (c := N + 32) (V := Vo) (i := i) (j := i + 1) (els := klA sones) (e := 28) (by rw [g1]; rfl) (by omega) (by rw [klA_len]; omega)) ⟨_, _, .slice none 0 0, rfl, rfl⟩ (fun r hp' _ t' ht' => by cases ht') ?_
        rintro r H' ⟨V4, rfl, rfl⟩
        have hkl : (klA sones).take i ++ (klA sones).drop (i + 1) = klA (sones.take i ++ sones.drop (i + 1)) := by simp [klA]
        rw [hkl]
        refine areg_end (by simp [push_cast, g2]; exact rfl) ?_
        refine ⟨(ts1, V2, V3, pairsA ⟨sid, spre, sones⟩ ⟨hid, heph, hone⟩ ++ [(x, heph)], sones.take i ++ sones.drop (i + 1)), ⟨hanP, k1, by simp only; omega, by simp [pairsA], fun y hy => ?_⟩, ?_⟩
        · rcases List.mem_append.1 hy with hy | hy
          · exact hp0 y hy
          · simp at hy; subst hy; exact ⟨hx32, h2⟩
        · refine Le.trans (Le.sealed (t := 10) (b := N + 32) (e := 28) (esz := 32) (sl := 0) (V := V4) (els := klA (sones.take i ++ sones.drop (i + 1))) rfl (by simp only [AS.blk, AS.put, g1]; rfl)) ?_
          simp only [g2]
          refine Le.mvR (A := tbOf H t V2 ts1 ++ ([none, none, none, some (.box l3 1 (freeI t.b t.l)), some (.box l4 65 (storeA ⟨sid, spre, sones⟩)), some (.box l5 96 (helloA ⟨hid, heph, hone⟩)), some (.box l6 65 zst), some (.box l7 32 (keyA zk))] ++ List.replicate 21 none))
            (R := List.replicate 24 none ++ [some (.row 55 V3 64 ((pairsA ⟨sid, spre, sones⟩ ⟨hid, heph, hone⟩ ++ [(x, heph)]).map pairA) 0)] ++ List.replicate 22 none) (d := 24) (d' := 0) (m := 47) (Y := .row 55 V3 64 ((pairsA ⟨sid, spre, sones⟩ ⟨hid, heph, hone⟩ ++ [(x, heph)]).map pairA) 0) ?_ ?_ rfl ?_
          · simp [keyA, helloA, storeA]
          · simp [ansS, keyA, helloA, storeA]
          · simp [leO, ansS, keyA, storeA, helloA, AS.put]
  · rintro ⟨ts1, V2, Vp, ps, ones⟩ ⟨hP, hok, hl1, hpl, hp32⟩
    simp only at hP hok hl1 hpl hp32 ⊢
    have hbt : answerT ts ⟨sid, spre, sones⟩ ⟨hid, heph, hone⟩ = match agreedT ts1 ps with
      | (none, ts2) => (.inl 12, ts2)
      | (some k, ts2) => (.inr ⟨⟨sid, spre, ones⟩, k⟩, ts2) := by unfold answerT; rw [hP]
    rw [hbt]
    unfold ansS
    obtain ⟨k1, k2, k3, k4⟩ := agreedT_ok hok (ps := ps) (by omega) hp32
    have hag := fun L (hc : (tbOf H t V2 ts1 ++ L)[N + 29]? = some (some (.row 55 Vp 64 (ps.map pairA) 0))) => agreed_call (hh.at V2 ts1 L) hok (c := N + 29) (by omega) (by omega) (by omega) hc (by omega) hp32 (by omega)
    generalize agreedT ts1 ps = oo at *
    obtain ⟨sec, ts2⟩ := oo
    simp only at k1 k2 k3 k4
    refine wp_sg ?_
    refine areg_run 2 (by simp [push_cast, g1]; exact rfl) ?_
    refine areg_xq (us := [freeI t.b t.l, .own (N + 29) Vp]) rfl (by simp only [tgtA, tgtB, Option.bind_some, hcal, if_true]) (hag _ (by rw [g1]; rfl)) (AgreedK.ex _ _ _) (fun r hp' _ t' ht' => by cases ht') ?_
    rintro r H' ⟨rfl, V3, rfl⟩
    rw [hh.at_of]
    cases sec with
    | none =>
      refine areg_run 3 (by simp [push_cast, optK]; exact rfl) ?_
      refine areg_al' zk_eq.symm fun l12 => areg_end (by simp [push_cast, g1, g2, zk_len]; exact rfl) ?_
      refine wp_seq' (wp_seq' (wp_r (by simp [push_cast]; exact rfl) (wp_cond_t rfl (wp_seq' (wp_rg ?_)))))
      refine areg_bs (areg_bz (areg_end (by simp [push_cast, g1, g2, zst, zk_len]; exact rfl) (wp_ret' ?_)))
      exact ⟨_, Le.refl _, [], _, ⟨_, rfl, by simp [AS.seals, RVals, RVal, AS.ev, AS.peek, AS.blk, g1, Blk.loc, Blk.cont, Blk.n, AV.nav, AV.isAgg, AV.isTup, AS.coe]; rfl, by simp [keyA, zst]⟩, answeredA (.inl 12), _, RelLe.refl _, by simp [answeredA], HpLe.trim _ _, rfl, V3, (hh.of_of _ _ _ _).symm⟩
    | some k =>
      have hk32 := k4 k rfl
      simp only
      refine areg_run 3 (by simp [push_cast, optK]; exact rfl) ?_
      refine areg_al' zk_eq.symm fun l12 => areg_end (by simp [push_cast, g1, g2, hk32]; exact rfl) ?_
      refine wp_seq' (wp_seq' (wp_r (by simp [push_cast]; exact rfl) (wp_cond_f rfl (wp_skip' ?_))))
      refine wp_sr (by simp [push_cast, g1, g2, hk32, o1, o2, storeA, zst, zk_len]; exact rfl) (wp_ret' ?_)
      exact ⟨_, Le.refl _, [], _, ⟨_, rfl, by simp [AS.seals, RVals, RVal, AS.ev, AS.peek, AS.blk, g1, Blk.loc, Blk.cont, Blk.n, AV.nav, AV.isAgg, AV.isTup, AS.coe]; rfl, by simp [keyA, storeA]⟩, answeredA (.inr ⟨⟨sid, spre, ones⟩, k⟩), _, RelLe.refl _, by simp [answeredA], HpLe.trim _ _, rfl, V3, (hh.of_of _ _ _ _).symm⟩
end Go.Cab

/- Laws by the free kit: the table's blocks are put ahead of all others; calls of the kit, in one form. -/
-- TEXTS
-- KIT
namespace Go.Cab
open Classical

theorem Le.genR {s s' : AS} (hl : s'.tm.length = s.tm.length) (ht : ∀ (t : Nat) (v' : AV), s'.tm[t]? = some v' → v' = .any ∨ ∃ v, s.tm[t]? = some v ∧ RelLe v v') (m : Nat → Nat)
    (hinj : ∀ k k' x y, (s'.hp[k]?).join = some x → (s'.hp[k']?).join = some y → m k = m k' → k = k')
    (hh : ∀ k x', (s'.hp[k]?).join = some x' → ∃ x, (s.hp[m k]?).join = some x ∧ BlkLe x x') : Le s s' := fun w0 wk regs St a w h => by
  obtain ⟨Imm, h1, h2, h3⟩ := h.ex
  refine ⟨h.defers, by rw [hl]; exact h.tsize, h.frame, Imm, h1, fun t v hv => ?_, HpLe.gen m hinj hh w0 regs Imm w h3⟩
  rcases ht t v hv with rfl | ⟨u, hu, hle⟩
  · exact .inl rfl
  · exact hle _ _ _ (h2 t u hu)

/-- Temporaries, and blocks, under other names. -/
def leA : List AV → List AV → Prop
  | [], [] => True
  | v :: vs, u :: us => (u = .any ∨ RelLe v u) ∧ leA vs us
  | _, _ => False
def leB : List (Option Blk) → List (Option Blk) → Prop
  | [], [] => True
  | v :: vs, u :: us => (match u with | none => True | some y => match v with | some x => BlkLe x y | none => False) ∧ leB vs us
  | _, _ => False
theorem leA_get : ∀ {x y : List AV}, leA x y → y.length = x.length ∧ ∀ (t : Nat) (u : AV), y[t]? = some u → u = .any ∨ ∃ v, x[t]? = some v ∧ RelLe v u
  | [], [], _ => ⟨rfl, by simp⟩
  | v :: vs, u :: us, h => by
    obtain ⟨h1, h2⟩ := leA_get h.2
    refine ⟨by simp [h1], fun t w hw => ?_⟩
    cases t with
    | zero => simp only [List.getElem?_cons_zero, Option.some.injEq] at hw ⊢; subst hw; exact h.1.imp id fun e => ⟨v, rfl, e⟩
    | succ t => simpa using h2 t w (by simpa using hw)
  | [], _ :: _, h => h.elim
  | _ :: _, [], h => h.elim
theorem leB_get : ∀ {x y : List (Option Blk)}, leB x y → y.length = x.length ∧ ∀ (t : Nat) (u : Blk), (y[t]?).join = some u → ∃ v, (x[t]?).join = some v ∧ BlkLe v u
  | [], [], _ => ⟨rfl, by simp⟩
  | v :: vs, u :: us, h => by
    obtain ⟨h1, h2⟩ := leB_get h.2
    refine ⟨by simp [h1], fun t w hw => ?_⟩
    cases t with
    | zero =>
      simp only [List.getElem?_cons_zero, Option.join_some] at hw ⊢
      subst hw
      have := h.1
      cases v with
      | none => exact this.elim
      | some x => exact ⟨x, rfl, this⟩
    | succ t => simpa using h2 t w (by simpa using hw)
  | [], _ :: _, h => h.elim
  | _ :: _, [], h => h.elim
theorem BlkLe.cell {l : Nat × Nat} {n : Nat} {v v' : AV} (h : AVle v v') : BlkLe (.box l n v) (.box l n v') ↔ True := ⟨fun _ => trivial, fun _ => BlkLe.box h⟩
theorem BlkLe.refl' (x : Blk) : BlkLe x x ↔ True := ⟨fun _ => trivial, fun _ => BlkLe.refl x⟩
theorem RelLe.refl' (x : AV) : RelLe x x ↔ True := ⟨fun _ => trivial, fun _ => RelLe.refl x⟩
theorem RelLe.ptr' (b b' : Nat) (l : Nat × Nat) (off : Nat) (p : List Nat) : RelLe (.ptr b l off p) (.ptr b' l off p) ↔ True := ⟨fun _ => trivial, fun _ => RelLe.ptr _ _ _ _ _⟩
theorem AVle.freeS (b b' : Nat) (l : Nat × Nat) : AVle (freeS b l) (freeS b' l) := AVle.st1 (AVle.ptr _ _ _ _ _) AVle.st0
theorem BlkLe.freeS' (l0 : Nat × Nat) (b b' : Nat) (l : Nat × Nat) : BlkLe (.box l0 1 (freeS b l)) (.box l0 1 (freeS b' l)) ↔ True := ⟨fun _ => trivial, fun _ => BlkLe.box (AVle.freeS _ _ _)⟩

/-- The new table's blocks are put ahead of the call's own. -/
theorem Le.front {N : Nat} {tm tm' : List AV} {Lo Lo' : List (Option Blk)} {l : Nat × Nat} {r : Nat} (hN : Lo.length = N) (ht : leA tm tm') (hb : leB Lo Lo') : Le ⟨0, tm, Lo ++ newL N l r⟩ ⟨3, tm', newL 0 l r ++ Lo'⟩ := by
  obtain ⟨a1, a2⟩ := leA_get ht
  obtain ⟨b1, b2⟩ := leB_get hb
  have hlt : ∀ (k : Nat) (x : Blk), ((newL 0 l r ++ Lo')[k]?).join = some x → k < N + 3 := fun k x hx => by
    by_cases h : k < N + 3
    · exact h
    · rw [List.getElem?_eq_none (by simp [newL]; omega)] at hx; cases hx
  refine Le.genR a1 a2 (fun k => if k < 3 then N + k else k - 3) (fun k k' x y hx hy e => ?_) (fun k x hx => ?_)
  · have h1 := hlt k x hx
    have h2 := hlt k' y hy
    try simp only at e
    split at e <;> split at e <;> omega
  · have h1 := hlt k x hx
    simp only at hx ⊢
    by_cases h : k < 3
    · rw [if_pos h, cat1 N Lo _ k hN]
      rw [List.getElem?_append_left (by simp [newL]; omega)] at hx
      match k, hx with
      | 0, hx =>
        simp only [newL, List.getElem?_cons_zero, Option.join_some, Option.some.injEq] at hx
        subst hx
        exact ⟨_, rfl, BlkLe.box (AVle.st1 (AVle.own _ _ _) (AVle.st1 (AVle.own _ _ _) AVle.st0))⟩
      | 1, hx =>
        simp only [newL, List.getElem?_cons_succ, List.getElem?_cons_zero, Option.join_some, Option.some.injEq] at hx
        subst hx
        exact ⟨_, rfl, BlkLe.refl _⟩
      | 2, hx =>
        simp only [newL, List.getElem?_cons_succ, List.getElem?_cons_zero, Option.join_some, Option.some.injEq] at hx
        subst hx
        exact ⟨_, rfl, BlkLe.refl _⟩
      | k + 3, _ => omega
    · rw [if_neg h]
      obtain ⟨i, rfl⟩ : ∃ i, k = 3 + i := ⟨k - 3, by omega⟩
      rw [cat1 3 (newL 0 l r) _ i rfl] at hx
      obtain ⟨v, hv, hle⟩ := b2 i x hx
      have hi : i < Lo.length := by
        by_cases h : i < Lo.length
        · exact h
        · rw [List.getElem?_eq_none (by omega)] at hv; cases hv
      exact ⟨v, by rw [show 3 + i - 3 = i by omega, List.getElem?_append_left hi]; exact hv, hle⟩

/-- A call of the kit, upon a caller's blocks with the table among them. -/
def KC (P : Program) (f : FuncId) (vs : List AV) (H : List (Option Blk)) (t : Tb) (ts : List Term) (r : AV) (ts' : List Term) : Prop :=
  ∀ V L, XCall P f vs (tbOf H t V ts ++ L) fun r' H' => r' = r ∧ ∃ V', H' = tbOf H t V' ts' ++ L
theorem KC.of {P : Program} {f : FuncId} {vs : List AV} {H : List (Option Blk)} {t : Tb} {V0 : Value} {ts0 ts ts' : List Term} {r : AV} (hh : TbOk H t V0 ts0)
    (h : ∀ H V, TbOk H t V ts → XCall P f vs H fun r' H' => r' = r ∧ ∃ V', H' = tbOf H t V' ts') : KC P f vs H t ts r ts' := fun V L => by
  refine XCall.mono (h _ V (hh.at V ts L)) ?_
  rintro r' H' ⟨h1, V', h2⟩
  exact ⟨h1, V', by rw [h2, hh.at_of]⟩
theorem KC.xf {P : Program} {f : FuncId} {vs : List AV} {H : List (Option Blk)} {t : Tb} {ts ts' : List Term} {r : AV} (h : KC P f vs H t ts r ts') (V : Value) (L : List (Option Blk)) (E : List (Tmp × Blk)) :
    XCall P f vs (setE H.length (tbOf H t V ts ++ L) E) fun r' H' => ∃ hp', (r' = r ∧ ∃ V', hp' = tbOf H t V' ts' ++ L) ∧ H' = setE H.length hp' E := by
  refine XCall.mono (xf_of (tbOf_len H t V ts) (KG := fun r' G => r' = r ∧ ∃ V', G = tbOf H t V' ts') (fun L => XCall.mono (h V L) ?_) (fun r' G' hG => ?_) E) ?_
  · rintro r' H' ⟨h1, V', h2⟩
    exact ⟨_, ⟨h1, V', rfl⟩, h2⟩
  · obtain ⟨_, V', rfl⟩ := hG
    exact tbOf_len _ _ _ _
  · rintro r' H' ⟨hp', ⟨G', ⟨h1, V', rfl⟩, rfl⟩, h3⟩
    exact ⟨_, ⟨h1, V', rfl⟩, h3⟩

theorem areg_k {P : Program} {N : Nat} {tm : List AV} {L H : List (Option Blk)} {t : Tb} {V : Value} {ts ts' : List Term} {r : AV} {K : AS → Prop} {xs : List AOp} {d : Option Tmp} {g : XT} {ys : List Operand} {keep fresh : List Tmp} {fo : List Tmp} {ow : Option Tmp} {vs : List AV} {f : FuncId}
    (us : List AV) (hN : H.length = N) (ha : (ys.map fun x => AS.ev ⟨N, tm, tbOf H t V ts ++ L⟩ x) = us) (ht : tgtA P g us = some (f, vs)) (hc : KC P f vs H t ts r ts') (hlt : ∀ t' ∈ fresh, t' < L.length)
    (hk : ∀ t' ∈ keep, ∀ b, (AS.ev ⟨N, tm, tbOf H t V ts ++ L⟩ (.tmp t')).place = some b → N ≤ b)
    (h : ∀ V', AReg P xs { AS.put ⟨N, tm, tbOf H t V ts ++ L⟩ d r with hp := tbOf H t V' ts' ++ L } K) : AReg P (⟨d, none, .xc g ys keep fresh, fo, ow⟩ :: xs) ⟨N, tm, tbOf H t V ts ++ L⟩ K := by
  subst hN
  refine areg_xf (us := us) (K' := fun r' H' => r' = r ∧ ∃ V', H' = tbOf H t V' ts' ++ L) ha ht (fun E _ => hc.xf V L E) ⟨_, _, rfl, .slice none 0 0, rfl⟩ (fun t' ht' => by simp [tbOf_len]; exact hlt t' ht') (fun r' hp' hK => ?_) ?_
  · obtain ⟨_, V', rfl⟩ := hK
    refine ⟨fun t' ht' b hb => ?_, by simp [tbOf_len]⟩
    have hge := hk t' ht' b hb
    simp only
    rw [List.getElem?_append_right (by rw [tbOf_len]; exact hge), List.getElem?_append_right (by rw [tbOf_len]; exact hge), tbOf_len, tbOf_len]
  · rintro r' hp' ⟨rfl, V', rfl⟩
    exact h V'

/-- A new kit's table, put ahead of all. -/
theorem wp_kit {P : Program} {b : AC} {Q : AX → AS → Prop} {n : Nat} {tm : List AV} {Lo : List (Option Blk)} {l : Nat × Nat} {r : Nat} (tm' : Nat → Tb → List AV) (Lo' : Nat → Tb → List (Option Blk)) (hN : Lo.length = n) (ht : leA tm (tm' 3 (tbNew 0 l r))) (hb : leB Lo (Lo' 3 (tbNew 0 l r)))
    (k : ∀ N H t V, TbOk H t V [] → H.length = N → b.wp P ⟨N, tm' N t, tbOf H t V [] ++ Lo' N t⟩ Q) : ∃ s0, Le ⟨0, tm, Lo ++ newL n l r⟩ s0 ∧ b.wp P s0 Q := by
  have hok : TbOk (newL 0 l r) (tbNew 0 l r) (.slice none 0 0) [] := new_ok [] l r
  refine ⟨_, Le.front hN ht hb, ?_⟩
  have := k 3 (newL 0 l r) (tbNew 0 l r) (.slice none 0 0) hok rfl
  rw [hok.self] at this
  exact this
theorem TsOk.nil : TsOk [] := ⟨by simp, by simp, by simp, by simp⟩

section
variable {H : List (Option Blk)} {t : Tb} {V0 : Value} {ts0 ts : List Term}
theorem draw_k (hh : TbOk H t V0 ts0) (hn : ts.length < 100000) {s : List UInt8} (hs : s.length < 100000) : KC Go.Proofs.Try.prog 11 [.ptr t.b t.l 0 [], .lit (tx s)] H t ts (keyA (nameK (putN ts (drawT s)))) (putT ts (drawT s)) :=
  KC.of hh fun H V h => draw_call h hn s hs
theorem store_k (hh : TbOk H t V0 ts0) (hts : TsOk ts) {n : Nat} (hn : n < 100) (hl : ts.length + 2000 < 90000) : KC Go.Proofs.Try.prog 7 [freeI t.b t.l, .lit (jn n)] H t ts (storeA (storeT ts n).1) (storeT ts n).2 :=
  KC.of hh fun H V h => store_call h hts hn hl
theorem show_k (hh : TbOk H t V0 ts0) (hts : TsOk ts) {s : Store} (hs : StoreOk s) (hl : ts.length + 3000 < 90000) : KC Go.Proofs.Try.prog 8 [freeI t.b t.l, storeA s] H t ts (storeA (showT ts s).1) (showT ts s).2 :=
  KC.of hh fun H V h => show_call h hts hs hl
theorem begin_k (hh : TbOk H t V0 ts0) (hts : TsOk ts) {id eph : List UInt8} {b : Store} (hid : id.length = 32) (heph : eph.length = 32) (hb : StoreOk b) (hl : ts.length + 3000 < 90000) : KC Go.Proofs.Try.prog 10 [freeI t.b t.l, keyA id, keyA eph, storeA b] H t ts (begunA (beginT ts id eph b).1) (beginT ts id eph b).2 :=
  KC.of hh fun H V h => begin_call h hts hid heph hb hl
theorem answer_k (hh : TbOk H t V0 ts0) (hts : TsOk ts) {s : Store} {h : Hello} (hs : StoreOk s) (hho : HelloOk h) (hl : ts.length + 5000 < 90000) : KC Go.Proofs.Try.prog 12 [freeI t.b t.l, storeA s, helloA h] H t ts (answeredA (answerT ts s h).1) (answerT ts s h).2 :=
  KC.of hh fun H V h => answer_call h hts hs hho hl
end
end Go.Cab

/- Free kit, plain: tables grow; which term a name is; what two agree on, in either order. -/
-- TEXTS
-- KIT
namespace Go.Cab
open Classical

/-! ### Bytes compared -/
theorem cmp_neg : ∀ (a b : List UInt8), Go.Lib.compareBytes b a = - Go.Lib.compareBytes a b
  | [], [] => rfl
  | [], _ :: _ => rfl
  | _ :: _, [] => rfl
  | a :: xa, b :: bs => by
    unfold Go.Lib.compareBytes
    have h : ¬ (a < b ∧ b < a) := fun ⟨h, k⟩ => by have := UInt8.lt_iff_toNat_lt.1 h; have := UInt8.lt_iff_toNat_lt.1 k; omega
    by_cases h1 : a < b
    · have h2 : ¬ b < a := fun k => h ⟨h1, k⟩
      simp [h1, h2]
    · by_cases h2 : b < a
      · simp [h1, h2]
      · simp only [h1, h2, if_false]; exact cmp_neg xa bs
theorem cmp_zero : ∀ (a b : List UInt8), Go.Lib.compareBytes a b = 0 → a = b
  | [], [], _ => rfl
  | [], _ :: _, h => by simp [Go.Lib.compareBytes] at h
  | _ :: _, [], h => by simp [Go.Lib.compareBytes] at h
  | a :: xa, b :: bs, h => by
    unfold Go.Lib.compareBytes at h
    split at h
    · omega
    · split at h
      · omega
      · rename_i h1 h2
        have : a = b := by
          apply UInt8.toNat_inj.1
          have h1' : ¬ a.toNat < b.toNat := fun k => h1 (UInt8.lt_iff_toNat_lt.2 k)
          have h2' : ¬ b.toNat < a.toNat := fun k => h2 (UInt8.lt_iff_toNat_lt.2 k)
          omega
        rw [this, cmp_zero xa bs h]

/-- What two agree on. -/
def agr (a k : List UInt8) : Term := if 0 < Go.Lib.compareBytes a k then ⟨4, [], [k, a]⟩ else ⟨4, [], [a, k]⟩
theorem agr_comm (a k : List UInt8) : agr a k = agr k a := by
  unfold agr
  have h := cmp_neg a k
  by_cases h1 : 0 < Go.Lib.compareBytes a k
  · rw [if_pos h1, if_neg (by omega)]
  · rw [if_neg h1]
    by_cases h2 : 0 < Go.Lib.compareBytes k a
    · rw [if_pos h2]
    · rw [if_neg h2, cmp_zero a k (by omega)]
theorem agr_kind (a k : List UInt8) : (agr a k).kind = 4 := by unfold agr; split <;> rfl
theorem agr_wf (a k : List UInt8) : WfT (agr a k) := by unfold agr; split <;> exact ⟨by simp, by simp⟩
theorem agr_ok {a k : List UInt8} (ha : a.length = 32) (hk : k.length = 32) : TermOk (agr a k) := by
  unfold agr
  split <;> exact ⟨by simp, by simp, by simp, by simp [ha, hk]⟩

/-! ### Names -/
theorem ofNat_mod (n : Nat) : (UInt8.ofNat n).toNat = n % 256 := by simp
theorem be32_name {n : Nat} (h : n < 4294967296) : be32 (nameK n) = n := by
  have e : be32 (nameK n) = (UInt8.ofNat (n / 16777216)).toNat * 16777216 + (UInt8.ofNat (n / 65536)).toNat * 65536 + (UInt8.ofNat (n / 256)).toNat * 256 + (UInt8.ofNat n).toNat := rfl
  rw [e, ofNat_mod, ofNat_mod, ofNat_mod, ofNat_mod]
  omega
theorem name_inj {n m : Nat} (hn : n < 4294967296) (hm : m < 4294967296) (h : nameK n = nameK m) : n = m := by
  rw [← be32_name hn, ← be32_name hm, h]
theorem name_nz (n : Nat) : nameK n ≠ zk := fun h => by
  have := congrArg (fun l => l.getD 0 0) h
  simp [nameK, zk] at this
theorem four_inj {n m : Nat} (hn : n < 4294967296) (hm : m < 4294967296) (h : four n = four m) : n = m := by
  simp only [four, List.cons.injEq, and_true] at h
  obtain ⟨h1, h2, h3, h4⟩ := h
  have k1 := congrArg UInt8.toNat h1; have k2 := congrArg UInt8.toNat h2; have k3 := congrArg UInt8.toNat h3; have k4 := congrArg UInt8.toNat h4
  rw [ofNat_mod, ofNat_mod] at k1 k2 k3 k4
  omega

/-! ### Shapes -/
theorem flat_inj : ∀ {a b : List (List UInt8)}, (∀ k ∈ a, k.length = 32) → (∀ k ∈ b, k.length = 32) → a.flatten = b.flatten → a = b
  | [], [], _, _, _ => rfl
  | [], y :: b, _, hb, h => by
    have := congrArg List.length h
    simp only [List.flatten_nil, List.flatten_cons, List.length_append, hb y (by simp), List.length_nil] at this
    omega
  | x :: a, [], ha, _, h => by
    have := congrArg List.length h
    simp only [List.flatten_nil, List.flatten_cons, List.length_append, ha x (by simp), List.length_nil] at this
    omega
  | x :: a, y :: b, ha, hb, h => by
    simp only [List.flatten_cons] at h
    obtain ⟨h1, h2⟩ := List.append_inj h (by rw [ha x (by simp), hb y (by simp)])
    rw [h1, flat_inj (fun k hk => ha k (by simp [hk])) (fun k hk => hb k (by simp [hk])) h2]
theorem shape_inj {x y : Term} (hx : TermOk x) (hy : TermOk y) (h : shapeT x = shapeT y) : x = y := by
  obtain ⟨kx, tx', ksx⟩ := x
  obtain ⟨ky, ty, ksy⟩ := y
  obtain ⟨x1, x2, x3, x4⟩ := hx
  obtain ⟨y1, y2, y3, y4⟩ := hy
  simp only [shapeT] at h x1 x2 x3 x4 y1 y2 y3 y4
  simp only [List.append_assoc] at h
  obtain ⟨h1, h⟩ := List.append_inj h (by simp)
  obtain ⟨h2, h⟩ := List.append_inj h (by simp [four])
  have e2 := four_inj (by omega) (by omega) h2
  obtain ⟨h3, h4⟩ := List.append_inj h e2
  have e1 : kx = ky := by
    simp only [List.cons.injEq, and_true] at h1
    have := congrArg UInt8.toNat h1
    rw [ofNat_mod, ofNat_mod] at this
    omega
  rw [e1, h3, flat_inj x4 y4 h4]

/-! ### What stands in a table -/
/-- The term stands there, at that number. -/
def In (ts : List Term) (x : Term) (n : Nat) : Prop := findT (shapeT x) ts 0 = some n
theorem findT_app {s : List UInt8} : ∀ {ts : List Term} {i n : Nat} (us : List Term), findT s ts i = some n → findT s (ts ++ us) i = some n
  | [], _, _, _, h => by cases h
  | x :: xs, i, n, us, h => by
    unfold findT at h
    rw [List.cons_append, findT]
    split at h
    · rename_i e; rw [if_pos e]; exact h
    · rename_i e; rw [if_neg e]; exact findT_app us h
theorem findT_get {s : List UInt8} : ∀ {ts : List Term} {i n : Nat}, findT s ts i = some n → ∃ x, ts[n - i]? = some x ∧ s = shapeT x
  | [], _, _, h => by cases h
  | x :: xs, i, n, h => by
    have hl := findT_lt h
    unfold findT at h
    split at h
    · rename_i e; cases h; exact ⟨x, by simp, e⟩
    · have hl2 := findT_lt h
      obtain ⟨y, h1, h2⟩ := findT_get h
      refine ⟨y, ?_, h2⟩
      rw [show n - i = (n - (i + 1)) + 1 by omega]
      simpa using h1
theorem findT_snoc {x : Term} : ∀ {ts : List Term} {i : Nat}, findT (shapeT x) ts i = none → findT (shapeT x) (ts ++ [x]) i = some (i + ts.length)
  | [], i, _ => by simp [findT]
  | y :: ys, i, h => by
    unfold findT at h
    split at h
    · cases h
    · rename_i e
      rw [List.cons_append, findT, if_neg e, findT_snoc h]
      simp only [List.length_cons]; congr 1; omega
theorem In.put (ts : List Term) (x : Term) : In (putT ts x) x (putN ts x) := by
  unfold In putT putN
  cases h : findT (shapeT x) ts 0 with
  | some n => exact h
  | none => rw [findT_snoc h]; simp
theorem put_pre (ts : List Term) (x : Term) : ts <+: putT ts x := by
  unfold putT
  cases findT (shapeT x) ts 0 with
  | some n => exact List.prefix_refl _
  | none => exact List.prefix_append _ _
theorem In.mono {ts us : List Term} {x : Term} {n : Nat} (h : In ts x n) (k : ts <+: us) : In us x n := by
  obtain ⟨vs, rfl⟩ := k
  exact findT_app vs h
theorem In.putT {ts : List Term} {x : Term} {n : Nat} (h : In ts x n) : putT ts x = ts := by
  unfold In at h
  unfold Cab.putT
  rw [h]
theorem In.putN {ts : List Term} {x : Term} {n : Nat} (h : In ts x n) : putN ts x = n := by
  unfold In at h
  unfold Cab.putN
  rw [h]
theorem In.lt {ts : List Term} {x : Term} {n : Nat} (h : In ts x n) : n < ts.length := by have := findT_lt h; omega
theorem In.get {ts : List Term} {x : Term} {n : Nat} (h : In ts x n) (hts : TsOk ts) (hx : TermOk x) : ts[n]? = some x := by
  obtain ⟨y, h1, h2⟩ := findT_get h
  rw [Nat.sub_zero] at h1
  rw [h1, shape_inj (hts.ok y (List.mem_of_getElem? h1)) hx h2.symm]
theorem In.inj {ts : List Term} {x y : Term} {n : Nat} (h : In ts x n) (k : In ts y n) (hts : TsOk ts) (hx : TermOk x) (hy : TermOk y) : x = y := by
  have := h.get hts hx
  rw [k.get hts hy] at this
  exact (Option.some.inj this).symm

/-- A key that is the name of a term that stands there. -/
def Nm (ts : List Term) (x : Term) (k : List UInt8) : Prop := ∃ n, k = nameK n ∧ In ts x n
theorem Nm.put (ts : List Term) (x : Term) : Nm (putT ts x) x (nameK (putN ts x)) := ⟨_, rfl, In.put ts x⟩
theorem Nm.mono {ts us : List Term} {x : Term} {k : List UInt8} (h : Nm ts x k) (p : ts <+: us) : Nm us x k := by
  obtain ⟨n, h1, h2⟩ := h
  exact ⟨n, h1, h2.mono p⟩
theorem Nm.putT {ts : List Term} {x : Term} {k : List UInt8} (h : Nm ts x k) : putT ts x = ts := by obtain ⟨n, _, h2⟩ := h; exact h2.putT
theorem Nm.putN {ts : List Term} {x : Term} {k : List UInt8} (h : Nm ts x k) : nameK (putN ts x) = k := by obtain ⟨n, h1, h2⟩ := h; rw [h2.putN, h1]
theorem Nm.len {ts : List Term} {x : Term} {k : List UInt8} (h : Nm ts x k) : k.length = 32 := by obtain ⟨n, rfl, _⟩ := h; exact nameK_len n
theorem Nm.nz {ts : List Term} {x : Term} {k : List UInt8} (h : Nm ts x k) : k ≠ zk := by obtain ⟨n, rfl, _⟩ := h; exact name_nz n
theorem Nm.inj {ts : List Term} {x y : Term} {k : List UInt8} (h : Nm ts x k) (g : Nm ts y k) (hts : TsOk ts) (hx : TermOk x) (hy : TermOk y) : x = y := by
  obtain ⟨n, h1, h2⟩ := h
  obtain ⟨m, g1, g2⟩ := g
  have hl := hts.len
  have a1 := h2.lt
  have a2 := g2.lt
  have : n = m := name_inj (by omega) (by omega) (by rw [← h1, g1])
  subst this
  exact h2.inj g2 hts hx hy
theorem Nm.fun {ts : List Term} {x : Term} {k k' : List UInt8} (h : Nm ts x k) (g : Nm ts x k') : k = k' := by rw [← h.putN, g.putN]

/-- What agreeing on a public key comes to. -/
theorem agreeX_pub {ts : List Term} (hts : TsOk ts) {a k p : List UInt8} (hk : k.length = 32) (h : Nm ts (pubT k) p) : agreeX ts a p = some (agr a k) := by
  have hnz := h.nz
  obtain ⟨n, rfl, hn⟩ := h
  have hl := hts.len
  have hlt := hn.lt
  unfold agreeX
  rw [if_neg hnz, be32_name (by omega), if_neg (by simp; omega), hn.get hts (pubT_ok hk)]
  simp only [pubT, if_true, List.getD_cons_zero]
  rw [agr]
  split <;> rfl

/-! ### All pairs -/
/-- What pairs of secrets come to. -/
def goG : List Term → List (List UInt8) → List KK → List (List UInt8) × List Term
  | ts, acc, [] => (acc, ts)
  | ts, acc, q :: qs => goG (putT ts (agr q.1 q.2)) (acc ++ [nameK (putN ts (agr q.1 q.2))]) qs
/-- The second ones' public keys. -/
def PubsOf (ts : List Term) : List KK → List KK → Prop
  | [], [] => True
  | p :: ps, q :: qs => p.1 = q.1 ∧ q.1.length = 32 ∧ q.2.length = 32 ∧ Nm ts (pubT q.2) p.2 ∧ PubsOf ts ps qs
  | _, _ => False
theorem PubsOf.mono {ts us : List Term} (k : ts <+: us) : ∀ {ps qs : List KK}, PubsOf ts ps qs → PubsOf us ps qs
  | [], [], _ => trivial
  | _ :: _, _ :: _, ⟨h1, h2, h3, h4, h5⟩ => ⟨h1, h2, h3, h4.mono k, h5.mono k⟩
  | [], _ :: _, h => h.elim
  | _ :: _, [], h => h.elim
theorem agreedG_go : ∀ (ps qs : List KK) (ts : List Term) (acc : List (List UInt8)), TsOk ts → ts.length + ps.length + 10 < 90000 → PubsOf ts ps qs → agreedG ts acc ps = (some (goG ts acc qs).1, (goG ts acc qs).2)
  | [], [], _, _, _, _, _ => rfl
  | p :: ps, q :: qs, ts, acc, hts, hl, ⟨h1, h2, h3, h4, h5⟩ => by
    simp only [List.length_cons] at hl
    have hlen := putT_len ts (agr q.1 q.2)
    rw [agreedG, agreeX_pub hts h3 h4, h1]
    exact agreedG_go ps qs _ _ (hts.put (agr_ok h2 h3) (agr_wf _ _) (by omega)) (by omega) (h5.mono (put_pre _ _))
  | [], _ :: _, _, _, _, _, h => h.elim
  | _ :: _, [], _, _, _, _, h => h.elim
theorem goG_pre : ∀ (qs : List KK) (ts : List Term) (acc : List (List UInt8)), ts <+: (goG ts acc qs).2
  | [], _, _ => List.prefix_refl _
  | q :: qs, ts, acc => (put_pre ts (agr q.1 q.2)).trans (goG_pre qs _ _)
/-- Once reckoned, it is there. -/
theorem goG_again : ∀ (qs qs' : List KK) (ts us : List Term) (acc : List (List UInt8)), (qs.map fun q => agr q.1 q.2) = (qs'.map fun q => agr q.1 q.2) → (goG ts acc qs).2 <+: us → goG us acc qs' = ((goG ts acc qs).1, us)
  | [], [], _, _, _, _, _ => rfl
  | q :: qs, q' :: qs', ts, us, acc, h, k => by
    simp only [List.map_cons, List.cons.injEq] at h
    have hn : Nm us (agr q.1 q.2) (nameK (putN ts (agr q.1 q.2))) := (Nm.put ts _).mono ((goG_pre qs _ _).trans k)
    rw [goG, goG, ← h.1, hn.putT, hn.putN]
    exact goG_again qs qs' _ us _ h.2 k
  | [], _ :: _, _, _, _, h, _ => by simp at h
  | _ :: _, [], _, _, _, h, _ => by simp at h
theorem agreedT_go {ts : List Term} (hts : TsOk ts) {ps qs : List KK} (hl : ts.length + ps.length + 10 < 90000) (h : PubsOf ts ps qs) :
    agreedT ts ps = (some (nameK (putN (goG ts [] qs).2 ⟨2, hello, (goG ts [] qs).1⟩)), putT (goG ts [] qs).2 ⟨2, hello, (goG ts [] qs).1⟩) := by
  unfold agreedT
  rw [agreedG_go ps qs ts [] hts hl h]
theorem agreedT_pre {ts : List Term} {ps qs : List KK} (hts : TsOk ts) (hl : ts.length + ps.length + 10 < 90000) (h : PubsOf ts ps qs) : ts <+: (agreedT ts ps).2 := by
  rw [agreedT_go hts hl h]
  exact (goG_pre _ _ _).trans (put_pre _ _)
/-- The others come to the same. -/
theorem agreedT_again {ts us : List Term} (hts : TsOk ts) (hus : TsOk us) {ps qs ps' qs' : List KK} (hl : ts.length + ps.length + 10 < 90000) (hl' : us.length + ps'.length + 10 < 90000) (h : PubsOf ts ps qs) (h' : PubsOf us ps' qs')
    (he : (qs.map fun q => agr q.1 q.2) = (qs'.map fun q => agr q.1 q.2)) (hpre : (agreedT ts ps).2 <+: us) : agreedT us ps' = ((agreedT ts ps).1, us) := by
  rw [agreedT_go hts hl h] at hpre ⊢
  have hg := goG_again qs qs' ts us [] he ((put_pre _ _).trans hpre)
  have hn := (Nm.put (goG ts [] qs).2 ⟨2, hello, (goG ts [] qs).1⟩).mono hpre
  rw [agreedT_go hus hl' h', hg]
  simp only
  rw [hn.putT, hn.putN]
end Go.Cab

/- Bundle, plain: both come to one secret. -/
-- TEXTS
-- KIT
namespace Go.Cab
open Classical

/-- Secrets, and their public keys. -/
def ShL (ts : List Term) : List (List UInt8) → List (List UInt8) → Prop
  | [], [] => True
  | x :: xs, y :: ys => x.length = 32 ∧ Nm ts (pubT x) y ∧ ShL ts xs ys
  | _, _ => False
theorem ShL.mono {ts us : List Term} (k : ts <+: us) : ∀ {xs ys : List (List UInt8)}, ShL ts xs ys → ShL us xs ys
  | [], [], _ => trivial
  | _ :: _, _ :: _, ⟨h1, h2, h3⟩ => ⟨h1, h2.mono k, h3.mono k⟩
  | [], _ :: _, h => h.elim
  | _ :: _, [], h => h.elim
theorem ShL.len {ts : List Term} : ∀ {xs ys : List (List UInt8)}, ShL ts xs ys → xs.length = ys.length ∧ (∀ x ∈ xs, x.length = 32) ∧ ∀ y ∈ ys, y.length = 32
  | [], [], _ => ⟨rfl, by simp, by simp⟩
  | x :: xs, y :: ys, ⟨h1, h2, h3⟩ => by
    obtain ⟨r1, r2, r3⟩ := h3.len
    have := h2.len
    refine ⟨by simp [r1], ?_, ?_⟩
    · intro z hz; rcases List.mem_cons.1 hz with rfl | hz
      · exact h1
      · exact r2 z hz
    · intro z hz; rcases List.mem_cons.1 hz with rfl | hz
      · exact this
      · exact r3 z hz
  | [], _ :: _, h => h.elim
  | _ :: _, [], h => h.elim
theorem ShL.app {ts : List Term} : ∀ {xs ys : List (List UInt8)} {x y : List UInt8}, ShL ts xs ys → x.length = 32 → Nm ts (pubT x) y → ShL ts (xs ++ [x]) (ys ++ [y])
  | [], [], _, _, _, h1, h2 => ⟨h1, h2, trivial⟩
  | _ :: _, _ :: _, _, _, ⟨h1, h2, h3⟩, k1, k2 => ⟨h1, h2, h3.app k1 k2⟩
  | [], _ :: _, _, _, h, _, _ => h.elim
  | _ :: _, [], _, _, h, _, _ => h.elim

structure Sh (ts : List Term) (s b : Store) : Prop where
  id : Nm ts (pubT s.id) b.id
  pre : Nm ts (pubT s.pre) b.pre
  ones : ShL ts s.ones b.ones
  ok : StoreOk s
  nd : s.ones.Nodup
theorem Sh.mono {ts us : List Term} {s b : Store} (h : Sh ts s b) (k : ts <+: us) : Sh us s b := ⟨h.id.mono k, h.pre.mono k, h.ones.mono k, h.ok, h.nd⟩
theorem Sh.okb {ts : List Term} {s b : Store} (h : Sh ts s b) : StoreOk b := by
  obtain ⟨r1, r2, r3⟩ := h.ones.len
  exact ⟨h.id.len, h.pre.len, r3, by rw [← r1]; exact h.ok.len⟩

/-! ### The store -/
theorem dig_lt {i : Nat} (hi : i < 10) : digs i = [dig8 i] := by rw [digs, dif_pos hi]
theorem dig_inj {i j : Nat} (hi : i < 10) (hj : j < 10) (h : digs i = digs j) : i = j := by
  rw [dig_lt hi, dig_lt hj] at h
  simp only [dig8, List.cons.injEq, and_true] at h
  have := congrArg UInt8.toNat h
  rw [ofNat_mod, ofNat_mod] at this
  omega
theorem dig1 {i : Nat} (hi : i < 10) : (digs i).length = 1 := by rw [digs, dif_pos hi]; rfl
def oneT (i : Nat) : Term := drawT (txOne ++ digs i)
theorem oneT_ok {i : Nat} (hi : i < 10) : TermOk (oneT i) := drawT_ok (by rw [List.length_append, dig1 hi]; simp [txOne])
theorem oneT_inj {i j : Nat} (hi : i < 10) (hj : j < 10) (h : oneT i = oneT j) : i = j := by
  simp only [oneT, drawT, Term.mk.injEq, and_true, true_and] at h
  exact dig_inj hi hj (List.append_cancel_left h)
theorem onesG_ok : ∀ (m : Nat) (ts : List Term) (acc : List (List UInt8)) (i : Nat), TsOk ts → i + m ≤ 10 → ts.length + m + 10 < 90000 → acc.Nodup → (∀ k ∈ acc, ∃ j, j < i ∧ Nm ts (oneT j) k) → acc.length = i →
    (onesG m ts acc i).1.Nodup ∧ (∀ k ∈ (onesG m ts acc i).1, k.length = 32) ∧ (onesG m ts acc i).1.length = i + m ∧ TsOk (onesG m ts acc i).2 ∧ (onesG m ts acc i).2.length ≤ ts.length + m ∧ (∀ k ∈ (onesG m ts acc i).1, ∃ j, j < i + m ∧ Nm (onesG m ts acc i).2 (oneT j) k)
  | 0, ts, acc, i, hts, _, _, hnd, hk, hl => ⟨hnd, fun k h => by obtain ⟨_, _, h⟩ := hk k h; exact h.len, hl, hts, Nat.le_refl _, hk⟩
  | m + 1, ts, acc, i, hts, hi, hlen, hnd, hk, hl => by
    have hok := oneT_ok (i := i) (by omega)
    have hlp := putT_len ts (oneT i)
    have hp : TsOk (putT ts (oneT i)) := hts.put hok ⟨fun h => by simp [oneT, drawT] at h, fun h => by simp [oneT, drawT] at h⟩ (by omega)
    have hnew := Nm.put ts (oneT i)
    have := onesG_ok m (putT ts (oneT i)) (acc ++ [nameK (putN ts (oneT i))]) (i + 1) hp (by omega) (by omega) ?_ ?_ (by simp [hl])
    · rw [onesG]
      obtain ⟨r1, r2, r3, r4, r5, r6⟩ := this
      exact ⟨r1, r2, by rw [show i + (m + 1) = i + 1 + m by omega]; exact r3, r4, Nat.le_trans r5 (by omega), fun k hk => by obtain ⟨j, hj, h⟩ := r6 k hk; exact ⟨j, by omega, h⟩⟩
    · rw [List.nodup_append]
      refine ⟨hnd, by simp, fun a ha b hb he => ?_⟩
      simp only [List.mem_singleton] at hb
      subst hb he
      obtain ⟨j, hj, h⟩ := hk _ ha
      have := (h.mono (put_pre ts (oneT i))).inj hnew hp (oneT_ok (by omega)) hok
      have := oneT_inj (by omega) (by omega) this
      omega
    · intro k hk'
      rcases List.mem_append.1 hk' with h | h
      · obtain ⟨j, hj, h⟩ := hk k h
        exact ⟨j, by omega, h.mono (put_pre _ _)⟩
      · simp only [List.mem_singleton] at h
        subst h
        exact ⟨i, by omega, hnew⟩
theorem storeT_ok {ts : List Term} (hts : TsOk ts) {n : Nat} (hn : n ≤ 10) (hlen : ts.length + 100 < 90000) :
    StoreOk (storeT ts n).1 ∧ (storeT ts n).1.ones.Nodup ∧ (storeT ts n).1.ones.length = n ∧ TsOk (storeT ts n).2 ∧ (storeT ts n).2.length ≤ ts.length + n + 2 ∧ (∀ k ∈ (storeT ts n).1.ones, ∃ j, j < n ∧ Nm (storeT ts n).2 (oneT j) k) := by
  have l1 := putT_len ts (drawT txId)
  have l2 := putT_len (putT ts (drawT txId)) (drawT txPre)
  have h1 := hts.draw (s := txId) (by decide) (by omega)
  have h2 := h1.draw (s := txPre) (by decide) (by omega)
  obtain ⟨r1, r2, r3, r4, r5, r6⟩ := onesG_ok n _ [] 0 h2 (by omega) (by omega) (by simp) (by simp) rfl
  refine ⟨⟨nameK_len _, nameK_len _, r2, by show (onesG _ _ _ _).1.length < 900; omega⟩, r1, by show (onesG _ _ _ _).1.length = n; omega, r4, by show (onesG _ _ _ _).2.length ≤ _; omega, fun k hk => by obtain ⟨j, hj, h⟩ := r6 k hk; exact ⟨j, by omega, h⟩⟩

theorem pubsG_ok : ∀ (xs done : List (List UInt8)) (ts : List Term) (acc : List (List UInt8)), TsOk ts → ts.length + xs.length + 10 < 90000 → (∀ x ∈ xs, x.length = 32) → ShL ts done acc →
    ShL (pubsG xs ts acc).2 (done ++ xs) (pubsG xs ts acc).1 ∧ TsOk (pubsG xs ts acc).2 ∧ (pubsG xs ts acc).2.length ≤ ts.length + xs.length ∧ ts <+: (pubsG xs ts acc).2
  | [], done, ts, acc, hts, _, _, h => ⟨by rw [List.append_nil]; exact h, hts, Nat.le_refl _, List.prefix_refl _⟩
  | x :: xs, done, ts, acc, hts, hl, h32, h => by
    simp only [List.length_cons] at hl ⊢
    have hlp := putT_len ts (pubT x)
    have hx := h32 x (by simp)
    obtain ⟨r1, r2, r3, r4⟩ := pubsG_ok xs (done ++ [x]) (putT ts (pubT x)) (acc ++ [nameK (putN ts (pubT x))]) (hts.putPub hx (by omega)) (by omega) (fun y hy => h32 y (by simp [hy])) ((h.mono (put_pre _ _)).app hx (Nm.put _ _))
    rw [List.append_assoc, List.singleton_append] at r1
    exact ⟨r1, r2, by rw [pubsG]; omega, (put_pre _ _).trans r4⟩
theorem showT_ok {ts : List Term} (hts : TsOk ts) {s : Store} (hs : StoreOk s) (hnd : s.ones.Nodup) (hlen : ts.length + 1000 < 90000) :
    Sh (showT ts s).2 s (showT ts s).1 ∧ TsOk (showT ts s).2 ∧ (showT ts s).2.length ≤ ts.length + s.ones.length + 2 ∧ ts <+: (showT ts s).2 := by
  have l0 := hs.len
  have l1 := putT_len ts (pubT s.id)
  have l2 := putT_len (putT ts (pubT s.id)) (pubT s.pre)
  have h1 := hts.putPub hs.id (by omega)
  have h2 := h1.putPub hs.pre (by omega)
  obtain ⟨r1, r2, r3, r4⟩ := pubsG_ok s.ones [] _ [] h2 (by omega) hs.ones trivial
  refine ⟨⟨((Nm.put ts (pubT s.id)).mono (put_pre _ _)).mono r4, (Nm.put _ (pubT s.pre)).mono r4, r1, hs, hnd⟩, r2, by show (pubsG _ _ _).2.length ≤ _; omega, (put_pre _ _).trans ((put_pre _ _).trans r4)⟩

/-! ### A greeting, and its answer -/
theorem idxF_none {one : List UInt8} : ∀ {xs ys : List (List UInt8)} {ts : List Term} {i : Nat}, ShL ts xs ys → (∀ y ∈ ys, y ≠ one) → idxF one ts xs i = (none, ts)
  | [], [], _, _, _, _ => rfl
  | x :: xs, y :: ys, ts, i, ⟨_, h2, h3⟩, h => by
    rw [idxF, h2.putN, if_neg (h y (by simp)), h2.putT]
    exact idxF_none h3 (fun z hz => h z (by simp [hz]))
  | [], _ :: _, _, _, h, _ => h.elim
  | _ :: _, [], _, _, h, _ => h.elim
theorem ShL.ne {ts : List Term} (hts : TsOk ts) {x y : List UInt8} (hx : x.length = 32) (hxy : Nm ts (pubT x) y) : ∀ {xs ys : List (List UInt8)}, ShL ts xs ys → x ∉ xs → ∀ z ∈ ys, z ≠ y
  | [], [], _, _ => by simp
  | u :: us, v :: vs, ⟨h1, h2, h3⟩, hn => by
    intro z hz he
    rcases List.mem_cons.1 hz with rfl | hz
    · subst he
      have := h2.inj hxy hts (pubT_ok h1) (pubT_ok hx)
      simp only [pubT, Term.mk.injEq, List.cons.injEq, and_true, true_and] at this
      exact hn (by simp [this])
    · exact h3.ne hts hx hxy (fun h => hn (by simp [h])) z hz he
  | [], _ :: _, h, _ => h.elim
  | _ :: _, [], h, _ => h.elim

/-- Names of terms. -/
def NmL (ts : List Term) : List Term → List (List UInt8) → Prop
  | [], [] => True
  | x :: xs, k :: ks => Nm ts x k ∧ NmL ts xs ks
  | _, _ => False
theorem NmL.mono {ts us : List Term} (p : ts <+: us) : ∀ {xs : List Term} {ks : List (List UInt8)}, NmL ts xs ks → NmL us xs ks
  | [], [], _ => trivial
  | _ :: _, _ :: _, ⟨h, k⟩ => ⟨h.mono p, k.mono p⟩
  | [], _ :: _, h => h.elim
  | _ :: _, [], h => h.elim
theorem NmL.app {ts : List Term} {x : Term} {k : List UInt8} : ∀ {xs : List Term} {ks : List (List UInt8)}, NmL ts xs ks → Nm ts x k → NmL ts (xs ++ [x]) (ks ++ [k])
  | [], [], _, h => ⟨h, trivial⟩
  | _ :: _, _ :: _, ⟨h, g⟩, k => ⟨h, g.app k⟩
  | [], _ :: _, h, _ => h.elim
  | _ :: _, [], h, _ => h.elim
theorem mem_put {ts : List Term} {x y : Term} (h : y ∈ putT ts x) : y ∈ ts ∨ y = x := by
  unfold putT at h
  cases hf : findT (shapeT x) ts 0 with
  | some n => rw [hf] at h; exact .inl h
  | none => rw [hf] at h; simpa using h
theorem goG_nm : ∀ (qs : List KK) (ts : List Term) (acc : List (List UInt8)) (xs : List Term), NmL ts xs acc → NmL (goG ts acc qs).2 (xs ++ qs.map fun q => agr q.1 q.2) (goG ts acc qs).1
  | [], ts, acc, xs, h => by simpa [goG] using h
  | q :: qs, ts, acc, xs, h => by
    have := goG_nm qs (putT ts (agr q.1 q.2)) (acc ++ [nameK (putN ts (agr q.1 q.2))]) (xs ++ [agr q.1 q.2]) ((h.mono (put_pre _ _)).app (Nm.put _ _))
    rw [List.append_assoc] at this
    exact this
theorem goG_mem : ∀ (qs : List KK) (ts : List Term) (acc : List (List UInt8)) (y : Term), y ∈ (goG ts acc qs).2 → y ∈ ts ∨ ∃ q ∈ qs, y = agr q.1 q.2
  | [], ts, acc, y, h => .inl h
  | q :: qs, ts, acc, y, h => by
    rcases goG_mem qs _ _ y h with h | ⟨q', hq, e⟩
    · rcases mem_put h with h | h
      · exact .inl h
      · exact .inr ⟨q, by simp, h⟩
    · exact .inr ⟨q', by simp [hq], e⟩
/-- The pairs of secrets. -/
def qsOf (id eph : List UInt8) (s : Store) : List KK := [(id, s.pre), (eph, s.id), (eph, s.pre)] ++ (s.ones.take 1).map fun o => (eph, o)

structure Meets (ts : List Term) (id eph : List UInt8) (s b : Store) (x : Begun) (ts' : List Term) : Prop where
  beg : beginT ts id eph b = (some x, ts')
  pre : ts <+: ts'
  ok : TsOk ts'
  len : ts'.length ≤ ts.length + 20
  one : x.h.one = b.ones.headD zk
  rest : x.rest = ⟨b.id, b.pre, b.ones.drop 1⟩
  ans : answerT ts' s x.h = (.inr ⟨⟨s.id, s.pre, s.ones.drop 1⟩, x.secret⟩, ts')
  again : answerT ts' ⟨s.id, s.pre, s.ones.drop 1⟩ x.h = (if s.ones = [] then .inr ⟨⟨s.id, s.pre, []⟩, x.secret⟩ else .inl 22, ts')
  sh : Sh ts' ⟨s.id, s.pre, s.ones.drop 1⟩ x.rest
  hok : HelloOk x.h
  sec : x.secret.length = 32
  secnz : x.secret ≠ zk
  hid : Nm ts' (pubT id) x.h.id
  heph : Nm ts' (pubT eph) x.h.eph
  all : ∃ hs, NmL ts' ((qsOf id eph s).map fun q => agr q.1 q.2) hs ∧ Nm ts' ⟨2, hello, hs⟩ x.secret ∧ ∀ y ∈ ts', y ∈ ts ∨ (∃ q ∈ qsOf id eph s, y = agr q.1 q.2) ∨ y = ⟨2, hello, hs⟩ ∨ y = pubT id ∨ y = pubT eph

theorem meets {ts : List Term} (hts : TsOk ts) {id eph : List UInt8} {s b : Store} (hid : id.length = 32) (heph : eph.length = 32) (h : Sh ts s b) (hlen : ts.length + 1000 < 90000) : ∃ x ts', Meets ts id eph s b x ts' := by
  obtain ⟨h1, h2, h3, h4, h5⟩ := h
  obtain ⟨sid, spre, sones⟩ := s
  obtain ⟨bid, bpre, bones⟩ := b
  obtain ⟨s1, s2, s3, s4⟩ := h4
  simp only at h1 h2 h3 h5 s1 s2 s3 s4
  -- the pairs, as secrets
  have hP : ∃ one ps rest, beginP id eph ⟨bid, bpre, bones⟩ = (one, ps, rest) := ⟨_, _, _, rfl⟩
  obtain ⟨one, ps, rest, hP⟩ := hP
  obtain ⟨qs, hqs, hpl, hone, hrest⟩ : ∃ qs, PubsOf ts ps qs ∧ ps.length ≤ 4 ∧ one = bones.headD zk ∧ rest = bones.drop 1 ∧ (qs = [(id, spre), (eph, sid), (eph, spre)] ∧ sones = [] ∨ ∃ o os, sones = o :: os ∧ qs = [(id, spre), (eph, sid), (eph, spre), (eph, o)]) := by
    match sones, bones, h3 with
    | [], [], _ =>
      simp only [beginP, Prod.mk.injEq] at hP
      obtain ⟨rfl, rfl, rfl⟩ := hP
      exact ⟨[(id, spre), (eph, sid), (eph, spre)], ⟨rfl, hid, s2, h2, rfl, heph, s1, h1, rfl, heph, s2, h2, trivial⟩, by simp [pairs0], rfl, rfl, .inl ⟨rfl, rfl⟩⟩
    | o :: os, y :: ys, ⟨k1, k2, k3⟩ =>
      simp only [beginP, Prod.mk.injEq] at hP
      obtain ⟨rfl, rfl, rfl⟩ := hP
      exact ⟨[(id, spre), (eph, sid), (eph, spre), (eph, o)], ⟨rfl, hid, s2, h2, rfl, heph, s1, h1, rfl, heph, s2, h2, rfl, heph, k1, k2, trivial⟩, by simp [pairs0], rfl, rfl, .inr ⟨o, os, rfl, rfl⟩⟩
    | [], _ :: _, h => exact h.elim
    | _ :: _, [], h => exact h.elim
  obtain ⟨hrest, hq⟩ := hrest
  have hgo := agreedT_go hts (by omega) hqs
  have hps32 : ∀ x ∈ ps, x.1.length = 32 ∧ x.2.length = 32 := by
    have : ∀ {ps qs : List KK}, PubsOf ts ps qs → ∀ x ∈ ps, x.1.length = 32 ∧ x.2.length = 32 := by
      intro ps
      induction ps with
      | nil => intro qs _ x hx; cases hx
      | cons p ps ih =>
        intro qs hq x hx
        cases qs with
        | nil => exact hq.elim
        | cons q qs =>
          obtain ⟨a1, a2, a3, a4, a5⟩ := hq
          rcases List.mem_cons.1 hx with rfl | hx
          · exact ⟨by rw [a1]; exact a2, a4.len⟩
          · exact ih a5 x hx
    exact this hqs
  obtain ⟨g1, g2, g3, g4⟩ := agreedT_ok hts (ps := ps) (by omega) hps32
  have hpre1 := agreedT_pre hts (by omega) hqs
  obtain ⟨k, hk⟩ : ∃ k, k = nameK (putN (goG ts [] qs).2 ⟨2, hello, (goG ts [] qs).1⟩) := ⟨_, rfl⟩
  obtain ⟨ts1, ht1⟩ : ∃ ts1, ts1 = (agreedT ts ps).2 := ⟨_, rfl⟩
  have hag : agreedT ts ps = (some k, ts1) := by rw [ht1, hgo, ← hk]
  have hsame := fun (us : List Term) (hus : TsOk us) (ps' qs' : List KK) (hl' : us.length + ps'.length + 10 < 90000) (h' : PubsOf us ps' qs') (he : (qs.map fun q => agr q.1 q.2) = (qs'.map fun q => agr q.1 q.2)) (hp : ts1 <+: us) => agreedT_again hts hus (by omega) hl' hqs h' he (by rw [← ht1]; exact hp)
  rw [hag] at hsame
  rw [← ht1] at g1 g2 g3 hpre1
  have l1 := putT_len ts1 (pubT id)
  have l2 := putT_len (putT ts1 (pubT id)) (pubT eph)
  have t1 := g1.putPub hid (by omega)
  have t2 := t1.putPub heph (by omega)
  have p1 := put_pre ts1 (pubT id)
  have p2 := put_pre (putT ts1 (pubT id)) (pubT eph)
  have n1 := (Nm.put ts1 (pubT id)).mono p2
  have n2 := Nm.put (putT ts1 (pubT id)) (pubT eph)
  obtain ⟨ts3, ht3⟩ : ∃ ts3, ts3 = putT (putT ts1 (pubT id)) (pubT eph) := ⟨_, rfl⟩
  have hbeg : beginT ts id eph ⟨bid, bpre, bones⟩ = (some ⟨⟨nameK (putN ts1 (pubT id)), nameK (putN (putT ts1 (pubT id)) (pubT eph)), one⟩, k, ⟨bid, bpre, rest⟩⟩, ts3) := by
    unfold beginT; rw [hP]; simp only; rw [hag, ht3]
  generalize nameK (putN ts1 (pubT id)) = e1 at *
  generalize nameK (putN (putT ts1 (pubT id)) (pubT eph)) = e2 at *
  rw [← ht3] at n1 n2 t2 p2 l2
  have hp13 := p1.trans p2
  have hp3 := hpre1.trans hp13
  have hklen : k.length = 32 := by rw [hk]; exact nameK_len _
  have hknz : k ≠ zk := by rw [hk]; exact name_nz _
  have honelen : one.length = 32 := by
    rw [hone]
    match sones, bones, h3 with
    | [], [], _ => rfl
    | o :: os, y :: ys, ⟨_, k2, _⟩ => exact k2.len
    | [], _ :: _, h => exact h.elim
    | _ :: _, [], h => exact h.elim
  have hhok : HelloOk ⟨e1, e2, one⟩ := ⟨n1.len, n2.len, honelen⟩
  refine ⟨_, ts3, ⟨hbeg, hp3, t2, by omega, hone, by rw [hrest], ?_, ?_, ?_, hhok, hklen, hknz, n1, n2, ?_⟩⟩
  · -- the answer
    rcases hq with ⟨hq, rfl⟩ | ⟨o, os, rfl, hq⟩
    · match bones, h3 with
      | [], _ =>
        have hz : one = zk := hone
        have hP' : answerP ts3 ⟨sid, spre, []⟩ ⟨e1, e2, one⟩ = (some (pairsA ⟨sid, spre, []⟩ ⟨e1, e2, one⟩, []), ts3) := by simp [answerP, hz]
        have := hsame ts3 t2 (pairsA ⟨sid, spre, []⟩ ⟨e1, e2, one⟩) [(spre, id), (sid, eph), (spre, eph)] (by simp [pairsA]; omega) ⟨rfl, s2, hid, n1, rfl, s1, heph, n2, rfl, s2, heph, n2, trivial⟩ (by rw [hq]; simp [agr_comm id spre, agr_comm eph sid, agr_comm eph spre]) hp13
        unfold answerT
        rw [hP']
        simp only
        rw [this]
        rfl
      | _ :: _, h => exact h.elim
    · match bones, h3 with
      | y :: ys, ⟨k1, k2, k3⟩ =>
        have hone' : one = y := hone
        have hnz : one ≠ zk := by rw [hone']; exact k2.nz
        have k2' := k2.mono hp3
        have hidx : idxF one ts3 (o :: os) 0 = (some 0, ts3) := by rw [idxF, k2'.putN, if_pos hone'.symm, k2'.putT]
        have hP' : answerP ts3 ⟨sid, spre, o :: os⟩ ⟨e1, e2, one⟩ = (some (pairsA ⟨sid, spre, o :: os⟩ ⟨e1, e2, one⟩ ++ [(o, e2)], os), ts3) := by simp only [answerP, hnz, if_false, hidx]; rfl
        have := hsame ts3 t2 (pairsA ⟨sid, spre, o :: os⟩ ⟨e1, e2, one⟩ ++ [(o, e2)]) [(spre, id), (sid, eph), (spre, eph), (o, eph)] (by simp [pairsA]; omega) ⟨rfl, s2, hid, n1, rfl, s1, heph, n2, rfl, s2, heph, n2, rfl, k1, heph, n2, trivial⟩ (by rw [hq]; simp [agr_comm id spre, agr_comm eph sid, agr_comm eph spre, agr_comm eph o]) hp13
        unfold answerT
        rw [hP']
        simp only
        rw [this]
        rfl
      | [], h => exact h.elim
  · -- answered once more
    rcases hq with ⟨hq, rfl⟩ | ⟨o, os, rfl, hq⟩
    · match bones, h3 with
      | [], _ =>
        have hz : one = zk := hone
        have hP' : answerP ts3 ⟨sid, spre, []⟩ ⟨e1, e2, one⟩ = (some (pairsA ⟨sid, spre, []⟩ ⟨e1, e2, one⟩, []), ts3) := by simp [answerP, hz]
        have := hsame ts3 t2 (pairsA ⟨sid, spre, []⟩ ⟨e1, e2, one⟩) [(spre, id), (sid, eph), (spre, eph)] (by simp [pairsA]; omega) ⟨rfl, s2, hid, n1, rfl, s1, heph, n2, rfl, s2, heph, n2, trivial⟩ (by rw [hq]; simp [agr_comm id spre, agr_comm eph sid, agr_comm eph spre]) hp13
        simp only [List.drop_nil, if_true]
        unfold answerT
        rw [hP']
        simp only
        rw [this]
      | _ :: _, h => exact h.elim
    · match bones, h3 with
      | y :: ys, ⟨k1, k2, k3⟩ =>
        have hone' : one = y := hone
        have hnz : one ≠ zk := by rw [hone']; exact k2.nz
        have hno : o ∉ os := (List.nodup_cons.1 h5).1
        have hidx : idxF one ts3 os 0 = (none, ts3) := idxF_none (k3.mono hp3) (fun z hz => by rw [hone']; exact (k3.mono hp3).ne t2 k1 (k2.mono hp3) hno z hz)
        simp only [List.drop_succ_cons, List.drop_zero, reduceCtorEq, if_false]
        unfold answerT
        simp only [answerP, hnz, if_false, hidx]
      | [], h => exact h.elim
  · -- what is left
    refine ⟨h1.mono hp3, h2.mono hp3, ?_, ⟨s1, s2, fun z hz => s3 z (List.mem_of_mem_drop hz), by simp only [List.length_drop]; omega⟩, (List.drop_sublist 1 sones).nodup h5⟩
    rw [hrest]
    match sones, bones, h3 with
    | [], [], _ => exact trivial
    | o :: os, y :: ys, ⟨k1, k2, k3⟩ => exact k3.mono hp3
    | [], _ :: _, h => exact h.elim
    | _ :: _, [], h => exact h.elim
  · -- what stands there
    have hqq : qs = qsOf id eph ⟨sid, spre, sones⟩ := by
      rcases hq with ⟨hq, rfl⟩ | ⟨o, os, rfl, hq⟩
      · rw [hq]; rfl
      · rw [hq]; rfl
    rw [← hqq]
    have hnl := goG_nm qs ts [] [] trivial
    rw [List.nil_append] at hnl
    have hgp : (goG ts [] qs).2 <+: ts1 := by rw [ht1, hgo]; exact put_pre _ _
    have hsn : Nm ts1 ⟨2, hello, (goG ts [] qs).1⟩ k := by rw [ht1, hgo, hk]; exact Nm.put _ _
    refine ⟨(goG ts [] qs).1, (hnl.mono hgp).mono hp13, hsn.mono hp13, fun y hy => ?_⟩
    rw [ht3] at hy
    rcases mem_put hy with hy | rfl
    · rcases mem_put hy with hy | rfl
      · rw [ht1, hgo] at hy
        rcases mem_put hy with hy | rfl
        · rcases goG_mem qs ts [] y hy with hy | hy
          · exact .inl hy
          · exact .inr (.inl hy)
        · exact .inr (.inr (.inl rfl))
      · exact .inr (.inr (.inr (.inl rfl)))
    · exact .inr (.inr (.inr (.inr rfl)))
end Go.Cab

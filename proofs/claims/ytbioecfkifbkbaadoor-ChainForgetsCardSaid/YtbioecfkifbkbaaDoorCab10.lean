/- Part 10 of what the proof stands on: H9, H10, H11, H12, G17, H13, H14, H15. -/
import Derived.Test.YtbioecfkifbkbaaDoorCab09
import Derived.Test.YtbioecfkifbkbaaDoorCab08
set_option linter.unusedSimpArgs false
set_option linter.unnecessarySimpa false
set_option linter.unusedVariables false
set_option linter.unusedSectionVars false
/- Chain: Open. -/
-- TEXTS
-- KIT
namespace Go.Cab
open Go.RowKit
open Classical
def fb514 : AC := (.seq (.reg [⟨(.some 4), .none, (.box 529 (.tmp 1)), [], .none⟩, ⟨(.some 5), .none, (.box 71 (.tmp 2)), [], .none⟩, ⟨(.some 6), .none, (.alloc 529 (.st [528, 1] [(.arr 66 (List.replicate 8 (.st [1, 1, 32, 32] [(.lit (.bool .false)), (.lit (.bool .false)), (.arr 1 (List.replicate 32 (.lit (bn 0)))), (.arr 1 (List.replicate 32 (.lit (bn 0))))]))), (.lit (.slice .none 0 0))])), [], .none⟩, ⟨(.some 7), .none, (.mov (.const (tx []))), [], .none⟩, ⟨(.some 8), .none, (.mov (.const (jn 0))), [], .none⟩]) (.seq (.seq (.reg [⟨(.some 14), .none, (.load .true 71 (.tmp 5)), [], .none⟩, ⟨(.some 15), .none, (.call 17 [(.tmp 14)]), [], .none⟩, ⟨(.some 16), .none, (.un .not (.tmp 15)), [], .none⟩]) (.cond (.tmp 16) (.seq (.reg [⟨(.some 17), .none, (.build (.st [528, 1] [(.arr 66 (List.replicate 8 (.st [1, 1, 32, 32] [(.lit (.bool .false)), (.lit (.bool .false)), (.arr 1 (List.replicate 32 (.lit (bn 0)))), (.arr 1 (List.replicate 32 (.lit (bn 0))))]))), (.lit (.slice .none 0 0))]) []), [], .none⟩, ⟨.none, .none, (.store 529 (.tmp 6) (.tmp 17)), [], .none⟩, ⟨(.some 7), .none, (.mov (.const (tx []))), [], .none⟩, ⟨(.some 8), .none, (.mov (.const (jn 1))), [], .none⟩]) .ret) .skip)) (.seq (.reg [⟨(.some 19), .none, (.mov (.tmp 0)), [], .none⟩, ⟨(.some 20), .none, (.load .true 529 (.tmp 4)), [], .none⟩, ⟨(.some 21), .none, (.faddr 0 0 (.tmp 5)), [], .none⟩, ⟨(.some 22), .none, (.load .false 1 (.tmp 21)), [], .none⟩, ⟨(.some 23), .none, (.xc (.dir 18) [(.tmp 19), (.tmp 20), (.tmp 22)] [] []), [], .none⟩, ⟨(.some 18), .none, (.mov (.tmp 23)), [], .none⟩, ⟨(.some 24), .none, (.ext (.tmp 18) 0), [], .none⟩, ⟨(.some 25), .none, (.ext (.tmp 18) 1), [], .none⟩, ⟨(.some 26), .none, (.ext (.tmp 18) 2), [], .none⟩, ⟨(.some 9), .none, (.alloc 32 (.arr 1 (List.replicate 32 (.lit (bn 0))))), [], .none⟩, ⟨.none, .none, (.store 529 (.tmp 4) (.tmp 24)), [], .none⟩, ⟨.none, .none, (.store 32 (.tmp 9) (.tmp 25)), [], .none⟩, ⟨(.some 10), .none, (.mov (.tmp 26)), [], .none⟩]) (.seq (.seq (.reg [⟨(.some 27), .none, (.mov (.tmp 10)), [], .none⟩, ⟨(.some 28), .none, (.bin .neq (.tmp 27) (.const (jn 0))), [], .none⟩]) (.cond (.tmp 28) (.seq (.reg [⟨(.some 29), .none, (.load .true 529 (.tmp 4)), [], .none⟩, ⟨(.some 30), .none, (.mov (.tmp 10)), [], .none⟩, ⟨.none, .none, (.store 529 (.tmp 6) (.tmp 29)), [], .none⟩, ⟨(.some 7), .none, (.mov (.const (tx []))), [], .none⟩, ⟨(.some 8), .none, (.mov (.tmp 30)), [], .none⟩]) .ret) .skip)) (.seq (.reg [⟨(.some 32), .none, (.mov (.tmp 0)), [], .none⟩, ⟨(.some 33), .none, (.load .true 32 (.tmp 9)), [], (.some 9)⟩, ⟨(.some 34), .none, (.mov (.tmp 0)), [], .none⟩, ⟨(.some 35), .none, (.load .true 71 (.tmp 5)), [], (.some 5)⟩, ⟨(.some 36), .none, (.xc (.dir 19) [(.tmp 34), (.tmp 35)] [9, 5] []), [], .none⟩, ⟨(.some 37), .none, (.faddr 69 7 (.tmp 5)), [], .none⟩, ⟨(.some 38), .none, (.load .false 1 (.tmp 37)), [], (.some 5)⟩, ⟨(.some 39), .none, (.rdp (.mkfn (.method "Open") 1) [(.tmp 32)]), [], .none⟩, ⟨(.some 40), .none, (.rdp .nilv [(.tmp 39)]), [], .none⟩, ⟨(.some 41), .none, (.mov (.tmp 32)), [], .none⟩, ⟨(.some 42), .none, (.xc (.inv "Open") [(.tmp 41), (.tmp 33), (.tmp 36), (.tmp 38)] [] []), [], .none⟩, ⟨(.some 31), .none, (.mov (.tmp 42)), [], .none⟩, ⟨(.some 43), .none, (.ext (.tmp 31) 0), [], .none⟩, ⟨(.some 44), .none, (.ext (.tmp 31) 1), [], .none⟩, ⟨(.some 45), .none, (.ext (.tmp 31) 2), [], .none⟩, ⟨(.some 11), .none, (.mov (.tmp 43)), [], .none⟩, ⟨(.some 12), .none, (.mov (.tmp 44)), [], .none⟩, ⟨(.some 13), .none, (.mov (.tmp 45)), [], .none⟩]) (.seq (.seq (.reg [⟨(.some 46), .none, (.mov (.tmp 13)), [], .none⟩, ⟨(.some 47), .none, (.un .not (.tmp 46)), [], .none⟩, ⟨(.some 48), .none, (.mov (.tmp 47)), [], .none⟩, ⟨(.some 49), (.some (48, .false)), (.mov (.tmp 12)), [], .none⟩, ⟨(.some 50), (.some (48, .false)), (.len .false (.tmp 49)), [], .none⟩, ⟨(.some 51), (.some (48, .false)), (.bin .gtr (.tmp 50) (.const (jn 0))), [], .none⟩, ⟨(.some 52), .none, (.pick (.tmp 48) (.const (.bool .true)) (.tmp 51)), [], .none⟩, ⟨(.some 53), .none, (.mov (.tmp 52)), [], .none⟩, ⟨(.some 54), (.some (53, .false)), (.mov (.tmp 11)), [], .none⟩, ⟨(.some 55), (.some (53, .false)), (.len .true (.tmp 54)), [], .none⟩, ⟨(.some 56), (.some (53, .false)), (.bin .gtr (.tmp 55) (.const (jn 64))), [], .none⟩, ⟨(.some 57), .none, (.pick (.tmp 53) (.const (.bool .true)) (.tmp 56)), [], .none⟩]) (.cond (.tmp 57) (.seq (.reg [⟨(.some 58), .none, (.build (.st [528, 1] [(.arr 66 (List.replicate 8 (.st [1, 1, 32, 32] [(.lit (.bool .false)), (.lit (.bool .false)), (.arr 1 (List.replicate 32 (.lit (bn 0)))), (.arr 1 (List.replicate 32 (.lit (bn 0))))]))), (.lit (.slice .none 0 0))]) []), [], .none⟩, ⟨.none, .none, (.store 529 (.tmp 6) (.tmp 58)), [], .none⟩, ⟨(.some 7), .none, (.mov (.const (tx []))), [], .none⟩, ⟨(.some 8), .none, (.mov (.const (jn 2))), [], .none⟩]) .ret) .skip)) (.seq (.reg [⟨(.some 59), .none, (.load .true 529 (.tmp 4)), [], .none⟩, ⟨(.some 60), .none, (.mov (.tmp 11)), [], .none⟩, ⟨.none, .none, (.store 529 (.tmp 6) (.tmp 59)), [], .none⟩, ⟨(.some 7), .none, (.mov (.tmp 60)), [], .none⟩, ⟨(.some 8), .none, (.mov (.const (jn 0))), [], .none⟩]) .ret)))))))
def fc514 : FC := ⟨3, 61, [(.cell 6 .true 529), (.tmp 7), (.tmp 8)], fb514⟩
theorem fc514_eq : compF Go.Proofs.Tryd.prog 11 = some fc514 := by kernel_rfl

theorem open_k {H : List (Option Blk)} {t : Tb} {V0 : Value} {ts0 ts : List Term} (hh : TbOk H t V0 ts0) (hts : TsOk ts) {k b m : List UInt8} (hk : k.length = 32) (hb : b.length = 32) (hm : m.length < 9223372036854775808) :
    KC Go.Proofs.Tryd.prog 88 [.ptr t.b t.l 0 [], keyA k, keyA b, .lit (tx m)] H t ts (openA (openX ts k b m)) ts :=
  KC.of hh fun H V h => XCall.mono (open_call h hts hk hb hm) fun r H' hr => ⟨hr.1, V, by rw [hr.2, h.self]⟩
theorem tgt_openI (b : Nat) (l : Nat × Nat) (x y z : AV) : tgtA Go.Proofs.Tryd.prog (.inv "Open") [freeI b l, x, y, z] = some (88, [.ptr b l 0 [], x, y, z]) := by kernel_rfl
theorem nilv_open (b : Nat) (l : Nat × Nat) : rdA Go.Proofs.Tryd.prog (fun _ => none) .nilv [.fnv (.method "Open") [freeI b l] []] = some (.fnv (.method "Open") [freeI b l] []) := by kernel_rfl

/-- What is read of a message. -/
def readV (it : Int → List UInt8) (ts : List Term) (o : OpV) (c : List UInt8) : Option (List UInt8) :=
  match openX (byV it (nextV ts c).2 o).2 (nextV ts c).1.1 (byV it (nextV ts c).2 o).1 o.text with
  | some x => if x.keys.drop 2 = [] ∧ x.text.length ≤ 64 then some x.text else none
  | none => none
def ks0A : AV := ksA [r0A, r0A, r0A, r0A, r0A, r0A, r0A, r0A] []
def readA (A2 ws : List AV) : Option (List UInt8) → AV
  | some s => .tup [ksA A2 ws, .lit (tx s), .lit (jn 0)]
  | none => .tup [ks0A, .lit (tx []), .lit (jn 2)]
theorem read_no (A2 ws : List AV) : RelLe (.tup [ks0, .lit (tx []), .lit (jn 2)]) (readA A2 ws none) := RelLe.tup (AVle.tupSt ks0_le (AVle.refl _))

set_option maxHeartbeats 16000000 in
theorem copen_call {H : List (Option Blk)} {t : Tb} {V : Value} {ts : List Term} (hh : TbOk H t V ts) (hn : ts.length + 10 < 100000) {o : OpV} (ho : OpOk o) (hbl : ∀ b ∈ o.boxes, b.body.length < 9223372036854775808) (hw : o.who.length < 1000) (hp : o.parents.length < 1000) {it : Int → List UInt8} (hit : ∀ n ∈ numsV o, PCall Go.Proofs.Tryd.prog 39 [.lit (ji n)] (.val (.lit (tx (it n))))) (hil : ∀ n ∈ numsV o, (it n).length ≤ 30)
    (hsay : saysV o = true) {w : Nat} (hau : o.author = (w : Int)) {A ws : List AV} (hA : A.length = 8) {op : Bool} {k c : List UInt8} (hk : k.length = 32) (hc : c.length = 32)
    (hwA : A[w]? = some (.st [1, 1, 32, 32] [.lit (.bool true), .lit (.bool op), keyA k, keyA c])) (hws : ws.length < 100000) (hts : TsOk (byV it (nextV ts c).2 o).2) :
    XCall Go.Proofs.Tryd.prog 11 [freeI t.b t.l, ksA A ws, opA o] H fun r H' => r = readA (A.set w (.st [1, 1, 32, 32] [.lit (.bool true), .lit (.bool op), keyA k, keyA (nextV ts c).1.2])) ws (readV it ts o c) ∧ ∃ V', H' = tbOf H t V' (byV it (nextV ts c).2 o).2 := by
  have h514 := fc514_eq
  refine XCall.le ?_
  have hself := hh.self
  have cS := says_call ho hbl
  have l1 := nextV_len ts c
  have cN := next_k hh (ts := ts) (by omega) hA hk hc hwA hws
  have cB := by_k hh (ts := (nextV ts c).2) (by omega) ho hbl hw hp (it := it) hit hil
  have n1 : (nextV ts c).1.1.length = 32 := nameK_len _
  have n2 : (nextV ts c).1.2.length = 32 := nameK_len _
  have n3 : (byV it (nextV ts c).2 o).1.length = 32 := byV_32 _ _ _
  have cK := open_k hh hts n1 n3 (m := o.text) ho.text
  have o5 := ho.ofk
  have o6 := ho.check
  have hxt : ∀ x, openX (byV it (nextV ts c).2 o).2 (nextV ts c).1.1 (byV it (nextV ts c).2 o).1 o.text = some x → x.text.length < 100000 ∧ x.keys.length < 100000 := fun x hx => by
    unfold openX at hx
    split at hx
    · cases hx
    split at hx
    · cases hx
    split at hx
    · rename_i y hy
      split at hx
      · obtain rfl := Option.some.inj hx
        have hk := hts.ok _ (List.mem_of_getElem? hy)
        exact ⟨hk.text, hk.keys⟩
      · cases hx
    · cases hx
  rw [hsay] at cS
  unfold readV
  generalize openX (byV it (nextV ts c).2 o).2 (nextV ts c).1.1 (byV it (nextV ts c).2 o).1 o.text = X at *
  generalize byV it (nextV ts c).2 o = bv at *
  generalize nextV ts c = nv at *
  obtain ⟨⟨k1, k2⟩, ts2⟩ := nv
  obtain ⟨bk, ts3⟩ := bv
  simp only at *
  have hA1 : opA o = opB o.author o.seq o.parents o.kind (o.who.map fun x => AV.lit (ji x)) o.ofk o.check o.text (o.boxes.map fun x => boxA x) := rfl
  have haj : ji o.author = jn w := by rw [hau]; rfl
  rw [hA1] at cS cB ⊢
  unfold opB at cS cB ⊢
  rw [haj] at cS cB ⊢
  generalize (o.who.map fun x => AV.lit (ji x)) = W at *
  generalize (o.boxes.map fun x => boxA x) = B at *
  have G1 : ∀ V' ts', (tbOf H t V' ts').length = H.length := fun V' ts' => tbOf_len _ _ _ _
  have g1 : ∀ V' ts' L k, (tbOf H t V' ts' ++ L)[H.length + k]? = L[k]? := fun V' ts' L k => cat1 _ _ _ _ (G1 _ _)
  have g2 : ∀ V' ts' L k x, (tbOf H t V' ts' ++ L).set (H.length + k) x = tbOf H t V' ts' ++ L.set k x := fun V' ts' L k x => cat2 _ _ _ _ _ (G1 _ _)
  have hAs : (A.set w (.st [1, 1, 32, 32] [.lit (.bool true), .lit (.bool op), keyA k, keyA k2])).length = 8 := by rw [List.length_set]; exact hA
  unfold ksA at cN ⊢
  generalize (A.set w (.st [1, 1, 32, 32] [.lit (.bool true), .lit (.bool op), keyA k, keyA k2])) = A2 at *
  refine XCall.of h514 rfl ?_; show AC.wp _ fb514 ⟨H.length, [freeI t.b t.l, .st [528, 1] [.arr 66 A, .sl 65 ws], .st [1, 1, 1, 1, 1, 32, 32, 1, 1] [.lit (jn w), .lit (wn o.seq), .sl 32 (klA o.parents), .lit (ji o.kind), .sl 1 W, keyA o.ofk, keyA o.check, .lit (tx o.text), .sl 36 B]] ++ List.replicate (61 - 3) .any, H ++ List.replicate 61 none⟩ (fun x s => match x with | .exit _ => False | _ => ∃ s1, Le s s1 ∧ FinX [(.cell 6 .true 529), (.tmp 7), (.tmp 8)] s1 _); unfold fb514
  rw [← hself]
  rw [tbOf_len]
  generalize hN : H.length = N at *
  refine wp_sg (areg_bx rfl rfl fun l5 => areg_bx rfl (by simp [AS.ev, AV.sz]) fun l6 => areg_al' (z' := ks0) rfl fun l8 => areg_end (by simp [push_cast, g2]; exact rfl) ?_)
  refine wp_seq' (wp_sg ?_)
  refine areg_run 1 (by simp [push_cast, g1, o5, o6]; exact rfl) ?_
  unfold keyA at cS
  refine areg_ca (by simp [AS.ev, AS.coe, AS.put] <;> exact rfl) cS ?_
  refine areg_end (by simp [push_cast]; exact rfl) ?_
  refine wp_cond_f (by simp [AS.ev]) (wp_skip' (wp_sg ?_))
  refine areg_run 4 (by simp [push_cast, g1, o5, o6]; exact rfl) ?_
  refine areg_k [freeI t.b t.l, .st [528, 1] [.arr 66 A, .sl 65 ws], .lit (jn w)] hN rfl (tgt_next _ _ _) cN (by simp) (by simp) fun V2 => ?_
  refine areg_run 4 (by simp [push_cast, g1, n1, n2]; exact rfl) ?_
  refine areg_al' zk_eq.symm fun l11 => areg_end (by simp [push_cast, g1, g2, n1, n2, hA, hAs]; exact rfl) ?_
  refine wp_seq' (wp_sr (by simp [push_cast, g1]; exact rfl) ?_)
  refine wp_cond_f (by simp [AS.ev]) (wp_skip' (wp_sg ?_))
  refine areg_run 4 (by simp [push_cast, g1, g2, hAs, n1, o5, o6]; exact rfl) ?_
  unfold keyA at cB
  refine areg_k [freeI t.b t.l, .st [1, 1, 1, 1, 1, 32, 32, 1, 1] [.lit (jn w), .lit (wn o.seq), .sl 32 (klA o.parents), .lit (ji o.kind), .sl 1 W, .arr 1 (bl o.ofk), .arr 1 (bl o.check), .lit (tx o.text), .sl 36 B]] hN rfl (tgt_by _ _) cB (by simp) (by simp [AS.ev, AV.place]) fun V3 => ?_
  refine areg_run 2 (by simp [push_cast, g1, o5, o6]; exact rfl) ?_
  refine areg_rdp (us := [freeI t.b t.l]) rfl (mkfn_draw _ _ _) ?_
  refine areg_rdp (us := [.fnv (.method "Open") [freeI t.b t.l] []]) rfl (nilv_open _ _) ?_
  refine areg_run 1 (by simp [push_cast]; exact rfl) ?_
  refine areg_k [freeI t.b t.l, keyA k1, keyA bk, .lit (tx o.text)] hN rfl (tgt_openI _ _ _ _ _) cK (by simp) (by simp [AS.ev, AV.place]) fun V4 => ?_
  cases X with
  | none =>
    simp only [openA]
    refine areg_end (by simp [push_cast]; exact rfl) ?_
    refine wp_seq' (wp_sr (by simp [push_cast]; exact rfl) ?_)
    refine wp_cond_t (by simp [AS.ev]) (wp_sg ?_)
    refine areg_bd (z' := ks0) rfl ?_
    unfold ks0
    refine areg_end (by simp [push_cast, g1, g2]; exact rfl) (wp_ret' ?_)
    exact ⟨_, Le.refl _, [], _, ⟨_, rfl, by simp [AS.seals, RVals, RVal, AS.ev, AS.peek, AS.blk, g1, Blk.loc, Blk.cont, Blk.n, AV.nav, AV.isAgg, AV.isTup, AS.coe]; rfl, by simp [keyA, ks0]⟩, readA A2 ws none, _, read_no _ _, by simp [readA], HpLe.trim _ _, rfl, V4, (hh.of_of _ _ _ _).symm⟩
  | some x =>
    obtain ⟨h1, h2⟩ := hxt x rfl
    simp only [openA]
    have hkl : (klA (x.keys.drop 2)).length = (x.keys.drop 2).length := klA_len _
    have hd : (x.keys.drop 2).length < 100000 := by rw [List.length_drop]; omega
    generalize x.keys.drop 2 = ks at *
    generalize x.text = xt at *
    have hcond : (ks = [] ∧ xt.length ≤ 64) ↔ (¬ 0 < ks.length ∧ ¬ 64 < xt.length) := by rw [List.length_pos_iff]; simp
    have hfail : 0 < ks.length ∨ 64 < xt.length → (if ks = [] ∧ xt.length ≤ 64 then some xt else none) = none := fun h => if_neg (fun hc => by rw [hcond] at hc; omega)
    by_cases hp : 0 < ks.length
    · rw [hfail (.inl hp)]
      refine areg_end (by simp [push_cast]; exact rfl) ?_
      refine wp_seq' (wp_sr (by simp [push_cast, hp, hkl]; exact rfl) ?_)
      refine wp_cond_t (by simp [AS.ev]) (wp_sg ?_)
      refine areg_bd (z' := ks0) rfl ?_
      unfold ks0
      refine areg_end (by simp [push_cast, g1, g2]; exact rfl) (wp_ret' ?_)
      exact ⟨_, Le.refl _, [], _, ⟨_, rfl, by simp [AS.seals, RVals, RVal, AS.ev, AS.peek, AS.blk, g1, Blk.loc, Blk.cont, Blk.n, AV.nav, AV.isAgg, AV.isTup, AS.coe]; rfl, by simp [keyA, ks0]⟩, readA A2 ws none, _, read_no _ _, by simp [readA], HpLe.trim _ _, rfl, V4, (hh.of_of _ _ _ _).symm⟩
    by_cases hx : 64 < xt.length
    · rw [hfail (.inr hx)]
      refine areg_end (by simp [push_cast]; exact rfl) ?_
      refine wp_seq' (wp_sr (by simp [push_cast, hp, hx, hkl]; exact rfl) ?_)
      refine wp_cond_t (by simp [AS.ev]) (wp_sg ?_)
      refine areg_bd (z' := ks0) rfl ?_
      unfold ks0
      refine areg_end (by simp [push_cast, g1, g2]; exact rfl) (wp_ret' ?_)
      exact ⟨_, Le.refl _, [], _, ⟨_, rfl, by simp [AS.seals, RVals, RVal, AS.ev, AS.peek, AS.blk, g1, Blk.loc, Blk.cont, Blk.n, AV.nav, AV.isAgg, AV.isTup, AS.coe]; rfl, by simp [keyA, ks0]⟩, readA A2 ws none, _, read_no _ _, by simp [readA], HpLe.trim _ _, rfl, V4, (hh.of_of _ _ _ _).symm⟩
    rw [if_pos (hcond.2 ⟨hp, hx⟩)]
    refine areg_end (by simp [push_cast]; exact rfl) ?_
    refine wp_seq' (wp_sr (by simp [push_cast, hp, hx, hkl]; exact rfl) ?_)
    refine wp_cond_f (by simp [AS.ev]) (wp_skip' (wp_sg ?_))
    refine areg_end (by simp [push_cast, g1, g2, hAs]; exact rfl) (wp_ret' ?_)
    exact ⟨_, Le.refl _, [], _, ⟨_, rfl, by simp [AS.seals, RVals, RVal, AS.ev, AS.peek, AS.blk, g1, Blk.loc, Blk.cont, Blk.n, AV.nav, AV.isAgg, AV.isTup, AS.coe]; rfl, by simp [keyA, ksA]⟩, readA A2 ws (some xt), _, RelLe.refl _, by simp [readA], HpLe.trim _ _, rfl, V4, (hh.of_of _ _ _ _).symm⟩
end Go.Cab

/- Chain: what is refused. -/
-- TEXTS
-- KIT
namespace Go.Cab
open Go.RowKit
open Classical

set_option maxHeartbeats 16000000 in
/-- A text that is too long. -/
theorem cseal_long {H : List (Option Blk)} {o : OpV} (ho : OpOk o) {A ws : List AV} (hA : A.length = 8) {b : Nat} {l : Nat × Nat} {s : List UInt8} (hs : 64 < s.length) :
    XCall Go.Proofs.Tryd.prog 10 [freeI b l, ksA A ws, opA o, .lit (tx s)] H fun r H' => r = .tup [ks0A, .lit (tx []), .lit (jn 1)] ∧ H' = H := by
  have h513 := fc513_eq
  refine XCall.le ?_
  have o5 := ho.ofk
  have o6 := ho.check
  have hA1 : opA o = opB o.author o.seq o.parents o.kind (o.who.map fun x => AV.lit (ji x)) o.ofk o.check o.text (o.boxes.map fun x => boxA x) := rfl
  rw [hA1]
  unfold opB
  generalize (o.who.map fun x => AV.lit (ji x)) = W at *
  generalize (o.boxes.map fun x => boxA x) = B at *
  have hs64 : ¬ s.length ≤ 64 := by omega
  unfold ksA at *
  refine XCall.of h513 rfl ?_; show AC.wp _ fb513 ⟨H.length, [freeI b l, .st [528, 1] [.arr 66 A, .sl 65 ws], .st [1, 1, 1, 1, 1, 32, 32, 1, 1] [.lit (ji o.author), .lit (wn o.seq), .sl 32 (klA o.parents), .lit (ji o.kind), .sl 1 W, keyA o.ofk, keyA o.check, .lit (tx o.text), .sl 36 B], .lit (tx s)] ++ List.replicate (47 - 4) .any, H ++ List.replicate 47 none⟩ (fun x s => match x with | .exit _ => False | _ => ∃ s1, Le s s1 ∧ FinX [(.cell 8 .true 529), (.tmp 9), (.tmp 10)] s1 _); unfold fb513
  have g1 : ∀ L k, (H ++ L)[H.length + k]? = L[k]? := fun L k => cat1 _ _ _ _ rfl
  have g2 : ∀ L k x, (H ++ L).set (H.length + k) x = H ++ L.set k x := fun L k x => cat2 _ _ _ _ _ rfl
  generalize hN : H.length = N at *
  refine wp_sg (areg_bx rfl rfl fun l5 => areg_bx rfl (by simp [AS.ev, AV.sz, o5, o6]) fun l6 => areg_al' (z' := ks0) rfl fun l8 => areg_end (by simp [push_cast, g2]; exact rfl) ?_)
  refine wp_sg (areg_end (by simp [push_cast, g1, g2, o5, o6]; exact rfl) ?_)
  refine wp_seq' (wp_sg ?_)
  refine areg_run 5 (by simp [push_cast, g1, o5, o6, hs, hs64]; exact rfl) ?_
  refine areg_end (by simp [push_cast, g1, o5, o6, hs, hs64]; exact rfl) ?_
  refine wp_cond_t (by simp [AS.ev]) (wp_sg ?_)
  refine areg_bd (z' := ks0) rfl ?_
  unfold ks0
  refine areg_end (by simp [push_cast, g1, g2]; exact rfl) (wp_ret' ?_)
  exact ⟨_, Le.refl _, [], _, ⟨_, rfl, by simp [AS.seals, RVals, RVal, AS.ev, AS.peek, AS.blk, g1, Blk.loc, Blk.cont, Blk.n, AV.nav, AV.isAgg, AV.isTup, AS.coe]; rfl, by simp [keyA, ks0]⟩, .tup [ks0A, .lit (tx []), .lit (jn 1)], H, RelLe.tup (AVle.tupSt ks0_le (AVle.refl _)), by simp, HpLe.trim _ _, rfl, rfl⟩
end Go.Cab

/- Ratchets compared. -/
-- TEXTS
-- KIT
namespace Go.Cab
open Go.RowKit
open Classical

def isBoolT (o : Option TypeDesc) : Bool := match o with | some .bool => true | _ => false
/-- The literals that a value of a type is, as a key. -/
def KLit (P : Program) (d : Nat) (t : TypeId) (v : AV) (l : List Lit) : Prop := v.isTup = false ∧ v.sz = P.cellsOf t ∧ ∀ (Imm : Nat → Nat → Prop) (w : World) (cs : List Value), R Imm w v cs → P.keyLits d t cs = some l
theorem mid_cut {α : Type} {pre c post : List α} {a n : Nat} (ha : pre.length = a) (hn : c.length = n) : ((pre ++ c ++ post).drop a).take n = c := by subst ha hn; simp [List.append_assoc]
theorem R.elemD {Imm : Nat → Nat → Prop} {w : World} {esz : Nat} {els : List AV} {cs : List Value} (h : R Imm w (.arr esz els) cs) (i : Nat) (f : AV) (hf : els[i]? = some f) : R Imm w f ((cs.drop (i * esz)).take esz) := by
  obtain ⟨pre, c, post, rfl, h1, h2, h3, _⟩ := R.elem h i f hf
  rw [mid_cut h1 h2]; exact h3
theorem R.fieldD {Imm : Nat → Nat → Prop} {w : World} {ns : List Nat} {fs : List AV} {cs : List Value} (h : R Imm w (.st ns fs) cs) (i n o : Nat) (f : AV) (hn : ns[i]? = some n) (hf : fs[i]? = some f) (ho : (ns.take i).sum = o) : R Imm w f ((cs.drop o).take n) := by
  obtain ⟨pre, c, post, rfl, h1, h2, h3, _⟩ := R.field h i n f hn hf
  rw [mid_cut (h1.trans ho) h2]; exact h3
theorem KLit.arr {P : Program} {d : Nat} {t e : TypeId} {n esz : Nat} {els : List AV} {ls : Nat → List Lit} (hu : P.underlying t = some (.array n e)) (hn : els.length = n) (hc : P.cellsOf t = n * esz) (he : P.cellsOf e = esz)
    (h : ∀ i v, els[i]? = some v → KLit P d e v (ls i)) : KLit P (d + 1) t (.arr esz els) ((List.range n).map ls).flatten := by
  refine ⟨rfl, by simp [AV.sz, hc, hn], fun Imm w cs hr => ?_⟩
  have hl := hr.len rfl
  unfold Program.keyLits
  simp only [hu]
  rw [if_pos (by rw [hl, hc]; simp [AV.sz, hn]), mapM_some (g := ls)]
  · rfl
  · intro i hi
    have hi' : i < n := by simpa using hi
    have hg : els[i]? = some els[i] := List.getElem?_eq_getElem (by omega)
    have := (h i _ hg).2.2 Imm w _ (hr.elemD i _ hg)
    rw [he]
    exact this
theorem KLit.bool {P : Program} {d : Nat} {t : TypeId} {b : Bool} (hu : isBoolT (P.underlying t) = true) (hc : P.cellsOf t = 1) : KLit P (d + 1) t (.lit (.bool b)) [.bool b] := by
  refine ⟨rfl, by simp [AV.sz, hc], fun Imm w cs hr => ?_⟩
  cases hr
  unfold Program.keyLits
  unfold isBoolT at hu
  split at hu
  · rename_i h; simp only [h]
  · cases hu
theorem KLit.key {d : Nat} {k : List UInt8} (hk : k.length = 32) : KLit Go.Proofs.Tryd.prog (d + 2) 29 (keyA k) ((List.range 32).map fun i => Lit.int .u8 (((k.getD i 0).toNat : Nat) : Int)) := by
  have hc : Go.Proofs.Tryd.prog.cellsOf 29 = 32 := by kernel_rfl
  refine ⟨rfl, by simp [keyA, AV.sz, bl_len, hk, hc], fun Imm w cs hr => ?_⟩
  have ex := R_bl hr
  rw [map_range, hk] at ex
  subst ex
  have lt : ∀ i, (k.getD i 0).toNat < 256 := fun i => (k.getD i 0).toNat_lt
  have hu : Go.Proofs.Tryd.prog.underlying 29 = some (.array 32 5) := by kernel_rfl
  have he : Go.Proofs.Tryd.prog.underlying 5 = some (.int .u8) := by kernel_rfl
  have h1 : Go.Proofs.Tryd.prog.cellsOf 5 = 1 := by kernel_rfl
  exact keyLits_row hu he hc h1 (fun i => (((k.getD i 0).toNat : Nat) : Int)) (fun i _ => wf_bn (lt i)) d
theorem KLit.eq {P : Program} {t : TypeId} {D : Nat} {v : AV} {l : List Lit} (h : KLit P D t v l) (hf : ∀ cs : List Value, cs.length = v.sz → (asVal v cs).formed P t = true) : EqAV P t v v true := fun Imm w cs cs' h1 h2 => by
  have e1 := h.2.2 Imm w cs h1
  have e2 := h.2.2 Imm w cs' h2
  exact ⟨D, D, l, l, hf _ (h1.len h.1), hf _ (h2.len h.1), e1, e2, by simp⟩

theorem four_fields {P : Program} {o : Option TypeDesc} {tk : TypeId} (h : (match o with | some (.struct fs) => (match fs.toList with | [a, b, c, d] => isBoolT (P.underlying a.type) && P.cellsOf a.type == 1 && a.type == b.type && c.type == tk && d.type == tk && a.offset == 0 && b.offset == 1 && c.offset == 2 && d.offset == 34 && fs.all (·.name != "_") | _ => false) | _ => false) = true) :
    ∃ (fs : Array Field) (a b c d : Field), o = some (.struct fs) ∧ fs.toList = [a, b, c, d] ∧ fs.all (·.name != "_") = true ∧ isBoolT (P.underlying a.type) = true ∧ P.cellsOf a.type = 1 ∧ b.type = a.type ∧ c.type = tk ∧ d.type = tk ∧ a.offset = 0 ∧ b.offset = 1 ∧ c.offset = 2 ∧ d.offset = 34 := by
  split at h
  · rename_i fs
    split at h
    · rename_i a b c d e
      simp only [Bool.and_eq_true, beq_iff_eq] at h
      exact ⟨fs, a, b, c, d, rfl, e, h.2, h.1.1.1.1.1.1.1.1.1, h.1.1.1.1.1.1.1.1.2, h.1.1.1.1.1.1.1.2.symm, h.1.1.1.1.1.1.2, h.1.1.1.1.1.2, h.1.1.1.1.2, h.1.1.1.2, h.1.1.2, h.1.2⟩
    · cases h
  · cases h
def litK (k : List UInt8) : List Lit := (List.range 32).map fun i => Lit.int .u8 (((k.getD i 0).toNat : Nat) : Int)
theorem KLit.rat {d : Nat} {a b : Bool} {k c : List UInt8} (hk : k.length = 32) (hc : c.length = 32) : KLit Go.Proofs.Tryd.prog (d + 3) 31 (.st [1, 1, 32, 32] [.lit (.bool a), .lit (.bool b), keyA k, keyA c]) ([.bool a] ++ ([.bool b] ++ (litK k ++ litK c))) := by
  obtain ⟨fs, f1, f2, f3, f4, hu, hl, hall, hb, h1, t2, t3, t4, o1, o2, o3, o4⟩ := four_fields (P := Go.Proofs.Tryd.prog) (o := Go.Proofs.Tryd.prog.underlying 31) (tk := 29) (by kernel_rfl)
  have hcr : Go.Proofs.Tryd.prog.cellsOf 31 = 66 := by kernel_rfl
  have hck : Go.Proofs.Tryd.prog.cellsOf 29 = 32 := by kernel_rfl
  refine ⟨rfl, by rw [hcr]; simp [AV.sz], fun Imm w cs hr => ?_⟩
  have hlen := hr.len rfl
  have r1 := hr.fieldD 0 1 0 _ rfl rfl (by simp)
  have r2 := hr.fieldD 1 1 1 _ rfl rfl (by simp)
  have r3 := hr.fieldD 2 32 2 _ rfl rfl (by simp)
  have r4 := hr.fieldD 3 32 34 _ rfl rfl (by simp)
  have k1 := (KLit.bool (d := d + 1) (b := a) hb h1).2.2 Imm w _ r1
  have k2 := (KLit.bool (d := d + 1) (b := b) hb h1).2.2 Imm w _ r2
  have k3 := (KLit.key (d := d) hk).2.2 Imm w _ r3
  have k4 := (KLit.key (d := d) hc).2.2 Imm w _ r4
  unfold Program.keyLits
  simp only [hu]
  rw [if_pos ⟨by rw [hlen, hcr]; simp [AV.sz], hall⟩, hl]
  simp only [List.mapM_cons, List.mapM_nil, t2, t3, t4, o1, o2, o3, o4, h1, hck, k1, k2, k3, k4]
  simp [litK]

/-- Eight ratchets. -/
def RatOk (v : AV) : Prop := ∃ (a b : Bool) (k c : List UInt8), k.length = 32 ∧ c.length = 32 ∧ v = .st [1, 1, 32, 32] [.lit (.bool a), .lit (.bool b), keyA k, keyA c]
theorem eq_rats {A : List AV} (hA : A.length = 8) (h : ∀ v ∈ A, RatOk v) : EqAV Go.Proofs.Tryd.prog 32 (.arr 66 A) (.arr 66 A) true := by
  have hu : Go.Proofs.Tryd.prog.underlying 32 = some (.array 8 31) := by kernel_rfl
  have hc : Go.Proofs.Tryd.prog.cellsOf 32 = 8 * 66 := by kernel_rfl
  have he : Go.Proofs.Tryd.prog.cellsOf 31 = 66 := by kernel_rfl
  have hx : ∀ i : Nat, ∃ l : List Lit, ∀ v, A[i]? = some v → KLit Go.Proofs.Tryd.prog 3 31 v l := fun i => by
    cases hv : A[i]? with
    | none => exact ⟨[], fun v h => by cases h⟩
    | some v =>
      obtain ⟨a, b, k, c, h1, h2, rfl⟩ := h v (List.mem_of_getElem? hv)
      exact ⟨_, fun v h => by obtain rfl := Option.some.inj h; exact KLit.rat (d := 0) h1 h2⟩
  have hl : ∀ (i : Nat) (v : AV), A[i]? = some v → KLit Go.Proofs.Tryd.prog 3 31 v ((hx i).choose) := fun i => (hx i).choose_spec
  refine (KLit.arr hu hA hc he (ls := fun i => (hx i).choose) hl).eq fun cs hcs => ?_
  simp only [AV.sz, hA] at hcs
  simp only [asVal, Value.formed, hu]
  simp [hc, hcs]
theorem r0A_ok : RatOk r0A := ⟨false, false, zk, zk, zk_len, zk_len, rfl⟩
end Go.Cab

/- Chain: Open without the author's ratchet. -/
-- TEXTS
-- KIT
namespace Go.Cab
open Go.RowKit
open Classical

theorem nextN_k {H : List (Option Blk)} {t : Tb} {V0 : Value} {ts0 ts : List Term} (hh : TbOk H t V0 ts0) {A ws : List AV} {w : Nat} (hA : A.length = 8) {op : Bool} {k c : List UInt8} (hk : k.length = 32) (hc : c.length = 32)
    (hw : A[w]? = some (.st [1, 1, 32, 32] [.lit (.bool false), .lit (.bool op), keyA k, keyA c])) :
    KC Go.Proofs.Tryd.prog 18 [freeI t.b t.l, ksA A ws, .lit (jn w)] H t ts (.tup [ks0A, keyA zk, .lit (jn 18)]) ts :=
  KC.of hh fun H V h => XCall.mono (next_none h hA hk hc hw) fun r H' hr => ⟨hr.1, V, by rw [hr.2, h.self]⟩

set_option maxHeartbeats 16000000 in
theorem copen_none {H : List (Option Blk)} {t : Tb} {V : Value} {ts : List Term} (hh : TbOk H t V ts) {o : OpV} (ho : OpOk o) (hbl : ∀ b ∈ o.boxes, b.body.length < 9223372036854775808)
    (hsay : saysV o = true) {w : Nat} (hau : o.author = (w : Int)) {A ws : List AV} (hA : A.length = 8) {op : Bool} {k c : List UInt8} (hk : k.length = 32) (hc : c.length = 32)
    (hwA : A[w]? = some (.st [1, 1, 32, 32] [.lit (.bool false), .lit (.bool op), keyA k, keyA c])) :
    XCall Go.Proofs.Tryd.prog 11 [freeI t.b t.l, ksA A ws, opA o] H fun r H' => r = .tup [ks0A, .lit (tx []), .lit (jn 18)] ∧ ∃ V', H' = tbOf H t V' ts := by
  have h514 := fc514_eq
  refine XCall.le ?_
  have hself := hh.self
  have cS := says_call ho hbl
  have cN := nextN_k hh (ts := ts) (ws := ws) hA hk hc hwA
  have o5 := ho.ofk
  have o6 := ho.check
  rw [hsay] at cS
  have hA1 : opA o = opB o.author o.seq o.parents o.kind (o.who.map fun x => AV.lit (ji x)) o.ofk o.check o.text (o.boxes.map fun x => boxA x) := rfl
  have haj : ji o.author = jn w := by rw [hau]; rfl
  rw [hA1] at cS ⊢
  unfold opB at cS ⊢
  rw [haj] at cS ⊢
  generalize (o.who.map fun x => AV.lit (ji x)) = W at *
  generalize (o.boxes.map fun x => boxA x) = B at *
  have G1 : ∀ V' ts', (tbOf H t V' ts').length = H.length := fun V' ts' => tbOf_len _ _ _ _
  have g1 : ∀ V' ts' L k, (tbOf H t V' ts' ++ L)[H.length + k]? = L[k]? := fun V' ts' L k => cat1 _ _ _ _ (G1 _ _)
  have g2 : ∀ V' ts' L k x, (tbOf H t V' ts' ++ L).set (H.length + k) x = tbOf H t V' ts' ++ L.set k x := fun V' ts' L k x => cat2 _ _ _ _ _ (G1 _ _)
  unfold ks0A ksA at *
  refine XCall.of h514 rfl ?_; show AC.wp _ fb514 ⟨H.length, [freeI t.b t.l, .st [528, 1] [.arr 66 A, .sl 65 ws], .st [1, 1, 1, 1, 1, 32, 32, 1, 1] [.lit (jn w), .lit (wn o.seq), .sl 32 (klA o.parents), .lit (ji o.kind), .sl 1 W, keyA o.ofk, keyA o.check, .lit (tx o.text), .sl 36 B]] ++ List.replicate (61 - 3) .any, H ++ List.replicate 61 none⟩ (fun x s => match x with | .exit _ => False | _ => ∃ s1, Le s s1 ∧ FinX [(.cell 6 .true 529), (.tmp 7), (.tmp 8)] s1 _); unfold fb514
  rw [← hself]
  rw [tbOf_len]
  generalize hN : H.length = N at *
  refine wp_sg (areg_bx rfl rfl fun l5 => areg_bx rfl (by simp [AS.ev, AV.sz]) fun l6 => areg_al' (z' := ks0) rfl fun l8 => areg_end (by simp [push_cast, g2]; exact rfl) ?_)
  refine wp_seq' (wp_sg ?_)
  refine areg_run 1 (by simp [push_cast, g1, o5, o6]; exact rfl) ?_
  unfold keyA at cS
  refine areg_ca (by simp [AS.ev, AS.coe, AS.put] <;> exact rfl) cS ?_
  refine areg_end (by simp [push_cast]; exact rfl) ?_
  refine wp_cond_f (by simp [AS.ev]) (wp_skip' (wp_sg ?_))
  refine areg_run 4 (by simp [push_cast, g1, o5, o6]; exact rfl) ?_
  refine areg_k [freeI t.b t.l, .st [528, 1] [.arr 66 A, .sl 65 ws], .lit (jn w)] hN rfl (tgt_next _ _ _) cN (by simp) (by simp) fun V2 => ?_
  refine areg_run 4 (by simp [push_cast, g1]; exact rfl) ?_
  refine areg_al' zk_eq.symm fun l11 => areg_end (by simp [push_cast, g1, g2, zk_len, hA]; exact rfl) ?_
  refine wp_seq' (wp_sr (by simp [push_cast, g1]; exact rfl) ?_)
  refine wp_cond_t (by simp [AS.ev]) (wp_sr (by simp [push_cast, g1, g2]; exact rfl) (wp_ret' ?_))
  exact ⟨_, Le.refl _, [], _, ⟨_, rfl, by simp [AS.seals, RVals, RVal, AS.ev, AS.peek, AS.blk, g1, Blk.loc, Blk.cont, Blk.n, AV.nav, AV.isAgg, AV.isTup, AS.coe]; rfl, by simp [keyA]⟩, .tup [.st [528, 1] [.arr 66 [r0A, r0A, r0A, r0A, r0A, r0A, r0A, r0A], .sl 65 []], .lit (tx []), .lit (jn 18)], _, RelLe.refl _, by simp, HpLe.trim _ _, rfl, V2, (hh.of_of _ _ _ _).symm⟩
end Go.Cab

/- Free kit, plain: tables grow; which term a name is; what two agree on, in either order. -/
-- TEXTS
-- KIT
namespace Go.Cab
open Classical

/-! ### Bytes compared -/
theorem cmp_neg : ∀ (a b : List UInt8), Go.Lib.compareBytes b a = - Go.Lib.compareBytes a b
  | [], [] => rfl
  | [], _ :: _ => rfl
  | _ :: _, [] => rfl
  | a :: xa, b :: bs => by
    unfold Go.Lib.compareBytes
    have h : ¬ (a < b ∧ b < a) := fun ⟨h, k⟩ => by have := UInt8.lt_iff_toNat_lt.1 h; have := UInt8.lt_iff_toNat_lt.1 k; omega
    by_cases h1 : a < b
    · have h2 : ¬ b < a := fun k => h ⟨h1, k⟩
      simp [h1, h2]
    · by_cases h2 : b < a
      · simp [h1, h2]
      · simp only [h1, h2, if_false]; exact cmp_neg xa bs
theorem cmp_zero : ∀ (a b : List UInt8), Go.Lib.compareBytes a b = 0 → a = b
  | [], [], _ => rfl
  | [], _ :: _, h => by simp [Go.Lib.compareBytes] at h
  | _ :: _, [], h => by simp [Go.Lib.compareBytes] at h
  | a :: xa, b :: bs, h => by
    unfold Go.Lib.compareBytes at h
    split at h
    · omega
    · split at h
      · omega
      · rename_i h1 h2
        have : a = b := by
          apply UInt8.toNat_inj.1
          have h1' : ¬ a.toNat < b.toNat := fun k => h1 (UInt8.lt_iff_toNat_lt.2 k)
          have h2' : ¬ b.toNat < a.toNat := fun k => h2 (UInt8.lt_iff_toNat_lt.2 k)
          omega
        rw [this, cmp_zero xa bs h]

/-- What two agree on. -/
def agr (a k : List UInt8) : Term := if 0 < Go.Lib.compareBytes a k then ⟨4, [], [k, a]⟩ else ⟨4, [], [a, k]⟩
theorem agr_comm (a k : List UInt8) : agr a k = agr k a := by
  unfold agr
  have h := cmp_neg a k
  by_cases h1 : 0 < Go.Lib.compareBytes a k
  · rw [if_pos h1, if_neg (by omega)]
  · rw [if_neg h1]
    by_cases h2 : 0 < Go.Lib.compareBytes k a
    · rw [if_pos h2]
    · rw [if_neg h2, cmp_zero a k (by omega)]
theorem agr_kind (a k : List UInt8) : (agr a k).kind = 4 := by unfold agr; split <;> rfl
theorem agr_wf (a k : List UInt8) : WfT (agr a k) := by unfold agr; split <;> exact ⟨by simp, by simp⟩
theorem agr_ok {a k : List UInt8} (ha : a.length = 32) (hk : k.length = 32) : TermOk (agr a k) := by
  unfold agr
  split <;> exact ⟨by simp, by simp, by simp, by simp [ha, hk]⟩

/-! ### Names -/
theorem ofNat_mod (n : Nat) : (UInt8.ofNat n).toNat = n % 256 := by simp
theorem be32_name {n : Nat} (h : n < 4294967296) : be32 (nameK n) = n := by
  have e : be32 (nameK n) = (UInt8.ofNat (n / 16777216)).toNat * 16777216 + (UInt8.ofNat (n / 65536)).toNat * 65536 + (UInt8.ofNat (n / 256)).toNat * 256 + (UInt8.ofNat n).toNat := rfl
  rw [e, ofNat_mod, ofNat_mod, ofNat_mod, ofNat_mod]
  omega
theorem name_inj {n m : Nat} (hn : n < 4294967296) (hm : m < 4294967296) (h : nameK n = nameK m) : n = m := by
  rw [← be32_name hn, ← be32_name hm, h]
theorem name_nz (n : Nat) : nameK n ≠ zk := fun h => by
  have := congrArg (fun l => l.getD 0 0) h
  simp [nameK, zk] at this
theorem four_inj {n m : Nat} (hn : n < 4294967296) (hm : m < 4294967296) (h : four n = four m) : n = m := by
  simp only [four, List.cons.injEq, and_true] at h
  obtain ⟨h1, h2, h3, h4⟩ := h
  have k1 := congrArg UInt8.toNat h1; have k2 := congrArg UInt8.toNat h2; have k3 := congrArg UInt8.toNat h3; have k4 := congrArg UInt8.toNat h4
  rw [ofNat_mod, ofNat_mod] at k1 k2 k3 k4
  omega

/-! ### Shapes -/
theorem flat_inj : ∀ {a b : List (List UInt8)}, (∀ k ∈ a, k.length = 32) → (∀ k ∈ b, k.length = 32) → a.flatten = b.flatten → a = b
  | [], [], _, _, _ => rfl
  | [], y :: b, _, hb, h => by
    have := congrArg List.length h
    simp only [List.flatten_nil, List.flatten_cons, List.length_append, hb y (by simp), List.length_nil] at this
    omega
  | x :: a, [], ha, _, h => by
    have := congrArg List.length h
    simp only [List.flatten_nil, List.flatten_cons, List.length_append, ha x (by simp), List.length_nil] at this
    omega
  | x :: a, y :: b, ha, hb, h => by
    simp only [List.flatten_cons] at h
    obtain ⟨h1, h2⟩ := List.append_inj h (by rw [ha x (by simp), hb y (by simp)])
    rw [h1, flat_inj (fun k hk => ha k (by simp [hk])) (fun k hk => hb k (by simp [hk])) h2]
theorem shape_inj {x y : Term} (hx : TermOk x) (hy : TermOk y) (h : shapeT x = shapeT y) : x = y := by
  obtain ⟨kx, tx', ksx⟩ := x
  obtain ⟨ky, ty, ksy⟩ := y
  obtain ⟨x1, x2, x3, x4⟩ := hx
  obtain ⟨y1, y2, y3, y4⟩ := hy
  simp only [shapeT] at h x1 x2 x3 x4 y1 y2 y3 y4
  simp only [List.append_assoc] at h
  obtain ⟨h1, h⟩ := List.append_inj h (by simp)
  obtain ⟨h2, h⟩ := List.append_inj h (by simp [four])
  have e2 := four_inj (by omega) (by omega) h2
  obtain ⟨h3, h4⟩ := List.append_inj h e2
  have e1 : kx = ky := by
    simp only [List.cons.injEq, and_true] at h1
    have := congrArg UInt8.toNat h1
    rw [ofNat_mod, ofNat_mod] at this
    omega
  rw [e1, h3, flat_inj x4 y4 h4]

/-! ### What stands in a table -/
/-- The term stands there, at that number. -/
def In (ts : List Term) (x : Term) (n : Nat) : Prop := findT (shapeT x) ts 0 = some n
theorem findT_app {s : List UInt8} : ∀ {ts : List Term} {i n : Nat} (us : List Term), findT s ts i = some n → findT s (ts ++ us) i = some n
  | [], _, _, _, h => by cases h
  | x :: xs, i, n, us, h => by
    unfold findT at h
    rw [List.cons_append, findT]
    split at h
    · rename_i e; rw [if_pos e]; exact h
    · rename_i e; rw [if_neg e]; exact findT_app us h
theorem findT_get {s : List UInt8} : ∀ {ts : List Term} {i n : Nat}, findT s ts i = some n → ∃ x, ts[n - i]? = some x ∧ s = shapeT x
  | [], _, _, h => by cases h
  | x :: xs, i, n, h => by
    have hl := findT_lt h
    unfold findT at h
    split at h
    · rename_i e; cases h; exact ⟨x, by simp, e⟩
    · have hl2 := findT_lt h
      obtain ⟨y, h1, h2⟩ := findT_get h
      refine ⟨y, ?_, h2⟩
      rw [show n - i = (n - (i + 1)) + 1 by omega]
      simpa using h1
theorem findT_snoc {x : Term} : ∀ {ts : List Term} {i : Nat}, findT (shapeT x) ts i = none → findT (shapeT x) (ts ++ [x]) i = some (i + ts.length)
  | [], i, _ => by simp [findT]
  | y :: ys, i, h => by
    unfold findT at h
    split at h
    · cases h
    · rename_i e
      rw [List.cons_append, findT, if_neg e, findT_snoc h]
      simp only [List.length_cons]; congr 1; omega
theorem In.put (ts : List Term) (x : Term) : In (putT ts x) x (putN ts x) := by
  unfold In putT putN
  cases h : findT (shapeT x) ts 0 with
  | some n => exact h
  | none => rw [findT_snoc h]; simp
theorem put_pre (ts : List Term) (x : Term) : ts <+: putT ts x := by
  unfold putT
  cases findT (shapeT x) ts 0 with
  | some n => exact List.prefix_refl _
  | none => exact List.prefix_append _ _
theorem In.mono {ts us : List Term} {x : Term} {n : Nat} (h : In ts x n) (k : ts <+: us) : In us x n := by
  obtain ⟨vs, rfl⟩ := k
  exact findT_app vs h
theorem In.putT {ts : List Term} {x : Term} {n : Nat} (h : In ts x n) : putT ts x = ts := by
  unfold In at h
  unfold Cab.putT
  rw [h]
theorem In.putN {ts : List Term} {x : Term} {n : Nat} (h : In ts x n) : putN ts x = n := by
  unfold In at h
  unfold Cab.putN
  rw [h]
theorem In.lt {ts : List Term} {x : Term} {n : Nat} (h : In ts x n) : n < ts.length := by have := findT_lt h; omega
theorem In.get {ts : List Term} {x : Term} {n : Nat} (h : In ts x n) (hts : TsOk ts) (hx : TermOk x) : ts[n]? = some x := by
  obtain ⟨y, h1, h2⟩ := findT_get h
  rw [Nat.sub_zero] at h1
  rw [h1, shape_inj (hts.ok y (List.mem_of_getElem? h1)) hx h2.symm]
theorem In.inj {ts : List Term} {x y : Term} {n : Nat} (h : In ts x n) (k : In ts y n) (hts : TsOk ts) (hx : TermOk x) (hy : TermOk y) : x = y := by
  have := h.get hts hx
  rw [k.get hts hy] at this
  exact (Option.some.inj this).symm

/-- A key that is the name of a term that stands there. -/
def Nm (ts : List Term) (x : Term) (k : List UInt8) : Prop := ∃ n, k = nameK n ∧ In ts x n
theorem Nm.put (ts : List Term) (x : Term) : Nm (putT ts x) x (nameK (putN ts x)) := ⟨_, rfl, In.put ts x⟩
theorem Nm.mono {ts us : List Term} {x : Term} {k : List UInt8} (h : Nm ts x k) (p : ts <+: us) : Nm us x k := by
  obtain ⟨n, h1, h2⟩ := h
  exact ⟨n, h1, h2.mono p⟩
theorem Nm.putT {ts : List Term} {x : Term} {k : List UInt8} (h : Nm ts x k) : putT ts x = ts := by obtain ⟨n, _, h2⟩ := h; exact h2.putT
theorem Nm.putN {ts : List Term} {x : Term} {k : List UInt8} (h : Nm ts x k) : nameK (putN ts x) = k := by obtain ⟨n, h1, h2⟩ := h; rw [h2.putN, h1]
theorem Nm.len {ts : List Term} {x : Term} {k : List UInt8} (h : Nm ts x k) : k.length = 32 := by obtain ⟨n, rfl, _⟩ := h; exact nameK_len n
theorem Nm.nz {ts : List Term} {x : Term} {k : List UInt8} (h : Nm ts x k) : k ≠ zk := by obtain ⟨n, rfl, _⟩ := h; exact name_nz n
theorem Nm.inj {ts : List Term} {x y : Term} {k : List UInt8} (h : Nm ts x k) (g : Nm ts y k) (hts : TsOk ts) (hx : TermOk x) (hy : TermOk y) : x = y := by
  obtain ⟨n, h1, h2⟩ := h
  obtain ⟨m, g1, g2⟩ := g
  have hl := hts.len
  have a1 := h2.lt
  have a2 := g2.lt
  have : n = m := name_inj (by omega) (by omega) (by rw [← h1, g1])
  subst this
  exact h2.inj g2 hts hx hy
theorem Nm.fun {ts : List Term} {x : Term} {k k' : List UInt8} (h : Nm ts x k) (g : Nm ts x k') : k = k' := by rw [← h.putN, g.putN]

/-- What agreeing on a public key comes to. -/
theorem agreeX_pub {ts : List Term} (hts : TsOk ts) {a k p : List UInt8} (hk : k.length = 32) (h : Nm ts (pubT k) p) : agreeX ts a p = some (agr a k) := by
  have hnz := h.nz
  obtain ⟨n, rfl, hn⟩ := h
  have hl := hts.len
  have hlt := hn.lt
  unfold agreeX
  rw [if_neg hnz, be32_name (by omega), if_neg (by simp; omega), hn.get hts (pubT_ok hk)]
  simp only [pubT, if_true, List.getD_cons_zero]
  rw [agr]
  split <;> rfl

/-! ### All pairs -/
/-- What pairs of secrets come to. -/
def goG : List Term → List (List UInt8) → List KK → List (List UInt8) × List Term
  | ts, acc, [] => (acc, ts)
  | ts, acc, q :: qs => goG (putT ts (agr q.1 q.2)) (acc ++ [nameK (putN ts (agr q.1 q.2))]) qs
/-- The second ones' public keys. -/
def PubsOf (ts : List Term) : List KK → List KK → Prop
  | [], [] => True
  | p :: ps, q :: qs => p.1 = q.1 ∧ q.1.length = 32 ∧ q.2.length = 32 ∧ Nm ts (pubT q.2) p.2 ∧ PubsOf ts ps qs
  | _, _ => False
theorem PubsOf.mono {ts us : List Term} (k : ts <+: us) : ∀ {ps qs : List KK}, PubsOf ts ps qs → PubsOf us ps qs
  | [], [], _ => trivial
  | _ :: _, _ :: _, ⟨h1, h2, h3, h4, h5⟩ => ⟨h1, h2, h3, h4.mono k, h5.mono k⟩
  | [], _ :: _, h => h.elim
  | _ :: _, [], h => h.elim
theorem agreedG_go : ∀ (ps qs : List KK) (ts : List Term) (acc : List (List UInt8)), TsOk ts → ts.length + ps.length + 10 < 90000 → PubsOf ts ps qs → agreedG ts acc ps = (some (goG ts acc qs).1, (goG ts acc qs).2)
  | [], [], _, _, _, _, _ => rfl
  | p :: ps, q :: qs, ts, acc, hts, hl, ⟨h1, h2, h3, h4, h5⟩ => by
    simp only [List.length_cons] at hl
    have hlen := putT_len ts (agr q.1 q.2)
    rw [agreedG, agreeX_pub hts h3 h4, h1]
    exact agreedG_go ps qs _ _ (hts.put (agr_ok h2 h3) (agr_wf _ _) (by omega)) (by omega) (h5.mono (put_pre _ _))
  | [], _ :: _, _, _, _, _, h => h.elim
  | _ :: _, [], _, _, _, _, h => h.elim
theorem goG_pre : ∀ (qs : List KK) (ts : List Term) (acc : List (List UInt8)), ts <+: (goG ts acc qs).2
  | [], _, _ => List.prefix_refl _
  | q :: qs, ts, acc => (put_pre ts (agr q.1 q.2)).trans (goG_pre qs _ _)
/-- Once reckoned, it is there. -/
theorem goG_again : ∀ (qs qs' : List KK) (ts us : List Term) (acc : List (List UInt8)), (qs.map fun q => agr q.1 q.2) = (qs'.map fun q => agr q.1 q.2) → (goG ts acc qs).2 <+: us → goG us acc qs' = ((goG ts acc qs).1, us)
  | [], [], _, _, _, _, _ => rfl
  | q :: qs, q' :: qs', ts, us, acc, h, k => by
    simp only [List.map_cons, List.cons.injEq] at h
    have hn : Nm us (agr q.1 q.2) (nameK (putN ts (agr q.1 q.2))) := (Nm.put ts _).mono ((goG_pre qs _ _).trans k)
    rw [goG, goG, ← h.1, hn.putT, hn.putN]
    exact goG_again qs qs' _ us _ h.2 k
  | [], _ :: _, _, _, _, h, _ => by simp at h
  | _ :: _, [], _, _, _, h, _ => by simp at h
theorem agreedT_go {ts : List Term} (hts : TsOk ts) {ps qs : List KK} (hl : ts.length + ps.length + 10 < 90000) (h : PubsOf ts ps qs) :
    agreedT ts ps = (some (nameK (putN (goG ts [] qs).2 ⟨2, hello, (goG ts [] qs).1⟩)), putT (goG ts [] qs).2 ⟨2, hello, (goG ts [] qs).1⟩) := by
  unfold agreedT
  rw [agreedG_go ps qs ts [] hts hl h]
theorem agreedT_pre {ts : List Term} {ps qs : List KK} (hts : TsOk ts) (hl : ts.length + ps.length + 10 < 90000) (h : PubsOf ts ps qs) : ts <+: (agreedT ts ps).2 := by
  rw [agreedT_go hts hl h]
  exact (goG_pre _ _ _).trans (put_pre _ _)
/-- The others come to the same. -/
theorem agreedT_again {ts us : List Term} (hts : TsOk ts) (hus : TsOk us) {ps qs ps' qs' : List KK} (hl : ts.length + ps.length + 10 < 90000) (hl' : us.length + ps'.length + 10 < 90000) (h : PubsOf ts ps qs) (h' : PubsOf us ps' qs')
    (he : (qs.map fun q => agr q.1 q.2) = (qs'.map fun q => agr q.1 q.2)) (hpre : (agreedT ts ps).2 <+: us) : agreedT us ps' = ((agreedT ts ps).1, us) := by
  rw [agreedT_go hts hl h] at hpre ⊢
  have hg := goG_again qs qs' ts us [] he ((put_pre _ _).trans hpre)
  have hn := (Nm.put (goG ts [] qs).2 ⟨2, hello, (goG ts [] qs).1⟩).mono hpre
  rw [agreedT_go hus hl' h', hg]
  simp only
  rw [hn.putT, hn.putN]
end Go.Cab

/- Chain, plain: who knows the same reads it; not twice. -/
-- TEXTS
-- KIT
namespace Go.Cab
open Classical

def itD (x : Int) : List UInt8 := dec2 x.toNat
theorem itD_len (n : Int) : (itD n).length ≤ 30 := Nat.le_trans (dec2_len _) (by omega)
theorem sayO_ok {n : Nat} (hn : n < 100) {m : List UInt8} (hm : m.length < 9223372036854775808) : OpOk (sayO n m) :=
  ⟨by simp [sayO]; omega, by simp [sayO], by simp [sayO, key1], by simp [sayO], zk_len, zk_len, hm, by simp [sayO], fun b hb => by
    simp only [sayO, List.mem_singleton] at hb
    subst hb
    exact ⟨zk_len, by simp, by simp⟩⟩
theorem sayO_says {n : Nat} (h0 : 0 < n) {m : List UInt8} (h1 : 0 < m.length) (h2 : m.length ≤ 256) : saysV (sayO n m) = true := by
  have h3 : ¬ 256 < m.length := by omega
  have h4 : n ≠ 0 := by omega
  simp [saysV, rightV, c1V, c2V, c3V, whoV, boxesV, badBox, memB, risV, sayO, h1, h3, h4]

def sT1 (c : List UInt8) : Term := ⟨2, txSay ++ [47, 49], [c]⟩
def sT2 (c : List UInt8) : Term := ⟨2, txSay ++ [47, 50], [c]⟩
theorem sT1_ok {c : List UInt8} (h : c.length = 32) : TermOk (sT1 c) := ⟨by simp [sT1], by simp [sT1, txSay], by simp [sT1], by simp [sT1, h]⟩
theorem sT2_ok {c : List UInt8} (h : c.length = 32) : TermOk (sT2 c) := ⟨by simp [sT2], by simp [sT2, txSay], by simp [sT2], by simp [sT2, h]⟩
theorem nextV_eq (ts : List Term) (c : List UInt8) : nextV ts c = ((nameK (putN ts (sT1 c)), nameK (putN (putT ts (sT1 c)) (sT2 c))), putT (putT ts (sT1 c)) (sT2 c)) := rfl
theorem nextV_nm (ts : List Term) (c : List UInt8) : Nm (nextV ts c).2 (sT1 c) (nextV ts c).1.1 ∧ Nm (nextV ts c).2 (sT2 c) (nextV ts c).1.2 ∧ ts <+: (nextV ts c).2 :=
  ⟨(Nm.put ts (sT1 c)).mono (put_pre _ _), Nm.put _ _, (put_pre _ _).trans (put_pre _ _)⟩
theorem nextV_again {us : List Term} {c a b : List UInt8} (h1 : Nm us (sT1 c) a) (h2 : Nm us (sT2 c) b) : nextV us c = ((a, b), us) := by
  rw [nextV_eq, h1.putT, h1.putN, h2.putT, h2.putN]
theorem byV_nm {it : Int → List UInt8} {ts : List Term} {o : OpV} (h : rightV o = true) : Nm (byV it ts o).2 (byT it o) (byV it ts o).1 ∧ ts <+: (byV it ts o).2 := by
  unfold byV
  rw [if_pos h]
  exact ⟨Nm.put _ _, put_pre _ _⟩
theorem byV_again {it : Int → List UInt8} {us : List Term} {o : OpV} {a : List UInt8} (h : rightV o = true) (g : Nm us (byT it o) a) : byV it us o = (a, us) := by
  unfold byV
  rw [if_pos h, g.putT, g.putN]
theorem says_right {o : OpV} (h : saysV o = true) : rightV o = true := by
  unfold saysV at h
  simp at h
  exact h.1
/-- What a box has that stands in the table. -/
theorem openX_nm {ts : List Term} (hts : TsOk ts) {x : Term} (hx : TermOk x) {k b m : List UInt8} (h : Nm ts x m) : openX ts k b m = if x.kind = 6 ∧ x.keys.getD 0 zk = k ∧ x.keys.getD 1 zk = b then some x else none := by
  have hm := h.len
  obtain ⟨n, rfl, hi⟩ := h
  have hl := hi.lt
  have hl2 := hts.len
  have hb : be32 (nameK n) = n := be32_name (by omega)
  have hg := hi.get hts hx
  unfold openX
  rw [if_neg (by simp [hm]), hb, if_neg (show ¬ (ts.length ≤ n ∨ nameK n ≠ nameK n) from fun h => h.elim (fun h => by omega) (fun h => h rfl)), hg]

/-- What is known of a chain's key: it is a term's name, and not that of its own successor. -/
def ChOk (ts : List Term) (c : List UInt8) : Prop := ∃ x, TermOk x ∧ Nm ts x c ∧ x ≠ sT2 c
theorem ChOk.len {ts : List Term} {c : List UInt8} (h : ChOk ts c) : c.length = 32 := by obtain ⟨x, _, h, _⟩ := h; exact h.len
theorem ChOk.mono {ts us : List Term} {c : List UInt8} (h : ChOk ts c) (p : ts <+: us) : ChOk us c := by
  obtain ⟨x, h1, h2, h3⟩ := h
  exact ⟨x, h1, h2.mono p, h3⟩
theorem ChOk.next {us : List Term} (hus : TsOk us) {c d : List UInt8} (h : ChOk us c) (hd : Nm us (sT2 c) d) : d ≠ c ∧ ChOk us d := by
  obtain ⟨x, h1, h2, h3⟩ := h
  have hc := h2.len
  have hne : d ≠ c := fun e => by
    subst e
    exact h3 (h2.inj hd hus h1 (sT2_ok hc))
  refine ⟨hne, sT2 c, sT2_ok hc, hd, fun e => ?_⟩
  simp [sT2] at e
  exact hne e.symm

theorem nextV_ok {ts : List Term} (hts : TsOk ts) (hl : ts.length + 2 < 90000) {c : List UInt8} (hc : c.length = 32) : TsOk (nextV ts c).2 := by
  rw [nextV_eq]
  have h := putT_len ts (sT1 c)
  exact (hts.put (sT1_ok hc) ⟨by simp [sT1], by simp [sT1]⟩ (by omega)).put (sT2_ok hc) ⟨by simp [sT2], by simp [sT2]⟩ (by omega)
theorem byT_ok {o : OpV} (ho : OpOk o) (hw : o.who.length < 1000) (hp : o.parents.length < 1000) : TermOk (byT itD o) := by
  refine ⟨by simp [byT], labelT_len ho (fun n _ => itD_len n) hw, by simp [byT]; omega, fun k hk => ?_⟩
  simp only [byT, List.mem_append, List.mem_cons, List.not_mem_nil, or_false] at hk
  rcases hk with hk | rfl | rfl
  · exact ho.p32 k hk
  · exact ho.ofk
  · exact zk_len
theorem byV_ok {ts : List Term} (hts : TsOk ts) (hl : ts.length + 1 < 90000) {o : OpV} (ho : OpOk o) (hw : o.who.length < 1000) (hp : o.parents.length < 1000) (hr : rightV o = true) : TsOk (byV itD ts o).2 := by
  unfold byV
  rw [if_pos hr]
  exact hts.put (byT_ok ho hw hp) ⟨by simp [byT], by simp [byT]⟩ hl
theorem sealT_ok {k b s : List UInt8} (hk : k.length = 32) (hb : b.length = 32) (hs : s.length < 100000) : TermOk (sealT k b s) := ⟨by simp [sealT], hs, by simp [sealT], by simp [sealT, hk, hb]⟩

set_option maxHeartbeats 1000000 in
theorem talk_law {ts : List Term} (hts : TsOk ts) (hl : ts.length + 20 < 90000) {c : List UInt8} (hc : ChOk ts c) {n : Nat} (h0 : 0 < n) (h1 : n < 100) {s : List UInt8} (hs : s.length ≤ 64) {m d : List UInt8} {us : List Term}
    (hm : msgV itD ts (sayO n []) c s = (m, us)) (hd : (nextV ts c).1.2 = d) :
    m.length = 32 ∧ ts <+: us ∧ TsOk us ∧ us.length ≤ ts.length + 4 ∧ readV itD us (sayO n m) c = some s ∧ (byV itD (nextV us c).2 (sayO n m)).2 = us ∧ (nextV us c).1.2 = d ∧
      ChOk us d ∧ readV itD us (sayO n m) d = none := by
  have hc32 := hc.len
  obtain ⟨a1, a2, a3⟩ := nextV_nm ts c
  have a4 := nextV_ok hts (by omega) hc32
  have a5 := nextV_len ts c
  have ho : OpOk (sayO n txX) := sayO_ok h1 (by simp [txX])
  have hr := says_right (sayO_says h0 (m := txX) (by simp [txX]) (by simp [txX]))
  obtain ⟨b1, b2⟩ := byV_nm (it := itD) (ts := (nextV ts c).2) hr
  have b4 := byV_ok a4 (by omega) ho (by simp [sayO]) (by simp [sayO]) hr
  have b5 := byV_len itD (nextV ts c).2 (sayO n txX)
  have hmv : msgV itD ts (sayO n []) c s = (nameK (putN (byV itD (nextV ts c).2 (sayO n txX)).2 (sealT (nextV ts c).1.1 (byV itD (nextV ts c).2 (sayO n txX)).1 s)), putT (byV itD (nextV ts c).2 (sayO n txX)).2 (sealT (nextV ts c).1.1 (byV itD (nextV ts c).2 (sayO n txX)).1 s)) := rfl
  rw [hmv] at hm
  clear hmv
  rw [hd] at a2
  generalize byV itD (nextV ts c).2 (sayO n txX) = bv at *
  obtain ⟨bk, t2⟩ := bv
  simp only at b1 b2 b4 b5 hm
  generalize (nextV ts c).2 = t1 at *
  generalize (nextV ts c).1.1 = k1 at *
  have hso := sealT_ok (s := s) a1.len b1.len (by omega)
  have c1 := Nm.put t2 (sealT k1 bk s)
  have c2 := put_pre t2 (sealT k1 bk s)
  have c4 := b4.put hso ⟨by simp [sealT], by simp [sealT]⟩ (by omega)
  have c5 := putT_len t2 (sealT k1 bk s)
  rw [Prod.mk.injEq] at hm
  obtain ⟨hm1, hm2⟩ := hm
  rw [hm1, hm2] at c1
  rw [hm2] at c2 c4 c5
  have hml := c1.len
  have hr2 := says_right (sayO_says h0 (m := m) (by omega) (by omega))
  have e1 := nextV_again ((a1.mono b2).mono c2) ((a2.mono b2).mono c2)
  have e2 := byV_again (it := itD) (o := sayO n m) hr2 (b1.mono c2)
  have hch := (hc.mono ((a3.trans b2).trans c2)).next c4 ((a2.mono b2).mono c2)
  refine ⟨hml, (a3.trans b2).trans c2, c4, by omega, ?_, ?_, ?_, hch.2, ?_⟩
  · unfold readV
    rw [e1]
    simp only
    rw [e2]
    show (match openX us k1 bk m with | some x => if x.keys.drop 2 = [] ∧ x.text.length ≤ 64 then some x.text else none | none => none) = some s
    rw [openX_nm c4 hso c1, if_pos ⟨rfl, rfl, rfl⟩]
    exact if_pos ⟨rfl, hs⟩
  · rw [e1]
    simp only
    rw [e2]
  · rw [e1]
  · have hd32 := hch.2.len
    obtain ⟨f1, f2, f3⟩ := nextV_nm us d
    have f4 := nextV_ok c4 (by omega) hd32
    unfold readV
    generalize (nextV us d).2 = t3 at *
    generalize (nextV us d).1.1 = k3 at *
    rw [byV_again (it := itD) (o := sayO n m) hr2 ((b1.mono c2).mono f3)]
    show (match openX t3 k3 bk m with | some x => if x.keys.drop 2 = [] ∧ x.text.length ≤ 64 then some x.text else none | none => none) = none
    rw [openX_nm f4 hso (c1.mono f3), if_neg]
    rintro ⟨_, hk, _⟩
    have hk' : k1 = k3 := hk
    subst hk'
    have := (((a1.mono b2).mono c2).mono f3).inj f1 f4 (sT1_ok hc32) (sT1_ok hd32)
    simp [sT1] at this
    exact hch.1 this.symm
end Go.Cab

/- Chain: alive. -/
-- TEXTS
-- KIT
namespace Go.Cab
open Go.RowKit
open Classical
def fb510 : AC := (.seq (.reg [⟨(.some 0), .none, (.mov (.const (.bool .false))), [], .none⟩]) (.seq (.reg [⟨(.some 16), .none, (.xc (.dir 6) [] [] []), [], .none⟩, ⟨(.some 1), .none, (.alloc 1 (.st [1] [(.lit (.pointer .none))])), [], .none⟩, ⟨.none, .none, (.store 1 (.tmp 1) (.tmp 16)), [], .none⟩]) (.seq (.reg [⟨(.some 17), .none, (.faddr 0 0 (.tmp 1)), [], .none⟩, ⟨(.some 18), .none, (.load .false 1 (.tmp 17)), [], .none⟩, ⟨(.some 19), .none, (.icall 8 (.tmp 18) [(.const (tx [99]))]), [], .none⟩, ⟨(.some 20), .none, (.call 7 [(.tmp 19)]), [], .none⟩, ⟨(.some 2), .none, (.alloc 529 (.st [528, 1] [(.arr 66 (List.replicate 8 (.st [1, 1, 32, 32] [(.lit (.bool .false)), (.lit (.bool .false)), (.arr 1 (List.replicate 32 (.lit (bn 0)))), (.arr 1 (List.replicate 32 (.lit (bn 0))))]))), (.lit (.slice .none 0 0))])), [], .none⟩, ⟨.none, .none, (.store 529 (.tmp 2) (.tmp 20)), [], .none⟩]) (.seq (.reg [⟨(.some 21), .none, (.call 9 [(.const (wn 1))]), [], .none⟩, ⟨(.some 3), .none, (.alloc 71 (.st [1, 1, 1, 1, 1, 32, 32, 1, 1] [(.lit (jn 0)), (.lit (wn 0)), (.lit (.slice .none 0 0)), (.lit (jn 0)), (.lit (.slice .none 0 0)), (.arr 1 (List.replicate 32 (.lit (bn 0)))), (.arr 1 (List.replicate 32 (.lit (bn 0)))), (.lit (tx [])), (.lit (.slice .none 0 0))])), [], .none⟩, ⟨.none, .none, (.store 71 (.tmp 3) (.tmp 21)), [], .none⟩]) (.seq (.reg [⟨(.some 23), .none, (.load .true 1 (.tmp 1)), [], .none⟩, ⟨(.some 24), .none, (.rdp (.mkifc 26) [(.tmp 23)]), [], .none⟩, ⟨(.some 25), .none, (.load .true 529 (.tmp 2)), [], .none⟩, ⟨(.some 26), .none, (.load .true 71 (.tmp 3)), [], .none⟩, ⟨(.some 27), .none, (.xc (.dir 10) [(.tmp 24), (.tmp 25), (.tmp 26), (.const (tx [116, 101, 120, 116]))] [] []), [], .none⟩, ⟨(.some 22), .none, (.mov (.tmp 27)), [], .none⟩, ⟨(.some 28), .none, (.ext (.tmp 22) 0), [], .none⟩, ⟨(.some 29), .none, (.ext (.tmp 22) 1), [], .none⟩, ⟨(.some 30), .none, (.ext (.tmp 22) 2), [], .none⟩, ⟨(.some 4), .none, (.alloc 529 (.st [528, 1] [(.arr 66 (List.replicate 8 (.st [1, 1, 32, 32] [(.lit (.bool .false)), (.lit (.bool .false)), (.arr 1 (List.replicate 32 (.lit (bn 0)))), (.arr 1 (List.replicate 32 (.lit (bn 0))))]))), (.lit (.slice .none 0 0))])), [], .none⟩, ⟨.none, .none, (.store 529 (.tmp 4) (.tmp 28)), [], .none⟩, ⟨(.some 5), .none, (.mov (.tmp 29)), [], .none⟩, ⟨(.some 6), .none, (.mov (.tmp 30)), [], .none⟩]) (.seq (.reg [⟨(.some 31), .none, (.mov (.tmp 5)), [], .none⟩, ⟨(.some 32), .none, (.faddr 69 7 (.tmp 3)), [], .none⟩, ⟨.none, .none, (.store 1 (.tmp 32) (.tmp 31)), [], .none⟩]) (.seq (.reg [⟨(.some 34), .none, (.load .true 1 (.tmp 1)), [], .none⟩, ⟨(.some 35), .none, (.rdp (.mkifc 26) [(.tmp 34)]), [], .none⟩, ⟨(.some 36), .none, (.load .true 529 (.tmp 2)), [], .none⟩, ⟨(.some 37), .none, (.load .true 71 (.tmp 3)), [], .none⟩, ⟨(.some 38), .none, (.xc (.dir 11) [(.tmp 35), (.tmp 36), (.tmp 37)] [] []), [], .none⟩, ⟨(.some 33), .none, (.mov (.tmp 38)), [], .none⟩, ⟨(.some 39), .none, (.ext (.tmp 33) 0), [], .none⟩, ⟨(.some 40), .none, (.ext (.tmp 33) 1), [], .none⟩, ⟨(.some 41), .none, (.ext (.tmp 33) 2), [], .none⟩, ⟨(.some 7), .none, (.alloc 529 (.st [528, 1] [(.arr 66 (List.replicate 8 (.st [1, 1, 32, 32] [(.lit (.bool .false)), (.lit (.bool .false)), (.arr 1 (List.replicate 32 (.lit (bn 0)))), (.arr 1 (List.replicate 32 (.lit (bn 0))))]))), (.lit (.slice .none 0 0))])), [], .none⟩, ⟨.none, .none, (.store 529 (.tmp 7) (.tmp 39)), [], .none⟩, ⟨(.some 8), .none, (.mov (.tmp 40)), [], .none⟩, ⟨(.some 9), .none, (.mov (.tmp 41)), [], .none⟩]) (.seq (.reg [⟨(.some 43), .none, (.load .true 1 (.tmp 1)), [], .none⟩, ⟨(.some 44), .none, (.rdp (.mkifc 26) [(.tmp 43)]), [], .none⟩, ⟨(.some 45), .none, (.load .true 529 (.tmp 7)), [], .none⟩, ⟨(.some 46), .none, (.load .true 71 (.tmp 3)), [], .none⟩, ⟨(.some 47), .none, (.xc (.dir 11) [(.tmp 44), (.tmp 45), (.tmp 46)] [] []), [], .none⟩, ⟨(.some 42), .none, (.mov (.tmp 47)), [], .none⟩, ⟨(.some 48), .none, (.ext (.tmp 42) 0), [], .none⟩, ⟨(.some 49), .none, (.ext (.tmp 42) 1), [], .none⟩, ⟨(.some 50), .none, (.ext (.tmp 42) 2), [], .none⟩, ⟨(.some 10), .none, (.alloc 529 (.st [528, 1] [(.arr 66 (List.replicate 8 (.st [1, 1, 32, 32] [(.lit (.bool .false)), (.lit (.bool .false)), (.arr 1 (List.replicate 32 (.lit (bn 0)))), (.arr 1 (List.replicate 32 (.lit (bn 0))))]))), (.lit (.slice .none 0 0))])), [], .none⟩, ⟨.none, .none, (.store 529 (.tmp 10) (.tmp 48)), [], .none⟩, ⟨(.some 11), .none, (.mov (.tmp 49)), [], .none⟩, ⟨(.some 12), .none, (.mov (.tmp 50)), [], .none⟩]) (.seq (.reg [⟨(.some 52), .none, (.load .true 1 (.tmp 1)), [], .none⟩, ⟨(.some 53), .none, (.rdp (.mkifc 26) [(.tmp 52)]), [], .none⟩, ⟨(.some 54), .none, (.build (.st [528, 1] [(.arr 66 (List.replicate 8 (.st [1, 1, 32, 32] [(.lit (.bool .false)), (.lit (.bool .false)), (.arr 1 (List.replicate 32 (.lit (bn 0)))), (.arr 1 (List.replicate 32 (.lit (bn 0))))]))), (.lit (.slice .none 0 0))]) []), [], .none⟩, ⟨(.some 55), .none, (.load .true 71 (.tmp 3)), [], .none⟩, ⟨(.some 56), .none, (.xc (.dir 11) [(.tmp 53), (.tmp 54), (.tmp 55)] [] []), [], .none⟩, ⟨(.some 51), .none, (.mov (.tmp 56)), [], .none⟩, ⟨(.some 57), .none, (.ext (.tmp 51) 0), [], .none⟩, ⟨(.some 58), .none, (.ext (.tmp 51) 1), [], .none⟩, ⟨(.some 59), .none, (.ext (.tmp 51) 2), [], .none⟩, ⟨(.some 13), .none, (.alloc 529 (.st [528, 1] [(.arr 66 (List.replicate 8 (.st [1, 1, 32, 32] [(.lit (.bool .false)), (.lit (.bool .false)), (.arr 1 (List.replicate 32 (.lit (bn 0)))), (.arr 1 (List.replicate 32 (.lit (bn 0))))]))), (.lit (.slice .none 0 0))])), [], .none⟩, ⟨.none, .none, (.store 529 (.tmp 13) (.tmp 57)), [], .none⟩, ⟨(.some 14), .none, (.mov (.tmp 58)), [], .none⟩, ⟨(.some 15), .none, (.mov (.tmp 59)), [], .none⟩]) (.seq (.reg [⟨(.some 60), .none, (.mov (.tmp 6)), [], .none⟩, ⟨(.some 61), .none, (.bin .eql (.tmp 60) (.const (jn 0))), [], .none⟩, ⟨(.some 62), .none, (.mov (.tmp 61)), [], .none⟩, ⟨(.some 63), (.some (62, .true)), (.mov (.tmp 9)), [], .none⟩, ⟨(.some 64), (.some (62, .true)), (.bin .eql (.tmp 63) (.const (jn 0))), [], .none⟩, ⟨(.some 65), .none, (.pick (.tmp 62) (.tmp 64) (.const (.bool .false))), [], .none⟩, ⟨(.some 66), .none, (.mov (.tmp 65)), [], .none⟩, ⟨(.some 67), (.some (66, .true)), (.mov (.tmp 8)), [], .none⟩, ⟨(.some 68), (.some (66, .true)), (.bin .eql (.tmp 67) (.const (tx [116, 101, 120, 116]))), [], .none⟩, ⟨(.some 69), .none, (.pick (.tmp 66) (.tmp 68) (.const (.bool .false))), [], .none⟩, ⟨(.some 70), .none, (.mov (.tmp 69)), [], .none⟩, ⟨(.some 71), (.some (70, .true)), (.faddr 0 0 (.tmp 4)), [], .none⟩, ⟨(.some 72), (.some (70, .true)), (.load .true 528 (.tmp 71)), [], .none⟩, ⟨(.some 73), (.some (70, .true)), (.faddr 0 0 (.tmp 7)), [], .none⟩, ⟨(.some 74), (.some (70, .true)), (.load .true 528 (.tmp 73)), [], .none⟩, ⟨(.some 75), (.some (70, .true)), (.eqv 32 .false (.tmp 72) (.tmp 74)), [], .none⟩, ⟨(.some 76), .none, (.pick (.tmp 70) (.tmp 75) (.const (.bool .false))), [], .none⟩, ⟨(.some 77), .none, (.mov (.tmp 76)), [], .none⟩, ⟨(.some 78), (.some (77, .true)), (.mov (.tmp 12)), [], .none⟩, ⟨(.some 79), (.some (77, .true)), (.bin .eql (.tmp 78) (.const (jn 2))), [], .none⟩, ⟨(.some 80), .none, (.pick (.tmp 77) (.tmp 79) (.const (.bool .false))), [], .none⟩, ⟨(.some 81), .none, (.mov (.tmp 80)), [], .none⟩, ⟨(.some 82), (.some (81, .true)), (.mov (.tmp 15)), [], .none⟩, ⟨(.some 83), (.some (81, .true)), (.bin .eql (.tmp 82) (.const (jn 18))), [], .none⟩, ⟨(.some 84), .none, (.pick (.tmp 81) (.tmp 83) (.const (.bool .false))), [], .none⟩, ⟨(.some 0), .none, (.mov (.tmp 84)), [], .none⟩]) .ret))))))))))
def fc510 : FC := ⟨0, 85, [(.tmp 0)], fb510⟩
theorem fc510_eq : compF Go.Proofs.Tryd.prog 5 = some fc510 := by kernel_rfl

theorem mkifc_free (b : Nat) (l : Nat × Nat) : rdA Go.Proofs.Tryd.prog (fun _ => none) (.mkifc 26) [freeS b l] = some (freeI b l) := by kernel_rfl
theorem freeS_sz (b : Nat) (l : Nat × Nat) : (freeS b l).sz = 1 := rfl
theorem freeS_agg (b : Nat) (l : Nat × Nat) : (freeS b l).isAgg = true := rfl
theorem freeS_tup (b : Nat) (l : Nat × Nat) : (freeS b l).isTup = false := rfl
theorem tgt_cseal (x y z u : AV) : tgtA Go.Proofs.Tryd.prog (.dir 10) [x, y, z, u] = some (10, [x, y, z, u]) := by kernel_rfl
theorem tgt_copen (x y z : AV) : tgtA Go.Proofs.Tryd.prog (.dir 11) [x, y, z] = some (11, [x, y, z]) := by kernel_rfl

theorem hitD {n : Nat} (hn : n < 100) (m : List UInt8) : ∀ x ∈ numsV (sayO n m), PCall Go.Proofs.Tryd.prog 39 [.lit (ji x)] (.val (.lit (tx (itD x)))) := fun x hx => by
  have hx' : x = 7 ∨ x = 1 ∨ x = (n : Int) := by simpa [numsV, sayO] using hx
  rcases hx' with rfl | rfl | rfl
  · exact itoa_call 7 (by omega)
  · exact itoa_call 1 (by omega)
  · exact itoa_call n hn

def ratL (c : List UInt8) : List AV := [r0A, .st [1, 1, 32, 32] [.lit (.bool true), .lit (.bool false), keyA key2, keyA c], r0A, r0A, r0A, r0A, r0A, r0A]
theorem ratL_len (c : List UInt8) : (ratL c).length = 8 := rfl
theorem ratL_ok {c : List UInt8} (hc : c.length = 32) : ∀ v ∈ ratL c, RatOk v := fun v hv => by
  simp only [ratL, List.mem_cons, List.not_mem_nil, or_false] at hv
  rcases hv with rfl | rfl | rfl | rfl | rfl | rfl | rfl | rfl
  any_goals exact r0A_ok
  exact ⟨true, false, key2, c, rfl, hc, rfl⟩
theorem say_boxes (n : Nat) (m : List UInt8) : ∀ b ∈ (sayO n m).boxes, b.body.length < 9223372036854775808 := fun b hb => by
  simp only [sayO, List.mem_singleton] at hb
  subst hb
  simp
theorem cseal_k {H : List (Option Blk)} {t : Tb} {V0 : Value} {ts0 ts : List Term} (hh : TbOk H t V0 ts0) (hn : ts.length + 10 < 100000) {n : Nat} (h0 : 0 < n) (h1 : n < 100) {c s : List UInt8} (hc : c.length = 32) (hs : s.length ≤ 64) {m : List UInt8} (hm : m.length < 100000) :
    KC Go.Proofs.Tryd.prog 10 [freeI t.b t.l, ksA (ratL c) [], opA (sayO n m), .lit (tx s)] H t ts (.tup [ksA (ratL (nextV ts c).1.2) [], .lit (tx (msgV itD ts (sayO n []) c s).1), .lit (jn 0)]) (msgV itD ts (sayO n []) c s).2 :=
  KC.of hh fun H V h => cseal_call h hn (sayO_ok h1 (by omega)) (say_boxes n m) (by simp [sayO]) (by simp [sayO]) (hitD h1 m) (fun x _ => itD_len x) (sayO_says h0 (m := txX) (by simp [txX]) (by simp [txX])) (w := 1) rfl (ratL_len c) (op := false) (k := key2) rfl hc rfl (by simp) hs
theorem copen_k {H : List (Option Blk)} {t : Tb} {V0 : Value} {ts0 ts : List Term} (hh : TbOk H t V0 ts0) (hts : TsOk ts) (hn : ts.length + 10 < 90000) {n : Nat} (h0 : 0 < n) (h1 : n < 100) {c : List UInt8} (hc : c.length = 32) {m : List UInt8} (hm : m.length = 32) :
    KC Go.Proofs.Tryd.prog 11 [freeI t.b t.l, ksA (ratL c) [], opA (sayO n m)] H t ts (readA (ratL (nextV ts c).1.2) [] (readV itD ts (sayO n m) c)) (byV itD (nextV ts c).2 (sayO n m)).2 :=
  have hsy := sayO_says h0 (m := m) (by omega) (by omega)
  have ho := sayO_ok h1 (m := m) (by omega)
  have hl := nextV_len ts c
  KC.of hh fun H V h => copen_call h (by omega) ho (say_boxes n m) (by simp [sayO]) (by simp [sayO]) (hitD h1 m) (fun x _ => itD_len x) hsy (w := 1) rfl (ratL_len c) (op := false) (k := key2) rfl hc rfl (by simp)
    (byV_ok (nextV_ok hts (by omega) hc) (by omega) ho (by simp [sayO]) (by simp [sayO]) (says_right hsy))
theorem copenN_k {H : List (Option Blk)} {t : Tb} {V0 : Value} {ts0 ts : List Term} (hh : TbOk H t V0 ts0) {n : Nat} (h0 : 0 < n) (h1 : n < 100) {m : List UInt8} (hm : m.length = 32) :
    KC Go.Proofs.Tryd.prog 11 [freeI t.b t.l, ks0, opA (sayO n m)] H t ts (.tup [ks0A, .lit (tx []), .lit (jn 18)]) ts :=
  have hsy := sayO_says h0 (m := m) (by omega) (by omega)
  have ho := sayO_ok h1 (m := m) (by omega)
  KC.args (vs' := [freeI t.b t.l, ks0A, opA (sayO n m)]) ⟨RelLe.refl _, RelLe.st ks0_le, RelLe.refl _, trivial⟩
    (KC.of hh fun H V h => copen_none h ho (say_boxes n m) hsy (w := 1) rfl rfl (op := false) (k := zk) (c := zk) zk_len zk_len rfl)

theorem known_eq (c : List UInt8) : keysA (knownR c) [] = ksA (ratL c) [] := rfl
theorem TsOk.nil' : TsOk [] := ⟨by simp, by simp, by simp, by simp⟩
set_option maxHeartbeats 32000000 in
theorem calive_call : PCall Go.Proofs.Tryd.prog 5 [] (.val (.lit (.bool true))) := by
  have h510 := fc510_eq
  have hc6 : callable Go.Proofs.Tryd.prog 6 = true := by kernel_rfl
  refine PCall.of h510 rfl ?_; show AC.wp _ fb510 (AS.init [] 0 85) (fun x s => match x with | .exit _ => False | _ => Fin [(.tmp 0)] s _); unfold fb510 AS.init
  refine wp_sr (by simp [push_cast]; exact rfl) ?_
  refine wp_sgL ?_
  refine areg_run 0 (by simp [push_cast]; exact rfl) ?_
  refine areg_xq (us := []) rfl (by simp only [tgtA, tgtB, Option.bind_some, hc6, if_true]) (newfree_call _) ⟨_, _, (0, 0), 0, rfl, rfl⟩ (fun r hp' _ t' ht' => by cases ht') ?_
  rintro r H' ⟨l, rr, rfl, rfl⟩
  refine areg_run 0 (by simp [push_cast]; exact rfl) ?_
  refine areg_al' rfl fun l1 => areg_end (by simp [push_cast, freeS_sz, freeS_agg, freeS_tup]; exact rfl) ?_
  refine wp_kit (n := 85) (Lo := [none, some (.box l1 1 (freeS 85 l))] ++ List.replicate 83 none) (fun N t => [.lit (.bool false), .ptr (N + 1) l1 0 []] ++ List.replicate 83 .any) (fun N t => [none, some (.box l1 1 (freeS t.b t.l))] ++ List.replicate 83 none) rfl ?_ ?_ fun N H t V hh hN => ?_
  · simp [leA, RelLe.refl', RelLe.ptr']
  · simp [leB, tbNew, BlkLe.freeS']
  have G1 : ∀ V' ts', (tbOf H t V' ts').length = N := fun V' ts' => by rw [tbOf_len, hN]
  have g1 : ∀ V' ts' L k, (tbOf H t V' ts' ++ L)[N + k]? = L[k]? := fun V' ts' L k => cat1 _ _ _ _ (G1 _ _)
  have g2 : ∀ V' ts' L k x, (tbOf H t V' ts' ++ L).set (N + k) x = tbOf H t V' ts' ++ L.set k x := fun V' ts' L k x => cat2 _ _ _ _ _ (G1 _ _)
  -- the chain's key
  have d1 := drawT_ok (s := [99]) (by decide)
  have hdk := draw_k hh (ts := []) (s := [99]) (by simp) (by decide)
  have p1 := putT_len [] (drawT [99])
  have q1 := TsOk.nil'.draw (s := [99]) (by decide) (by simp)
  have nm1 := Nm.put [] (drawT [99])
  have hch : ChOk (putT [] (drawT [99])) (nameK (putN [] (drawT [99]))) := ⟨_, d1, nm1, by simp [drawT, sT2]⟩
  simp only [List.length_nil] at p1
  generalize nameK (putN [] (drawT [99])) = c at *
  generalize putT [] (drawT [99]) = ts1 at *
  have hc32 := hch.len
  have ck := known_call hc32
  have cs := say_call (n := 1) (by omega)
  rw [known_eq] at ck
  refine wp_sg ?_
  refine areg_run 2 (by simp [push_cast, g1, freeS]; exact rfl) ?_
  refine areg_xc (vs := [.ptr t.b t.l 0 [], .lit (tx [99])]) rfl (hdk _ _) ⟨_, _, rfl, .slice none 0 0, rfl⟩ ?_
  rintro r H' ⟨rfl, V1, rfl⟩
  refine areg_ca (by simp [AS.ev, AS.coe, AS.put] <;> exact rfl) ck ?_
  refine areg_al' (z' := ks0) rfl fun l2 => areg_end (by simp [push_cast, g1, g2, ksA]; exact rfl) ?_
  -- what is said, sealed, read
  obtain ⟨s, hs⟩ : ∃ s : List UInt8, s = [116, 101, 120, 116] := ⟨_, rfl⟩
  have hsl : s.length ≤ 64 := by rw [hs]; decide
  have htx : tx [116, 101, 120, 116] = tx s := by rw [hs]
  obtain ⟨m, us, hm⟩ : ∃ m us, msgV itD ts1 (sayO 1 []) c s = (m, us) := ⟨_, _, rfl⟩
  obtain ⟨d, hd⟩ : ∃ d, (nextV ts1 c).1.2 = d := ⟨_, rfl⟩
  obtain ⟨w1, w2, w3, w4, w5, w6, w7, w8, w9⟩ := talk_law q1 (by omega) hch (n := 1) (by omega) (by omega) hsl hm hd
  have hd32 := w8.len
  have k1 := cseal_k hh (ts := ts1) (by omega) (n := 1) (by omega) (by omega) hc32 hsl (m := []) (by simp)
  have k2 := copen_k hh w3 (by omega) (n := 1) (by omega) (by omega) hc32 w1
  have k3 := copen_k hh w3 (by omega) (n := 1) (by omega) (by omega) hd32 w1
  have k4 := copenN_k hh (ts := (byV itD (nextV us d).2 (sayO 1 m)).2) (n := 1) (by omega) (by omega) w1
  have hq := eq_rats (ratL_len d) (ratL_ok hd32)
  rw [hm, hd] at k1
  rw [w5, w6, w7] at k2
  rw [w9] at k3
  simp only [readA] at k1 k2 k3
  generalize (byV itD (nextV us d).2 (sayO 1 m)).2 = us2 at *
  refine wp_sg ?_
  refine areg_ca (by simp [AS.ev, AS.coe, AS.put] <;> exact rfl) cs ?_
  refine areg_al' rfl fun l3 => areg_end (by simp [push_cast, g1, g2, opA, sayO]; exact rfl) ?_
  refine wp_sg ?_
  refine areg_run 1 (by simp [push_cast, g1, freeS_sz, freeS_agg, freeS_tup]; exact rfl) ?_
  refine areg_rdp (us := [freeS t.b t.l]) rfl (mkifc_free _ _) ?_
  refine areg_run 2 (by simp [push_cast, g1, zk_len]; exact rfl) ?_
  rw [htx]
  refine areg_k [freeI t.b t.l, ksA (ratL c) [], opA (sayO 1 []), .lit (tx s)] hN rfl (tgt_cseal _ _ _ _) k1 (by simp) (by simp) fun V2 => ?_
  refine areg_run 4 (by simp [push_cast]; exact rfl) ?_
  refine areg_al' (z' := ks0) rfl fun l4 => areg_end (by simp [push_cast, g1, g2, ksA]; exact rfl) ?_
  refine wp_sg (areg_end (by simp [push_cast, g1, g2, zk_len]; exact rfl) ?_)
  refine wp_sg ?_
  refine areg_run 1 (by simp [push_cast, g1, freeS_sz, freeS_agg, freeS_tup]; exact rfl) ?_
  refine areg_rdp (us := [freeS t.b t.l]) rfl (mkifc_free _ _) ?_
  refine areg_run 2 (by simp [push_cast, g1, zk_len]; exact rfl) ?_
  refine areg_k [freeI t.b t.l, ksA (ratL c) [], opA (sayO 1 m)] hN rfl (tgt_copen _ _ _) k2 (by simp) (by simp) fun V3 => ?_
  refine areg_run 4 (by simp [push_cast]; exact rfl) ?_
  refine areg_al' (z' := ks0) rfl fun l7 => areg_end (by simp [push_cast, g1, g2, ksA]; exact rfl) ?_
  refine wp_sg ?_
  refine areg_run 1 (by simp [push_cast, g1, freeS_sz, freeS_agg, freeS_tup]; exact rfl) ?_
  refine areg_rdp (us := [freeS t.b t.l]) rfl (mkifc_free _ _) ?_
  refine areg_run 2 (by simp [push_cast, g1, zk_len]; exact rfl) ?_
  refine areg_k [freeI t.b t.l, ksA (ratL d) [], opA (sayO 1 m)] hN rfl (tgt_copen _ _ _) k3 (by simp) (by simp) fun V4 => ?_
  refine areg_run 4 (by simp [push_cast]; exact rfl) ?_
  refine areg_al' (z' := ks0) rfl fun l10 => areg_end (by simp [push_cast, g1, g2, ks0A, ksA]; exact rfl) ?_
  refine wp_sg ?_
  refine areg_run 1 (by simp [push_cast, g1, freeS_sz, freeS_agg, freeS_tup]; exact rfl) ?_
  refine areg_rdp (us := [freeS t.b t.l]) rfl (mkifc_free _ _) ?_
  refine areg_bd (z' := ks0) rfl ?_
  refine areg_run 1 (by simp [push_cast, g1, zk_len]; exact rfl) ?_
  refine areg_k [freeI t.b t.l, ks0, opA (sayO 1 m)] hN rfl (tgt_copen _ _ _) k4 (by simp) (by simp) fun V5 => ?_
  refine areg_run 4 (by simp [push_cast]; exact rfl) ?_
  refine areg_al' (z' := ks0) rfl fun l13 => areg_end (by simp [push_cast, g1, g2, ks0A, ksA]; exact rfl) ?_
  refine wp_sg ?_
  refine areg_run 15 (by simp [push_cast, g1]; exact rfl) ?_
  refine areg_g (by simp [AS.ev, AS.put]) (areg_eq (by simp [AS.ev, AS.put] <;> exact rfl) (by simp [AS.ev, AS.put] <;> exact rfl) hq rfl rfl ?_)
  refine areg_end (by simp [push_cast]; exact rfl) (wp_ret' ?_)
  exact fin_tmp (by simp [RVal, AS.ev, AS.coe]) (by simp)
end Go.Cab

/- Chain's laws: ChainTalks walked. -/
-- TEXTS
-- KIT
namespace Go.Cab
open Go.RowKit
open Classical
def fb500 : AC := (.seq (.reg [⟨(.some 2), .none, (.mov (.const (.bool .false))), [], .none⟩]) (.seq (.seq (.reg [⟨(.some 17), .none, (.call 5 []), [], .none⟩, ⟨(.some 18), .none, (.un .not (.tmp 17)), [], .none⟩]) (.cond (.tmp 18) (.seq (.reg [⟨(.some 2), .none, (.mov (.const (.bool .false))), [], .none⟩]) .ret) .skip)) (.seq (.reg [⟨(.some 19), .none, (.xc (.dir 6) [] [] []), [], .none⟩, ⟨(.some 3), .none, (.alloc 1 (.st [1] [(.lit (.pointer .none))])), [], .none⟩, ⟨.none, .none, (.store 1 (.tmp 3) (.tmp 19)), [], .none⟩]) (.seq (.reg [⟨(.some 20), .none, (.faddr 0 0 (.tmp 3)), [], .none⟩, ⟨(.some 21), .none, (.load .false 1 (.tmp 20)), [4, 5], (.some 3)⟩, ⟨(.some 22), .none, (.xc (.dir 8) [(.tmp 21), (.const (tx [99]))] [3] [4, 5]), [], .none⟩, ⟨(.some 23), .none, (.callv 7 [(.tmp 22)]), [4, 5], .none⟩, ⟨(.some 24), .none, (.faddr 0 0 (.tmp 3)), [], .none⟩, ⟨(.some 25), .none, (.load .false 1 (.tmp 24)), [4, 5, 4], (.some 3)⟩, ⟨(.some 26), .none, (.xc (.dir 8) [(.tmp 25), (.const (tx [99]))] [] [4, 5]), [], .none⟩, ⟨(.some 27), .none, (.callv 7 [(.tmp 26)]), [4, 5], (.some 1000000)⟩, ⟨(.some 4), .none, (.alloc 529 (.st [528, 1] [(.arr 66 (List.replicate 8 (.st [1, 1, 32, 32] [(.lit (.bool .false)), (.lit (.bool .false)), (.arr 1 (List.replicate 32 (.lit (bn 0)))), (.arr 1 (List.replicate 32 (.lit (bn 0))))]))), (.lit (.slice .none 0 0))])), [], .none⟩, ⟨(.some 5), .none, (.alloc 529 (.st [528, 1] [(.arr 66 (List.replicate 8 (.st [1, 1, 32, 32] [(.lit (.bool .false)), (.lit (.bool .false)), (.arr 1 (List.replicate 32 (.lit (bn 0)))), (.arr 1 (List.replicate 32 (.lit (bn 0))))]))), (.lit (.slice .none 0 0))])), [], .none⟩, ⟨.none, .none, (.store 529 (.tmp 4) (.tmp 23)), [], (.some 4)⟩, ⟨.none, .none, (.store 529 (.tmp 5) (.tmp 27)), [], .none⟩]) (.seq (.seq (.reg [⟨(.some 6), .none, (.mov (.const (jn 0))), [], .none⟩]) (.block 0 (.loop (.seq (.seq (.reg [⟨(.some 28), .none, (.mov (.tmp 6)), [], .none⟩, ⟨(.some 29), .none, (.mov (.tmp 0)), [], .none⟩, ⟨(.some 30), .none, (.len .false (.tmp 29)), [], .none⟩, ⟨(.some 31), .none, (.bin .lss (.tmp 28) (.tmp 30)), [], .none⟩, ⟨(.some 32), .none, (.mov (.tmp 31)), [], .none⟩, ⟨(.some 33), (.some (32, .true)), (.mov (.tmp 6)), [], .none⟩, ⟨(.some 34), (.some (32, .true)), (.bin .lss (.tmp 33) (.const (jn 30))), [], .none⟩, ⟨(.some 35), .none, (.pick (.tmp 32) (.tmp 34) (.const (.bool .false))), [], .none⟩]) (.cond (.tmp 35) .skip (.exit 0))) (.seq (.block 1 (.seq (.reg [⟨(.some 38), .none, (.mov (.tmp 6)), [], .none⟩, ⟨(.some 39), .none, (.bin .add (.tmp 38) (.const (jn 1))), [], .none⟩, ⟨(.some 40), .none, (.cvt .u32 (.tmp 39)), [], .none⟩, ⟨(.some 41), .none, (.call 9 [(.tmp 40)]), [], .none⟩, ⟨(.some 7), .none, (.alloc 71 (.st [1, 1, 1, 1, 1, 32, 32, 1, 1] [(.lit (jn 0)), (.lit (wn 0)), (.lit (.slice .none 0 0)), (.lit (jn 0)), (.lit (.slice .none 0 0)), (.arr 1 (List.replicate 32 (.lit (bn 0)))), (.arr 1 (List.replicate 32 (.lit (bn 0)))), (.lit (tx [])), (.lit (.slice .none 0 0))])), [], .none⟩, ⟨.none, .none, (.store 71 (.tmp 7) (.tmp 41)), [], .none⟩]) (.seq (.reg [⟨(.some 43), .none, (.load .true 1 (.tmp 3)), [8], (.some 3)⟩, ⟨(.some 44), .none, (.rdp (.mkifc 26) [(.tmp 43)]), [], .none⟩, ⟨(.some 45), .none, (.load .true 529 (.tmp 4)), [8], .none⟩, ⟨(.some 46), .none, (.load .true 71 (.tmp 7)), [8], .none⟩, ⟨(.some 47), .none, (.mov (.tmp 0)), [], .none⟩, ⟨(.some 48), .none, (.mov (.tmp 6)), [], .none⟩, ⟨(.some 49), .none, (.iaddrS 1 (.tmp 47) (.tmp 48)), [8], (.some 0)⟩, ⟨(.some 50), .none, (.load .false 1 (.tmp 49)), [8], .none⟩, ⟨(.some 51), .none, (.xc (.dir 10) [(.tmp 44), (.tmp 45), (.tmp 46), (.tmp 50)] [] [8]), [], .none⟩, ⟨(.some 42), .none, (.mov (.tmp 51)), [], .none⟩, ⟨(.some 52), .none, (.ext (.tmp 42) 0), [], .none⟩, ⟨(.some 53), .none, (.ext (.tmp 42) 1), [], .none⟩, ⟨(.some 54), .none, (.ext (.tmp 42) 2), [], .none⟩, ⟨(.some 8), .none, (.alloc 529 (.st [528, 1] [(.arr 66 (List.replicate 8 (.st [1, 1, 32, 32] [(.lit (.bool .false)), (.lit (.bool .false)), (.arr 1 (List.replicate 32 (.lit (bn 0)))), (.arr 1 (List.replicate 32 (.lit (bn 0))))]))), (.lit (.slice .none 0 0))])), [], .none⟩, ⟨.none, .none, (.store 529 (.tmp 8) (.tmp 52)), [], .none⟩, ⟨(.some 9), .none, (.mov (.tmp 53)), [], .none⟩, ⟨(.some 10), .none, (.mov (.tmp 54)), [], .none⟩]) (.seq (.seq (.reg [⟨(.some 55), .none, (.mov (.tmp 0)), [], .none⟩, ⟨(.some 56), .none, (.mov (.tmp 6)), [], .none⟩, ⟨(.some 57), .none, (.iaddrS 1 (.tmp 55) (.tmp 56)), [], .none⟩, ⟨(.some 58), .none, (.load .false 1 (.tmp 57)), [], .none⟩, ⟨(.some 59), .none, (.len .true (.tmp 58)), [], .none⟩, ⟨(.some 60), .none, (.bin .gtr (.tmp 59) (.const (jn 64))), [], .none⟩]) (.cond (.tmp 60) (.seq (.seq (.reg [⟨(.some 61), .none, (.mov (.tmp 10)), [], .none⟩, ⟨(.some 62), .none, (.bin .neq (.tmp 61) (.const (jn 1))), [], .none⟩, ⟨(.some 63), .none, (.mov (.tmp 62)), [], .none⟩, ⟨(.some 64), (.some (63, .false)), (.mov (.tmp 9)), [], .none⟩, ⟨(.some 65), (.some (63, .false)), (.bin .neq (.tmp 64) (.const (tx []))), [], .none⟩, ⟨(.some 66), .none, (.pick (.tmp 63) (.const (.bool .true)) (.tmp 65)), [], .none⟩]) (.cond (.tmp 66) (.seq (.reg [⟨(.some 2), .none, (.mov (.const (.bool .false))), [], .none⟩]) .ret) .skip)) (.exit 1)) .skip)) (.seq (.reg [⟨(.some 67), .none, (.mov (.tmp 9)), [], .none⟩, ⟨(.some 68), .none, (.faddr 69 7 (.tmp 7)), [], .none⟩, ⟨.none, .none, (.store 1 (.tmp 68) (.tmp 67)), [], .none⟩]) (.seq (.reg [⟨(.some 70), .none, (.load .true 1 (.tmp 3)), [], .none⟩, ⟨(.some 71), .none, (.rdp (.mkifc 26) [(.tmp 70)]), [], .none⟩, ⟨(.some 72), .none, (.load .true 529 (.tmp 5)), [], .none⟩, ⟨(.some 73), .none, (.load .true 71 (.tmp 7)), [], .none⟩, ⟨(.some 74), .none, (.xc (.dir 11) [(.tmp 71), (.tmp 72), (.tmp 73)] [] []), [], .none⟩, ⟨(.some 69), .none, (.mov (.tmp 74)), [], .none⟩, ⟨(.some 75), .none, (.ext (.tmp 69) 0), [], .none⟩, ⟨(.some 76), .none, (.ext (.tmp 69) 1), [], .none⟩, ⟨(.some 77), .none, (.ext (.tmp 69) 2), [], .none⟩, ⟨(.some 11), .none, (.alloc 529 (.st [528, 1] [(.arr 66 (List.replicate 8 (.st [1, 1, 32, 32] [(.lit (.bool .false)), (.lit (.bool .false)), (.arr 1 (List.replicate 32 (.lit (bn 0)))), (.arr 1 (List.replicate 32 (.lit (bn 0))))]))), (.lit (.slice .none 0 0))])), [], .none⟩, ⟨.none, .none, (.store 529 (.tmp 11) (.tmp 75)), [], .none⟩, ⟨(.some 12), .none, (.mov (.tmp 76)), [], .none⟩, ⟨(.some 13), .none, (.mov (.tmp 77)), [], .none⟩]) (.seq (.reg [⟨(.some 79), .none, (.load .true 1 (.tmp 3)), [], .none⟩, ⟨(.some 80), .none, (.rdp (.mkifc 26) [(.tmp 79)]), [], .none⟩, ⟨(.some 81), .none, (.load .true 529 (.tmp 11)), [], .none⟩, ⟨(.some 82), .none, (.load .true 71 (.tmp 7)), [], .none⟩, ⟨(.some 83), .none, (.xc (.dir 11) [(.tmp 80), (.tmp 81), (.tmp 82)] [] []), [], .none⟩, ⟨(.some 78), .none, (.mov (.tmp 83)), [], .none⟩, ⟨(.some 84), .none, (.ext (.tmp 78) 0), [], .none⟩, ⟨(.some 85), .none, (.ext (.tmp 78) 1), [], .none⟩, ⟨(.some 86), .none, (.ext (.tmp 78) 2), [], .none⟩, ⟨(.some 14), .none, (.alloc 529 (.st [528, 1] [(.arr 66 (List.replicate 8 (.st [1, 1, 32, 32] [(.lit (.bool .false)), (.lit (.bool .false)), (.arr 1 (List.replicate 32 (.lit (bn 0)))), (.arr 1 (List.replicate 32 (.lit (bn 0))))]))), (.lit (.slice .none 0 0))])), [], .none⟩, ⟨.none, .none, (.store 529 (.tmp 14) (.tmp 84)), [], .none⟩, ⟨(.some 15), .none, (.mov (.tmp 85)), [], .none⟩, ⟨(.some 16), .none, (.mov (.tmp 86)), [], .none⟩]) (.seq (.seq (.reg [⟨(.some 87), .none, (.mov (.tmp 10)), [], .none⟩, ⟨(.some 88), .none, (.bin .neq (.tmp 87) (.const (jn 0))), [], .none⟩, ⟨(.some 89), .none, (.mov (.tmp 88)), [], .none⟩, ⟨(.some 90), (.some (89, .false)), (.mov (.tmp 13)), [], .none⟩, ⟨(.some 91), (.some (89, .false)), (.bin .neq (.tmp 90) (.const (jn 0))), [], .none⟩, ⟨(.some 92), .none, (.pick (.tmp 89) (.const (.bool .true)) (.tmp 91)), [], .none⟩, ⟨(.some 93), .none, (.mov (.tmp 92)), [], .none⟩, ⟨(.some 94), (.some (93, .false)), (.mov (.tmp 12)), [], .none⟩, ⟨(.some 95), (.some (93, .false)), (.mov (.tmp 0)), [], .none⟩, ⟨(.some 96), (.some (93, .false)), (.mov (.tmp 6)), [], .none⟩, ⟨(.some 97), (.some (93, .false)), (.iaddrS 1 (.tmp 95) (.tmp 96)), [], .none⟩, ⟨(.some 98), (.some (93, .false)), (.load .false 1 (.tmp 97)), [], .none⟩, ⟨(.some 99), (.some (93, .false)), (.bin .neq (.tmp 94) (.tmp 98)), [], .none⟩, ⟨(.some 100), .none, (.pick (.tmp 93) (.const (.bool .true)) (.tmp 99)), [], .none⟩, ⟨(.some 101), .none, (.mov (.tmp 100)), [], .none⟩, ⟨(.some 102), (.some (101, .false)), (.mov (.tmp 16)), [], .none⟩, ⟨(.some 103), (.some (101, .false)), (.bin .neq (.tmp 102) (.const (jn 2))), [], .none⟩, ⟨(.some 104), .none, (.pick (.tmp 101) (.const (.bool .true)) (.tmp 103)), [], .none⟩, ⟨(.some 105), .none, (.mov (.tmp 104)), [], .none⟩, ⟨(.some 106), (.some (105, .false)), (.faddr 0 0 (.tmp 8)), [], .none⟩, ⟨(.some 107), (.some (105, .false)), (.load .true 528 (.tmp 106)), [], .none⟩, ⟨(.some 108), (.some (105, .false)), (.faddr 0 0 (.tmp 11)), [], .none⟩, ⟨(.some 109), (.some (105, .false)), (.load .true 528 (.tmp 108)), [], .none⟩, ⟨(.some 110), (.some (105, .false)), (.eqv 32 .true (.tmp 107) (.tmp 109)), [], .none⟩, ⟨(.some 111), .none, (.pick (.tmp 105) (.const (.bool .true)) (.tmp 110)), [], .none⟩]) (.cond (.tmp 111) (.seq (.reg [⟨(.some 2), .none, (.mov (.const (.bool .false))), [], .none⟩]) .ret) .skip)) (.seq (.reg [⟨(.some 112), .none, (.load .true 529 (.tmp 8)), [], .none⟩, ⟨.none, .none, (.store 529 (.tmp 4) (.tmp 112)), [], .none⟩]) (.reg [⟨(.some 113), .none, (.load .true 529 (.tmp 11)), [], .none⟩, ⟨.none, .none, (.store 529 (.tmp 5) (.tmp 113)), [], .none⟩])))))))))) (.reg [⟨(.some 36), .none, (.mov (.tmp 6)), [], .none⟩, ⟨(.some 37), .none, (.bin .add (.tmp 36) (.const (jn 1))), [], .none⟩, ⟨(.some 6), .none, (.mov (.tmp 37)), [], .none⟩])))))) (.seq (.reg [⟨(.some 114), .none, (.call 5 []), [], .none⟩, ⟨(.some 2), .none, (.mov (.tmp 114)), [], .none⟩]) .ret))))))
def fc500 : FC := ⟨1, 115, [(.tmp 2)], fb500⟩
theorem fc500_eq : compF Go.Proofs.Tryd.prog 3 = some fc500 := by kernel_rfl

theorem tgt_drawD (b : Nat) (l : Nat × Nat) (x : AV) : tgtA Go.Proofs.Tryd.prog (.dir 8) [.ptr b l 0 [], x] = some (8, [.ptr b l 0 [], x]) := by kernel_rfl
def ctS (N : Nat) (H : List (Option Blk)) (t : Tb) (T : List AV) (l3 l4 l5 : Nat × Nat) (x : Nat × List UInt8 × List Term × Value) : AS :=
  ⟨N, [.sl 1 T, .any, .lit (.bool false), .ptr (N + 3) l3 0 [], .ptr (N + 4) l4 0 [], .ptr (N + 5) l5 0 [], .lit (jn x.1)] ++ List.replicate 108 .any,
    tbOf H t x.2.2.2 x.2.2.1 ++ ([none, none, none, some (.box l3 1 (freeS t.b t.l)), some (.box l4 529 (.st [528, 1] [.arr 66 (ratL x.2.1), .sl 65 []])), some (.box l5 529 (.st [528, 1] [.arr 66 (ratL x.2.1), .sl 65 []]))] ++ List.replicate 109 none)⟩

set_option maxHeartbeats 64000000 in
theorem chainTalks_call (texts : List (List UInt8)) (hT : texts.length < 9223372036854775808) (ht : ∀ s ∈ texts, s.length < 9223372036854775808) : PCall Go.Proofs.Tryd.prog 3 [.sl 1 (texts.map fun s => .lit (tx s))] (.val (.lit (.bool true))) := by
  have h500 := fc500_eq
  have hc6 : callable Go.Proofs.Tryd.prog 6 = true := by kernel_rfl
  have al := calive_call
  have hTl : (texts.map fun s => AV.lit (tx s)).length = texts.length := List.length_map _
  have hTg : ∀ i s, texts[i]? = some s → (texts.map fun s => AV.lit (tx s))[i]? = some (AV.lit (tx s)) := fun i s h => by rw [List.getElem?_map, h]; rfl
  generalize (texts.map fun s => AV.lit (tx s)) = T at *
  refine PCall.of h500 rfl ?_; show AC.wp _ fb500 (AS.init [.sl 1 T] 1 115) (fun x s => match x with | .exit _ => False | _ => Fin [(.tmp 2)] s _); unfold fb500 AS.init
  refine wp_sr (by simp [push_cast]; exact rfl) ?_
  refine wp_seq' (wp_seq' (wp_rg ?_))
  refine areg_ca (by simp [AS.ev, AS.coe, AS.put] <;> exact rfl) al ?_
  refine areg_end (by simp [push_cast]; exact rfl) ?_
  refine wp_cond_f rfl (wp_skip' ?_)
  refine wp_sgL ?_
  refine areg_run 0 (by simp [push_cast]; exact rfl) ?_
  refine areg_xq (us := []) rfl (by simp only [tgtA, tgtB, Option.bind_some, hc6, if_true]) (newfree_call _) ⟨_, _, (0, 0), 0, rfl, rfl⟩ (fun r hp' _ t' ht' => by cases ht') ?_
  rintro r H' ⟨l, rr, rfl, rfl⟩
  refine areg_run 0 (by simp [push_cast]; exact rfl) ?_
  refine areg_al' rfl fun l3 => areg_end (by simp [push_cast, freeS_sz, freeS_agg, freeS_tup]; exact rfl) ?_
  refine wp_kit (n := 115) (Lo := [none, none, none, some (.box l3 1 (freeS 115 l))] ++ List.replicate 111 none) (fun N t => [.sl 1 T, .any, .lit (.bool false), .ptr (N + 3) l3 0 []] ++ List.replicate 111 .any) (fun N t => [none, none, none, some (.box l3 1 (freeS t.b t.l))] ++ List.replicate 111 none) rfl ?_ ?_ fun N H t V hh hN => ?_
  · simp [leA, RelLe.refl', RelLe.ptr']
  · simp [leB, tbNew, BlkLe.freeS']
  have G1 : ∀ V' ts', (tbOf H t V' ts').length = N := fun V' ts' => by rw [tbOf_len, hN]
  have g1 : ∀ V' ts' L k, (tbOf H t V' ts' ++ L)[N + k]? = L[k]? := fun V' ts' L k => cat1 _ _ _ _ (G1 _ _)
  have g2 : ∀ V' ts' L k x, (tbOf H t V' ts' ++ L).set (N + k) x = tbOf H t V' ts' ++ L.set k x := fun V' ts' L k x => cat2 _ _ _ _ _ (G1 _ _)
  have d1 := drawT_ok (s := [99]) (by decide)
  have hdk := draw_k hh (ts := []) (s := [99]) (by simp) (by decide)
  have p1 := putT_len [] (drawT [99])
  have q1 := TsOk.nil'.draw (s := [99]) (by decide) (by simp)
  have nm1 := Nm.put [] (drawT [99])
  have hdk2 := draw_k hh (ts := putT [] (drawT [99])) (s := [99]) (by simp at p1; omega) (by decide)
  rw [nm1.putT, nm1.putN] at hdk2
  have hch : ChOk (putT [] (drawT [99])) (nameK (putN [] (drawT [99]))) := ⟨_, d1, nm1, by simp [drawT, sT2]⟩
  simp only [List.length_nil] at p1
  generalize nameK (putN [] (drawT [99])) = c at *
  generalize putT [] (drawT [99]) = ts1 at *
  have ck := known_call hch.len
  rw [known_eq] at ck
  refine wp_sg ?_
  refine areg_run 2 (by simp [push_cast, g1, freeS]; exact rfl) ?_
  refine areg_k [.ptr t.b t.l 0 [], .lit (tx [99])] hN rfl (tgt_drawD _ _ _) hdk (by simp) (by simp [AS.ev, AV.place]) fun V1 => ?_
  refine areg_cv (by simp [AS.ev, AS.coe, AS.put] <;> exact rfl) ck ?_
  refine areg_run 2 (by simp [push_cast, g1, freeS]; exact rfl) ?_
  refine areg_k [.ptr t.b t.l 0 [], .lit (tx [99])] hN rfl (tgt_drawD _ _ _) hdk2 (by simp) (by simp [AS.ev, AV.place]) fun V2 => ?_
  refine areg_cv (by simp [AS.ev, AS.coe, AS.put] <;> exact rfl) ck ?_ (by intro p hp b V; simp at hp; subst hp; simp [AS.ev, AS.put, keyA])
  refine areg_al' (z' := ks0) rfl fun l4 => areg_al' (z' := ks0) rfl fun l5 => areg_end (by simp [push_cast, g1, g2, ksA]; exact rfl) ?_
  refine wp_seq' (wp_seq' (wp_r (by simp [push_cast]; exact rfl) ?_))
  refine wp_block' (wp_loop_m (ctS N H t T l3 l4 l5) (fun x => texts.length - x.1) (fun x => ChOk x.2.2.1 x.2.1 ∧ TsOk x.2.2.1 ∧ x.1 ≤ texts.length ∧ x.1 ≤ 30 ∧ x.2.2.1.length ≤ 1 + 10 * x.1) (0, c, ts1, V2) (Le.mk rfl (by simp [ctS, leT]) ?_) ⟨hch, q1, by simp, by simp, by simp; omega⟩ ?_)
  · simp only [ctS]
    exact leH_app (leH_refl _) (by simp [leH, freeS])
  clear hdk hdk2 hch q1 p1 nm1 ck
  clear c ts1 V1 V2
  rintro ⟨i, c, ts, V1⟩ ⟨hch, hts, hi, hi30, hlen⟩
  simp only at hch hts hi hi30 hlen ⊢
  unfold ctS
  simp only
  by_cases hlt : i < texts.length ∧ i < 30
  · obtain ⟨h1, h2⟩ := hlt
    obtain ⟨s, hsi⟩ : ∃ s, texts[i]? = some s := ⟨_, List.getElem?_eq_getElem h1⟩
    have hsm := ht s (List.mem_of_getElem? hsi)
    have e1 := hTg i s hsi
    have e2 : ∀ h, T[i]'h = AV.lit (tx s) := fun h => by rw [List.getElem?_eq_getElem h] at e1; exact Option.some.inj e1
    have q1 : i + 1 < 9223372036854775808 := by omega
    have cs := say_call (n := i + 1) (by omega)
    have hcv : cvtA .u32 (.lit (jn (i + 1))) = some (.lit (wn (i + 1))) := by simp only [cvtA, jn, wrap_u32]; rw [Nat.mod_eq_of_lt (by omega)]; rfl
    refine wp_seq' (wp_sr (by simp [push_cast, hTl, h1, h2]; exact rfl) ?_)
    refine wp_cond_t (by simp [AS.ev]) (wp_skip' ?_)
    refine wp_seq' (wp_block' (wp_sg ?_))
    refine areg_run 3 (by simp [push_cast, q1, hcv]; exact rfl) ?_
    refine areg_ca (by simp [AS.ev, AS.coe, AS.put] <;> exact rfl) cs ?_
    refine areg_al' rfl fun l7 => areg_end (by simp [push_cast, g1, g2, opA, sayO]; exact rfl) ?_
    refine wp_sg ?_
    refine areg_run 1 (by simp [push_cast, g1, freeS_sz, freeS_agg, freeS_tup]; exact rfl) ?_
    refine areg_rdp (us := [freeS t.b t.l]) rfl (mkifc_free _ _) ?_
    refine areg_run 6 (by simp [push_cast, g1, zk_len, h1, e1, e2, hTl]; exact rfl) ?_
    have hc32 := hch.len
    by_cases hs : 64 < s.length
    · have kl : KC Go.Proofs.Tryd.prog 10 [freeI t.b t.l, ksA (ratL c) [], opA (sayO (i + 1) []), .lit (tx s)] H t ts (.tup [ks0A, .lit (tx []), .lit (jn 1)]) ts := fun V L => XCall.mono (cseal_long (sayO_ok (by omega) (by simp)) (ratL_len c) hs) fun r H' hr => ⟨hr.1, V, hr.2⟩
      refine areg_k [freeI t.b t.l, ksA (ratL c) [], opA (sayO (i + 1) []), .lit (tx s)] hN rfl (tgt_cseal _ _ _ _) kl (by simp) (by simp [AS.ev, AV.place]) fun V2 => ?_
      refine areg_run 4 (by simp [push_cast]; exact rfl) ?_
      refine areg_al' (z' := ks0) rfl fun l8 => areg_end (by simp [push_cast, g1, g2, ks0A, ksA]; exact rfl) ?_
      refine wp_seq' (wp_sr (by simp [push_cast, hTl, h1, e1, e2, hs]; exact rfl) ?_)
      refine wp_cond_t (by simp [AS.ev]) (wp_seq' (wp_sr (by simp [push_cast]; exact rfl) ?_))
      refine wp_cond_f (by simp [AS.ev]) (wp_skip' (wp_exit' (if_hit rfl ?_)))
      refine wp_r (by simp [push_cast, q1]; exact rfl) ?_
      refine Exists.intro (i + 1, c, ts, V2) ⟨⟨hch, hts, by omega, by omega, by simp only; omega⟩, by simp only; omega, Le.mk rfl (by simp [leT]) ?_⟩
      exact leH_app (leH_refl _) (by simp [leH, freeS])
    · have hsl : s.length ≤ 64 := by omega
      obtain ⟨m, us, hm⟩ : ∃ m us, msgV itD ts (sayO (i + 1) []) c s = (m, us) := ⟨_, _, rfl⟩
      obtain ⟨d, hd⟩ : ∃ d, (nextV ts c).1.2 = d := ⟨_, rfl⟩
      obtain ⟨w1, w2, w3, w4, w5, w6, w7, w8, w9⟩ := talk_law hts (by omega) hch (n := i + 1) (by omega) (by omega) hsl hm hd
      have hd32 := w8.len
      have k1 := cseal_k hh (ts := ts) (by omega) (n := i + 1) (by omega) (by omega) hc32 hsl (m := []) (by simp)
      have k2 := copen_k hh w3 (by omega) (n := i + 1) (by omega) (by omega) hc32 w1
      have k3 := copen_k hh w3 (by omega) (n := i + 1) (by omega) (by omega) hd32 w1
      have hq := eq_rats (ratL_len d) (ratL_ok hd32)
      rw [hm, hd] at k1
      rw [w5, w6, w7] at k2
      rw [w9] at k3
      simp only [readA] at k1 k2 k3
      have hr2 := says_right (sayO_says (n := i + 1) (by omega) (m := m) (by omega) (by omega))
      have x5 := ((nextV_nm us d).2.2).trans (byV_nm (it := itD) (ts := (nextV us d).2) hr2).2
      have y1 := nextV_len us d
      have x6 := byV_ok (nextV_ok w3 (by omega) hd32) (by omega) (sayO_ok (n := i + 1) (by omega) (m := m) (by omega)) (by simp [sayO]) (by simp [sayO]) hr2
      have x7 := byV_len itD (nextV us d).2 (sayO (i + 1) m)
      have x8 := w8.mono x5
      generalize (byV itD (nextV us d).2 (sayO (i + 1) m)).2 = us2 at *
      refine areg_k [freeI t.b t.l, ksA (ratL c) [], opA (sayO (i + 1) []), .lit (tx s)] hN rfl (tgt_cseal _ _ _ _) k1 (by simp) (by simp [AS.ev, AV.place]) fun V2 => ?_
      refine areg_run 4 (by simp [push_cast]; exact rfl) ?_
      refine areg_al' (z' := ks0) rfl fun l8 => areg_end (by simp [push_cast, g1, g2, ksA]; exact rfl) ?_
      refine wp_seq' (wp_sr (by simp [push_cast, hTl, h1, e1, e2, hs]; exact rfl) ?_)
      refine wp_cond_f (by simp [AS.ev]) (wp_skip' ?_)
      refine wp_sg (areg_end (by simp [push_cast, g1, g2, zk_len]; exact rfl) ?_)
      refine wp_sg ?_
      refine areg_run 1 (by simp [push_cast, g1, freeS_sz, freeS_agg, freeS_tup]; exact rfl) ?_
      refine areg_rdp (us := [freeS t.b t.l]) rfl (mkifc_free _ _) ?_
      refine areg_run 2 (by simp [push_cast, g1, zk_len]; exact rfl) ?_
      refine areg_k [freeI t.b t.l, ksA (ratL c) [], opA (sayO (i + 1) m)] hN rfl (tgt_copen _ _ _) k2 (by simp) (by simp) fun V3 => ?_
      refine areg_run 4 (by simp [push_cast]; exact rfl) ?_
      refine areg_al' (z' := ks0) rfl fun l11 => areg_end (by simp [push_cast, g1, g2, ksA]; exact rfl) ?_
      refine wp_sg ?_
      refine areg_run 1 (by simp [push_cast, g1, freeS_sz, freeS_agg, freeS_tup]; exact rfl) ?_
      refine areg_rdp (us := [freeS t.b t.l]) rfl (mkifc_free _ _) ?_
      refine areg_run 2 (by simp [push_cast, g1, zk_len]; exact rfl) ?_
      refine areg_k [freeI t.b t.l, ksA (ratL d) [], opA (sayO (i + 1) m)] hN rfl (tgt_copen _ _ _) k3 (by simp) (by simp) fun V4 => ?_
      refine areg_run 4 (by simp [push_cast]; exact rfl) ?_
      refine areg_al' (z' := ks0) rfl fun l14 => areg_end (by simp [push_cast, g1, g2, ks0A, ksA]; exact rfl) ?_
      refine wp_seq' (wp_sg ?_)
      refine areg_run 23 (by simp [push_cast, g1, hTl, h1, e1, e2]; exact rfl) ?_
      refine areg_g (by simp [AS.ev, AS.put]) (areg_eq (by simp [AS.ev, AS.put] <;> exact rfl) (by simp [AS.ev, AS.put] <;> exact rfl) hq rfl rfl ?_)
      refine areg_end (by simp [push_cast]; exact rfl) ?_
      refine wp_cond_f (by simp [AS.ev]) (wp_skip' ?_)
      refine wp_sr (by simp [push_cast, g1, g2]; exact rfl) ?_
      refine wp_r (by simp [push_cast, g1, g2]; exact rfl) ?_
      refine wp_r (by simp [push_cast, q1]; exact rfl) ?_
      refine Exists.intro (i + 1, d, us2, V4) ⟨⟨x8, x6, by omega, by omega, by simp only; omega⟩, by simp only; omega, Le.mk rfl (by simp [leT]) ?_⟩
      exact leH_app (leH_refl _) (by simp [leH, freeS])
  · have hx : (if i < texts.length then decide (i < 30) else false) = false := by
      by_cases h : i < texts.length
      · simp only [h, if_true, decide_eq_false_iff_not]; exact fun h2 => hlt ⟨h, h2⟩
      · simp [h]
    by_cases hA : i < texts.length
    · have hB : ¬ i < 30 := fun h => hlt ⟨hA, h⟩
      refine wp_seq' (wp_sr (by simp [push_cast, hTl, hA, hB]; exact rfl) ?_)
      refine wp_cond_f (by simp [AS.ev]) (wp_exit' (if_hit rfl ?_))
      refine wp_sg ?_
      refine areg_ca (by simp [AS.ev, AS.coe, AS.put] <;> exact rfl) al ?_
      refine areg_end (by simp [push_cast]; exact rfl) (wp_ret' ?_)
      exact fin_tmp (by simp [RVal, AS.ev, AS.coe]) (by simp)
    · refine wp_seq' (wp_sr (by simp [push_cast, hTl, hA]; exact rfl) ?_)
      refine wp_cond_f (by simp [AS.ev]) (wp_exit' (if_hit rfl ?_))
      refine wp_sg ?_
      refine areg_ca (by simp [AS.ev, AS.coe, AS.put] <;> exact rfl) al ?_
      refine areg_end (by simp [push_cast]; exact rfl) (wp_ret' ?_)
      exact fin_tmp (by simp [RVal, AS.ev, AS.coe]) (by simp)
end Go.Cab

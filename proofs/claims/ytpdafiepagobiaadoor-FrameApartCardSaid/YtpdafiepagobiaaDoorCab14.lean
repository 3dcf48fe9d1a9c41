/- Part 14 of what the proof stands on: Q24, JR. -/
import Derived.Test.YtpdafiepagobiaaDoorCab13
import Derived.Test.YtpdafiepagobiaaDoorRows
import Derived.Test.YtpdafiepagobiaaDoorCab12
import Derived.ProofKit
import Derived.ChangeMaps5
import Derived.LaidLaws
import Derived.LaidHandle
import Derived.JoinedOf
set_option linter.unusedSimpArgs false
set_option linter.unnecessarySimpa false
set_option linter.unusedVariables false
set_option linter.unusedSectionVars false
namespace Go.Cab
open Go.RowKit
open Classical
def fb800 : AC := (.seq (.reg [⟨some 2, none, .box 71 (.tmp 0), [], none⟩, ⟨some 3, none, .box 71 (.tmp 1), [], none⟩, ⟨some 4, none, .mov (.const (.bool false)), [], none⟩]) (.seq (.seq (.reg [⟨some 9, none, .call 5 [], [], none⟩, ⟨some 10, none, .un .not (.tmp 9), [], none⟩]) (.cond (.tmp 10) (.seq (.reg [⟨some 4, none, .mov (.const (.bool false)), [], none⟩]) .ret) .skip)) (.seq (.seq (.reg [⟨some 11, none, .load true 71 (.tmp 2), [], none⟩, ⟨some 12, none, .call 6 [.tmp 11], [], none⟩, ⟨some 13, none, .mov (.tmp 12), [], none⟩, ⟨some 14, some (13, false), .load true 71 (.tmp 3), [], none⟩, ⟨some 15, some (13, false), .call 6 [.tmp 14], [], none⟩, ⟨some 16, none, .pick (.tmp 13) (.const (.bool true)) (.tmp 15), [], none⟩, ⟨some 17, none, .mov (.tmp 16), [], none⟩, ⟨some 18, some (17, false), .load true 71 (.tmp 2), [], none⟩, ⟨some 19, some (17, false), .call 7 [.tmp 18], [], none⟩, ⟨some 20, some (17, false), .un .not (.tmp 19), [], none⟩, ⟨some 21, none, .pick (.tmp 17) (.const (.bool true)) (.tmp 20), [], none⟩, ⟨some 22, none, .mov (.tmp 21), [], none⟩, ⟨some 23, some (22, false), .load true 71 (.tmp 3), [], none⟩, ⟨some 24, some (22, false), .call 7 [.tmp 23], [], none⟩, ⟨some 25, some (22, false), .un .not (.tmp 24), [], none⟩, ⟨some 26, none, .pick (.tmp 22) (.const (.bool true)) (.tmp 25), [], none⟩, ⟨some 27, none, .mov (.tmp 26), [], none⟩, ⟨some 28, some (27, false), .faddr 69 7 (.tmp 2), [], none⟩, ⟨some 29, some (27, false), .load false 1 (.tmp 28), [], none⟩, ⟨some 30, some (27, false), .len true (.tmp 29), [], none⟩, ⟨some 31, some (27, false), .bin .gtr (.tmp 30) (.const (jn 0)), [], none⟩, ⟨some 32, some (27, false), .mov (.tmp 31), [], none⟩, ⟨some 33, some (32, true), .faddr 69 7 (.tmp 2), [], none⟩, ⟨some 34, some (32, true), .load false 1 (.tmp 33), [], none⟩, ⟨some 35, some (32, true), .len true (.tmp 34), [], none⟩, ⟨some 36, some (32, true), .bin .neq (.tmp 35) (.const (jn 32)), [], none⟩, ⟨some 37, some (27, false), .pick (.tmp 32) (.tmp 36) (.const (.bool false)), [], none⟩, ⟨some 38, none, .pick (.tmp 27) (.const (.bool true)) (.tmp 37), [], none⟩, ⟨some 39, none, .mov (.tmp 38), [], none⟩, ⟨some 40, some (39, false), .faddr 69 7 (.tmp 3), [], none⟩, ⟨some 41, some (39, false), .load false 1 (.tmp 40), [], none⟩, ⟨some 42, some (39, false), .len true (.tmp 41), [], none⟩, ⟨some 43, some (39, false), .bin .gtr (.tmp 42) (.const (jn 0)), [], none⟩, ⟨some 44, some (39, false), .mov (.tmp 43), [], none⟩, ⟨some 45, some (44, true), .faddr 69 7 (.tmp 3), [], none⟩, ⟨some 46, some (44, true), .load false 1 (.tmp 45), [], none⟩, ⟨some 47, some (44, true), .len true (.tmp 46), [], none⟩, ⟨some 48, some (44, true), .bin .neq (.tmp 47) (.const (jn 32)), [], none⟩, ⟨some 49, some (39, false), .pick (.tmp 44) (.tmp 48) (.const (.bool false)), [], none⟩, ⟨some 50, none, .pick (.tmp 39) (.const (.bool true)) (.tmp 49), [], none⟩]) (.cond (.tmp 50) (.seq (.reg [⟨some 51, none, .call 5 [], [], none⟩, ⟨some 4, none, .mov (.tmp 51), [], none⟩]) .ret) .skip)) (.seq (.reg [⟨some 52, none, .xc (.dir 8) [] [] [], [], none⟩, ⟨some 5, none, .alloc 1 (.st [1] [(.lit (.pointer .none))]), [], none⟩, ⟨none, none, .store 1 (.tmp 5) (.tmp 52), [], none⟩]) (.seq (.reg [⟨some 53, none, .load true 1 (.tmp 5), [6, 7], (.some 5)⟩, ⟨some 54, none, .rdp (.mkifc 34) [.tmp 53], [], none⟩, ⟨some 55, none, .load true 71 (.tmp 2), [6, 7], (.some 2)⟩, ⟨some 56, none, .xc (.dir 9) [.tmp 54, .tmp 55] [5, 3] [6, 7], [], none⟩, ⟨some 57, none, .load true 1 (.tmp 5), [6, 7, 6], (.some 5)⟩, ⟨some 58, none, .rdp (.mkifc 34) [.tmp 57], [], none⟩, ⟨some 59, none, .load true 71 (.tmp 3), [6, 7, 6], (.some 3)⟩, ⟨some 60, none, .xc (.dir 9) [.tmp 58, .tmp 59] [] [6, 7], [], none⟩, ⟨some 6, none, .alloc 32 (.arr 1 (List.replicate 32 (.lit (bn 0)))), [], none⟩, ⟨some 7, none, .alloc 32 (.arr 1 (List.replicate 32 (.lit (bn 0)))), [], none⟩, ⟨none, none, .store 32 (.tmp 6) (.tmp 56), [], (.some 6)⟩, ⟨none, none, .store 32 (.tmp 7) (.tmp 60), [], none⟩]) (.seq (.reg [⟨some 61, none, .load true 71 (.tmp 2), [], none⟩, ⟨some 8, none, .alloc 71 (.st [1, 1, 1, 1, 1, 32, 32, 1, 1] [(.lit (jn 0)), (.lit (wn 0)), (.lit (.slice .none 0 0)), (.lit (jn 0)), (.lit (.slice .none 0 0)), (.arr 1 (List.replicate 32 (.lit (bn 0)))), (.arr 1 (List.replicate 32 (.lit (bn 0)))), (.lit (tx [])), (.lit (.slice .none 0 0))]), [], none⟩, ⟨none, none, .store 71 (.tmp 8) (.tmp 61), [], none⟩]) (.seq (.reg [⟨some 62, none, .faddr 70 8 (.tmp 8), [], none⟩, ⟨none, none, .store 1 (.tmp 62) (.const (.slice .none 0 0)), [], none⟩]) (.seq (.seq (.reg [⟨some 63, none, .load true 71 (.tmp 8), [], (.some 8)⟩, ⟨some 64, none, .callv 7 [.tmp 63], [], (.some 1000000)⟩, ⟨some 65, none, .mov (.tmp 64), [], none⟩, ⟨some 66, some (65, true), .load true 1 (.tmp 5), [], (.some 5)⟩, ⟨some 67, some (65, true), .rdp (.mkifc 34) [.tmp 66], [], none⟩, ⟨some 68, some (65, true), .load true 71 (.tmp 8), [], none⟩, ⟨some 69, some (65, true), .xc (.dir 9) [.tmp 67, .tmp 68] [6] [], [], none⟩, ⟨some 70, some (65, true), .load true 32 (.tmp 6), [], (.some 6)⟩, ⟨some 71, some (65, true), .eqv 26 true (.tmp 69) (.tmp 70), [], none⟩, ⟨some 72, none, .pick (.tmp 65) (.tmp 71) (.const (.bool false)), [], none⟩]) (.cond (.tmp 72) (.seq (.reg [⟨some 4, none, .mov (.const (.bool false)), [], none⟩]) .ret) .skip)) (.seq (.reg [⟨some 73, none, .faddr 70 8 (.tmp 2), [], none⟩, ⟨none, none, .store 1 (.tmp 73) (.const (.slice .none 0 0)), [], none⟩]) (.seq (.reg [⟨some 74, none, .faddr 70 8 (.tmp 3), [], none⟩, ⟨none, none, .store 1 (.tmp 74) (.const (.slice .none 0 0)), [], none⟩]) (.seq (.reg [⟨some 75, none, .callv 5 [], [], none⟩, ⟨some 76, none, .mov (.tmp 75), [], none⟩, ⟨some 77, some (76, true), .load true 32 (.tmp 6), [], none⟩, ⟨some 78, some (76, true), .load true 32 (.tmp 7), [], none⟩, ⟨some 79, some (76, true), .eqv 26 false (.tmp 77) (.tmp 78), [], none⟩, ⟨some 80, some (76, true), .load true 71 (.tmp 2), [], none⟩, ⟨some 81, some (76, true), .load true 71 (.tmp 3), [], none⟩, ⟨some 82, some (76, true), .callv 10 [.tmp 80, .tmp 81], [], none⟩, ⟨some 83, some (76, true), .beq false (.tmp 79) (.tmp 82), [], none⟩, ⟨some 84, none, .pick (.tmp 76) (.tmp 83) (.const (.bool false)), [], none⟩, ⟨some 4, none, .mov (.tmp 84), [], none⟩]) .ret)))))))))))
def fc800 : FC := ⟨2, 85, [(.tmp 4)], fb800⟩
theorem fc800_eq : compF Go.Proofs.Tryd.prog 3 = some fc800 := by kernel_rfl
attribute [local irreducible] AReg
def noB (o : OpV) : OpV := { o with boxes := [] }
theorem digsQ_dec (n : Nat) : digs n = Go.Lib.decDigits n := by
  induction n using Nat.strongRecOn with
  | ind n ih =>
    rw [digs, Go.Lib.decDigits]
    split
    · rfl
    · rw [ih (n / 10) (by omega)]; rfl
theorem digsQ_itoa (n : Nat) : Go.Lib.itoa (n : Int) = digs n := by rw [Go.Lib.itoa_nonneg, digsQ_dec]
theorem noB_ok {o : OpV} (h : OpOk o) : OpOk (noB o) := ⟨h.seq, h.parents, h.p32, h.who, h.ofk, h.check, h.text, by simp [noB], by simp [noB]⟩
theorem noB_right {o : OpV} (h : rightV o = true) : rightV (noB o) = true := by
  unfold rightV at h ⊢
  simp only [Bool.and_eq_true] at h ⊢
  obtain ⟨h1, h2, _⟩ := h
  exact ⟨h1, h2, by simp [boxesV, noB, risV]⟩
theorem noB_name (it : Int → List UInt8) (o : OpV) : nameT it (noB o) = nameT it o := rfl
theorem noB_core {a b : OpV} : noB a = noB b ↔ coreEq a b := by
  constructor
  · intro h
    unfold noB at h
    simp only [OpV.mk.injEq] at h
    exact ⟨h.1, h.2.1, h.2.2.1, h.2.2.2.1, h.2.2.2.2.1, h.2.2.2.2.2.1, h.2.2.2.2.2.2.1, h.2.2.2.2.2.2.2.1⟩
  · rintro ⟨h1, h2, h3, h4, h5, h6, h7, h8⟩
    unfold noB
    rw [h1, h2, h3, h4, h5, h6, h7, h8]
structure ApIn (o : OpV) : Prop where
  ok : OpOk o
  bl : ∀ b ∈ o.boxes, b.body.length < 9223372036854775808
  wl : o.who.length < 1000
  pl : o.parents.length < 1000
  right : rightV o = true
  text : o.kind = 7 → o.text.length = 32
theorem ApIn.of {o : OpV} (h : OpRaw o) (hg : greatO o = false) (hr : rightV o = true) (ht : ¬ (0 < o.text.length ∧ o.text.length ≠ 32)) : ApIn o := by
  have ok := raw_ok h hg
  have w := opW_of ok hr
  refine ⟨ok, fun b hb => (h.bok b hb).2, by have := w.who.1; omega, by have := w.parents.1; omega, hr, fun h7 => ?_⟩
  have := (right_text hr).1 h7
  omega
theorem ApIn.noB {o : OpV} (h : ApIn o) : ApIn (noB o) := ⟨noB_ok h.ok, by simp [Go.Cab.noB], h.wl, h.pl, noB_right h.right, h.text⟩
theorem ApIn.term {o : OpV} (h : ApIn o) : TermOk (nameT Go.Lib.itoa o) ∧ WfT (nameT Go.Lib.itoa o) := nameT_ok h.ok (itQ h.ok h.right).2 h.wl h.pl h.text
theorem ApIn.k {H : List (Option Blk)} {t : Tb} {V0 : Value} {ts0 ts : List Term} (hh : TbOk H t V0 ts0) (hn : ts.length < 100000) {o : OpV} (h : ApIn o) :
    KC Go.Proofs.Tryd.prog 9 [freeI t.b t.l, opA o] H t ts (keyA (nameK (putN ts (nameT Go.Lib.itoa o)))) (putT ts (nameT Go.Lib.itoa o)) := by
  have k := fname_k (ts := ts) hh hn h.ok h.bl h.wl h.pl h.right h.text
  unfold nameV at k
  rw [h.right] at k
  exact k
theorem apart_law {a b : OpV} (ha : ApIn a) (hb : ApIn b) :
    (nameK (putN [] (nameT Go.Lib.itoa a)) = nameK (putN (putT [] (nameT Go.Lib.itoa a)) (nameT Go.Lib.itoa b))) ↔ noB a = noB b := by
  obtain ⟨a1, a2⟩ := ha.term
  obtain ⟨b1, b2⟩ := hb.term
  have l1 := putT_len [] (nameT Go.Lib.itoa a)
  simp only [List.length_nil] at l1
  have t1 := tsOk_nil.put a1 a2 (by simp)
  have t2 := t1.put b1 b2 (by omega)
  have n1 := (Nm.put [] (nameT Go.Lib.itoa a)).mono (put_pre (putT [] (nameT Go.Lib.itoa a)) (nameT Go.Lib.itoa b))
  have n2 := Nm.put (putT [] (nameT Go.Lib.itoa a)) (nameT Go.Lib.itoa b)
  constructor
  · intro e
    rw [← e] at n2
    exact noB_core.2 (nameT_inj digsQ_itoa ha.ok hb.ok ha.right hb.right (n1.inj n2 t2 a1 b1))
  · intro e
    have e2 := nameT_core (it := Go.Lib.itoa) (noB_core.1 e)
    rw [← e2] at n1 n2 ⊢
    exact n1.fun n2
theorem again_law {a b : OpV} : nameK (putN (putT (putT [] (nameT Go.Lib.itoa a)) (nameT Go.Lib.itoa b)) (nameT Go.Lib.itoa (noB a))) = nameK (putN [] (nameT Go.Lib.itoa a)) :=
  ((Nm.put [] (nameT Go.Lib.itoa a)).mono (put_pre (putT [] (nameT Go.Lib.itoa a)) (nameT Go.Lib.itoa b))).putN
def badT (o : OpV) : Prop := 0 < o.text.length ∧ o.text.length ≠ 32
theorem txt3 (n : Nat) : ¬ 0 < n ∨ (0 < n ∧ n = 32) ∨ (0 < n ∧ ¬ n = 32) := by omega
theorem noB_le (o : OpV) (l : Nat × Nat) : BlkLe (.box l 71 (.st [1, 1, 1, 1, 1, 32, 32, 1, 1] [.lit (ji o.author), .lit (wn o.seq), .sl 32 (klA o.parents), .lit (ji o.kind), .sl 1 (o.who.map fun x => AV.lit (ji x)), keyA o.ofk, keyA o.check, .lit (tx o.text), .lit (.slice none 0 0)])) (.box l 71 (opA (noB o))) :=
  BlkLe.box (AVle.st1 (AVle.refl _) (AVle.st1 (AVle.refl _) (AVle.st1 (AVle.refl _) (AVle.st1 (AVle.refl _) (AVle.st1 (AVle.refl _) (AVle.st1 (AVle.refl _) (AVle.st1 (AVle.refl _) (AVle.st1 (AVle.refl _) (AVle.st1 (AVle.nilS 36) AVle.st0)))))))))
def apS (A B : AV) (l2 l3 : Nat × Nat) : AS :=
  ⟨0, [.any, .any, .ptr 2 l2 0 [], .ptr 3 l3 0 [], .lit (.bool false)] ++ List.replicate 80 .any, [none, none, some (.box l2 71 A), some (.box l3 71 B)] ++ List.replicate 81 none⟩
set_option maxRecDepth 20000 in
set_option maxHeartbeats 64000000 in
theorem frameApart_call {x y : OpV} (hx : OpRaw x) (hy : OpRaw y) : PCall Go.Proofs.Tryd.prog 3 [opA x, opA y] (.val (.lit (.bool true))) := by
  have h800 := fc800_eq
  have al := alF_call
  have hc6 : callable Go.Proofs.Tryd.prog 8 = true := by kernel_rfl
  have gX := great_call ⟨hx.ofk, hx.check⟩ hx.text (fun b hb => (hx.bok b hb).2)
  have gY := great_call ⟨hy.ofk, hy.check⟩ hy.text (fun b hb => (hy.bok b hb).2)
  have x5 := hx.ofk; have x6 := hx.check; have y5 := hy.ofk; have y6 := hy.check
  have z1 : (opA x).sz = 71 := by simp [opA, AV.sz, keyA, x5, x6]
  have z2 : (opA y).sz = 71 := by simp [opA, AV.sz, keyA, y5, y6]
  refine PCall.of h800 rfl ?_; show AC.wp _ fb800 (AS.init [opA x, opA y] 2 85) (fun x s => match x with | .exit _ => False | _ => Fin [(.tmp 4)] s _); unfold fb800 AS.init
  refine wp_sg (areg_bx rfl (by simp only [AS.ev, AS.put]; exact z1) fun l2 => areg_bx rfl (by simp only [AS.ev, AS.put]; exact z2) fun l3 => areg_end (by simp [push_cast]; exact rfl) ?_)
  refine wp_seq' (wp_seq' (wp_rg ?_))
  refine areg_ca (by simp [AS.ev, AS.coe, AS.put] <;> exact rfl) al ?_
  refine areg_end (by simp [push_cast]; exact rfl) ?_
  refine wp_cond_f rfl (wp_skip' ?_)
  refine wp_seqM (fun _ : Unit => apS (opA x) (opA y) l2 l3) (fun _ => ApIn x ∧ ApIn y) (fun _ hF => ?_) ?_
  rotate_left
  · refine wp_seq' (wp_rg ?_)
    refine areg_run 1 (by simp [push_cast, z1]; exact rfl) ?_
    refine areg_ca (vs := [opA x]) (by simp [AS.ev, AS.coe, AS.put, opA]) gX ?_
    cases hgx : greatO x with
    | true =>
      refine areg_run 1 (by simp [push_cast]; exact rfl) ?_
      refine areg_ng (by simp [AS.ev, AS.put]) (areg_ng (by simp [AS.ev, AS.put]) (?_))
      refine areg_run 2 (by simp [push_cast]; exact rfl) ?_
      refine areg_ng (by simp [AS.ev, AS.put]) (areg_ng (by simp [AS.ev, AS.put]) (areg_ng (by simp [AS.ev, AS.put]) (?_)))
      refine areg_run 2 (by simp [push_cast]; exact rfl) ?_
      refine areg_ng (by simp [AS.ev, AS.put]) (areg_ng (by simp [AS.ev, AS.put]) (areg_ng (by simp [AS.ev, AS.put]) (?_)))
      refine areg_end (by simp [push_cast]; exact rfl) ?_
      refine wp_cond_t (by simp [AS.ev]) (wp_sg ?_)
      refine areg_ca (by simp [AS.ev, AS.coe, AS.put] <;> exact rfl) al ?_
      refine areg_end (by simp [push_cast]; exact rfl) (wp_ret' ?_)
      exact fin_tmp (by simp [RVal, AS.ev, AS.coe]) (by simp)
    | false =>
      refine areg_run 1 (by simp [push_cast]; exact rfl) ?_
      refine areg_run 1 (by simp [push_cast, z2]; exact rfl) ?_
      refine areg_g (by simp [AS.ev, AS.put]) (areg_ca (vs := [opA y]) (by simp [AS.ev, AS.coe, AS.put, opA]) gY ?_)
      cases hgy : greatO y with
      | true =>
        refine areg_run 2 (by simp [push_cast]; exact rfl) ?_
        refine areg_ng (by simp [AS.ev, AS.put]) (areg_ng (by simp [AS.ev, AS.put]) (areg_ng (by simp [AS.ev, AS.put]) (?_)))
        refine areg_run 2 (by simp [push_cast]; exact rfl) ?_
        refine areg_ng (by simp [AS.ev, AS.put]) (areg_ng (by simp [AS.ev, AS.put]) (areg_ng (by simp [AS.ev, AS.put]) (?_)))
        refine areg_end (by simp [push_cast]; exact rfl) ?_
        refine wp_cond_t (by simp [AS.ev]) (wp_sg ?_)
        refine areg_ca (by simp [AS.ev, AS.coe, AS.put] <;> exact rfl) al ?_
        refine areg_end (by simp [push_cast]; exact rfl) (wp_ret' ?_)
        exact fin_tmp (by simp [RVal, AS.ev, AS.coe]) (by simp)
      | false =>
      have okx := raw_ok hx hgx
      have oky := raw_ok hy hgy
      have cRx := right_call okx fun b hb => (hx.bok b hb).2
      have cRy := right_call oky fun b hb => (hy.bok b hb).2
      refine areg_run 2 (by simp [push_cast]; exact rfl) ?_
      refine areg_run 1 (by simp [push_cast, z1]; exact rfl) ?_
      refine areg_g (by simp [AS.ev, AS.put]) (areg_ca (vs := [opA x]) (by simp [AS.ev, AS.coe, AS.put, opA]) cRx ?_)
      cases hrx : rightV x with
      | false =>
        refine areg_run 3 (by simp [push_cast]; exact rfl) ?_
        refine areg_ng (by simp [AS.ev, AS.put]) (areg_ng (by simp [AS.ev, AS.put]) (areg_ng (by simp [AS.ev, AS.put]) (?_)))
        refine areg_end (by simp [push_cast]; exact rfl) ?_
        refine wp_cond_t (by simp [AS.ev]) (wp_sg ?_)
        refine areg_ca (by simp [AS.ev, AS.coe, AS.put] <;> exact rfl) al ?_
        refine areg_end (by simp [push_cast]; exact rfl) (wp_ret' ?_)
        exact fin_tmp (by simp [RVal, AS.ev, AS.coe]) (by simp)
      | true =>
      refine areg_run 3 (by simp [push_cast]; exact rfl) ?_
      refine areg_run 1 (by simp [push_cast, z2]; exact rfl) ?_
      refine areg_g (by simp [AS.ev, AS.put]) (areg_ca (vs := [opA y]) (by simp [AS.ev, AS.coe, AS.put, opA]) cRy ?_)
      cases hry : rightV y with
      | false =>
        refine areg_end (by simp [push_cast]; exact rfl) ?_
        refine wp_cond_t (by simp [AS.ev]) (wp_sg ?_)
        refine areg_ca (by simp [AS.ev, AS.coe, AS.put] <;> exact rfl) al ?_
        refine areg_end (by simp [push_cast]; exact rfl) (wp_ret' ?_)
        exact fin_tmp (by simp [RVal, AS.ev, AS.coe]) (by simp)
      | true =>
      refine areg_run 3 (by simp [push_cast]; exact rfl) ?_
      rcases txt3 x.text.length with px | ⟨px, px2⟩ | ⟨px, px2⟩
      · refine areg_run 12 (by simp [push_cast, opA, x5, x6, px]; exact rfl) ?_
        rcases txt3 y.text.length with py | ⟨py, py2⟩ | ⟨py, py2⟩
        · refine areg_end (by simp [push_cast, opA, y5, y6, py]; exact rfl) ?_
          refine wp_cond_f (by simp [AS.ev]) (wp_skip' ?_)
          exact ⟨(), ⟨ApIn.of hx hgx hrx (fun h => px h.1), ApIn.of hy hgy hry (fun h => py h.1)⟩, Le.mk rfl (by simp [apS, leT]) (by simp [apS, leH, opA, keyA])⟩
        · refine areg_end (by simp [push_cast, opA, y5, y6, py2]; exact rfl) ?_
          refine wp_cond_f (by simp [AS.ev]) (wp_skip' ?_)
          exact ⟨(), ⟨ApIn.of hx hgx hrx (fun h => px h.1), ApIn.of hy hgy hry (fun h => h.2 py2)⟩, Le.mk rfl (by simp [apS, leT]) (by simp [apS, leH, opA, keyA])⟩
        · refine areg_end (by simp [push_cast, opA, y5, y6, py, py2]; exact rfl) ?_
          refine wp_cond_t (by simp [AS.ev]) (wp_sg ?_)
          refine areg_ca (by simp [AS.ev, AS.coe, AS.put] <;> exact rfl) al ?_
          refine areg_end (by simp [push_cast]; exact rfl) (wp_ret' ?_)
          exact fin_tmp (by simp [RVal, AS.ev, AS.coe]) (by simp)
      · refine areg_run 12 (by simp [push_cast, opA, x5, x6, px2]; exact rfl) ?_
        rcases txt3 y.text.length with py | ⟨py, py2⟩ | ⟨py, py2⟩
        · refine areg_end (by simp [push_cast, opA, y5, y6, py]; exact rfl) ?_
          refine wp_cond_f (by simp [AS.ev]) (wp_skip' ?_)
          exact ⟨(), ⟨ApIn.of hx hgx hrx (fun h => h.2 px2), ApIn.of hy hgy hry (fun h => py h.1)⟩, Le.mk rfl (by simp [apS, leT]) (by simp [apS, leH, opA, keyA])⟩
        · refine areg_end (by simp [push_cast, opA, y5, y6, py2]; exact rfl) ?_
          refine wp_cond_f (by simp [AS.ev]) (wp_skip' ?_)
          exact ⟨(), ⟨ApIn.of hx hgx hrx (fun h => h.2 px2), ApIn.of hy hgy hry (fun h => h.2 py2)⟩, Le.mk rfl (by simp [apS, leT]) (by simp [apS, leH, opA, keyA])⟩
        · refine areg_end (by simp [push_cast, opA, y5, y6, py, py2]; exact rfl) ?_
          refine wp_cond_t (by simp [AS.ev]) (wp_sg ?_)
          refine areg_ca (by simp [AS.ev, AS.coe, AS.put] <;> exact rfl) al ?_
          refine areg_end (by simp [push_cast]; exact rfl) (wp_ret' ?_)
          exact fin_tmp (by simp [RVal, AS.ev, AS.coe]) (by simp)
      · refine areg_end (by simp [push_cast, opA, x5, x6, px, px2]; exact rfl) ?_
        refine wp_cond_t (by simp [AS.ev]) (wp_sg ?_)
        refine areg_ca (by simp [AS.ev, AS.coe, AS.put] <;> exact rfl) al ?_
        refine areg_end (by simp [push_cast]; exact rfl) (wp_ret' ?_)
        exact fin_tmp (by simp [RVal, AS.ev, AS.coe]) (by simp)
  obtain ⟨hX, hY⟩ := hF
  unfold apS
  have al' := al
  refine wp_sgL ?_
  refine areg_run 0 (by simp [push_cast]; exact rfl) ?_
  refine areg_xq (us := []) rfl (by simp only [tgtA, tgtB, Option.bind_some, hc6, if_true]) (newfree_call _) ⟨_, _, (0, 0), 0, rfl, rfl⟩ (fun r hp' _ t' ht' => by cases ht') ?_
  rintro r H' ⟨l, rr, rfl, rfl⟩
  refine areg_run 0 (by simp [push_cast]; exact rfl) ?_
  refine areg_al' rfl fun l5 => areg_end (by simp [push_cast, freeS_sz, freeS_agg, freeS_tup]; exact rfl) ?_
  refine wp_kit (n := 85) (Lo := [none, none, some (.box l2 71 (opA x)), some (.box l3 71 (opA y)), none, some (.box l5 1 (freeS 85 l))] ++ List.replicate 79 none) (fun N t => [.any, .any, .ptr (N + 2) l2 0 [], .ptr (N + 3) l3 0 [], .lit (.bool false), .ptr (N + 5) l5 0 []] ++ List.replicate 79 .any) (fun N t => [none, none, some (.box l2 71 (opA x)), some (.box l3 71 (opA y)), none, some (.box l5 1 (freeS t.b t.l))] ++ List.replicate 79 none) rfl ?_ ?_ fun N H t V hh hN => ?_
  · simp [leA, RelLe.refl', RelLe.ptr']
  · simp [leB, tbNew, BlkLe.freeS', BlkLe.refl']
  have G1 : ∀ V' ts', (tbOf H t V' ts').length = N := fun V' ts' => by rw [tbOf_len, hN]
  have g1 : ∀ V' ts' L k, (tbOf H t V' ts' ++ L)[N + k]? = L[k]? := fun V' ts' L k => cat1 _ _ _ _ (G1 _ _)
  have g2 : ∀ V' ts' L k x, (tbOf H t V' ts' ++ L).set (N + k) x = tbOf H t V' ts' ++ L.set k x := fun V' ts' L k x => cat2 _ _ _ _ _ (G1 _ _)
  have m1 := (putT_len [] (nameT Go.Lib.itoa x)).2
  have m2 := (putT_len (putT [] (nameT Go.Lib.itoa x)) (nameT Go.Lib.itoa y)).2
  simp only [List.length_nil] at m1
  have k1 := hX.k (ts := []) hh (by simp)
  have k2 := hY.k (ts := putT [] (nameT Go.Lib.itoa x)) hh (by omega)
  have k3 := hX.noB.k (ts := putT (putT [] (nameT Go.Lib.itoa x)) (nameT Go.Lib.itoa y)) hh (by omega)
  rw [show nameK (putN (putT (putT [] (nameT Go.Lib.itoa x)) (nameT Go.Lib.itoa y)) (nameT Go.Lib.itoa (noB x))) = _ from again_law] at k3
  have hlaw := apart_law hX hY
  generalize putT (putT (putT [] (nameT Go.Lib.itoa x)) (nameT Go.Lib.itoa y)) (nameT Go.Lib.itoa (noB x)) = t3 at *
  have n1 : (nameK (putN [] (nameT Go.Lib.itoa x))).length = 32 := nameK_len _
  have n2 : (nameK (putN (putT [] (nameT Go.Lib.itoa x)) (nameT Go.Lib.itoa y))).length = 32 := nameK_len _
  generalize nameK (putN [] (nameT Go.Lib.itoa x)) = na at *
  generalize nameK (putN (putT [] (nameT Go.Lib.itoa x)) (nameT Go.Lib.itoa y)) = nb at *
  generalize putT (putT [] (nameT Go.Lib.itoa x)) (nameT Go.Lib.itoa y) = t2 at *
  generalize putT [] (nameT Go.Lib.itoa x) = t1 at *
  have e3 := eq_key n1 n2
  have e4 := eq_key n1 n1
  have hd : decide (na = nb) = decide (noB x = noB y) := by rw [decide_eq_decide]; exact hlaw
  rw [hd] at e3
  have zN : (opA (noB x)).sz = 71 := by simp [opA, noB, AV.sz, keyA, x5, x6]
  have zM : (opA (noB y)).sz = 71 := by simp [opA, noB, AV.sz, keyA, y5, y6]
  rw [decide_eq_true rfl] at e4
  have cRx := right_call hX.noB.ok hX.noB.bl
  rw [hX.noB.right] at cRx
  have cS := sameD_call (OpL.of hX.noB.ok) (OpL.of hY.noB.ok) rfl rfl
  refine wp_sg ?_
  refine areg_run 1 (by simp [push_cast, g1, freeS_sz, freeS_agg, freeS_tup]; exact rfl) ?_
  refine areg_rdp (us := [freeS t.b t.l]) rfl (mkifc_fr _ _) ?_
  refine areg_run 1 (by simp [push_cast, g1, z1]; exact rfl) ?_
  refine areg_k [freeI t.b t.l, opA x] hN rfl (tgt_name _ _) k1 (by simp) (by simp [AS.ev, AS.put, AV.place]) fun V1 => ?_
  refine areg_run 1 (by simp [push_cast, g1, freeS_sz, freeS_agg, freeS_tup]; exact rfl) ?_
  refine areg_rdp (us := [freeS t.b t.l]) rfl (mkifc_fr _ _) ?_
  refine areg_run 1 (by simp [push_cast, g1, z2]; exact rfl) ?_
  refine areg_k [freeI t.b t.l, opA y] hN rfl (tgt_name _ _) k2 (by simp) (by simp) fun V2 => ?_
  refine areg_al' zk_eq.symm fun l6 => areg_al' zk_eq.symm fun l7 => areg_end (by simp [push_cast, g1, g2, n1, n2, zk_len]; exact rfl) ?_
  refine wp_sg ?_
  refine areg_run 1 (by simp [push_cast, g1, z1]; exact rfl) ?_
  refine areg_al' (z' := z0A) rfl fun l8 => areg_end (by simp [push_cast, g1, g2, z0A, opA, zk_len, x5, x6]; exact rfl) ?_
  refine wp_sgL (areg_end (by simp [push_cast, g1, g2, opA, x5, x6]; exact rfl) ?_)
  refine ⟨_, Le.setB (b := N + 8) (X' := .box l8 71 (opA (noB x))) (by simp only [g1]; rfl) (noB_le x l8), ?_⟩
  simp only [g2]
  refine wp_seq' (wp_seq' (wp_rg ?_))
  refine areg_run 1 (by simp [push_cast, g1, zN]; exact rfl) ?_
  refine areg_cv (vs := [opA (noB x)]) (by simp [AS.ev, AS.coe, AS.put, opA]) cRx ?_ (by intro p hp b V; simp at hp; subst hp; simp [AS.ev, AS.put, opA])
  refine areg_run 1 (by simp [push_cast]; exact rfl) ?_
  refine areg_run 1 (by simp [push_cast, g1, freeS_sz, freeS_agg, freeS_tup]; exact rfl) ?_
  refine areg_g (by simp [AS.ev, AS.put]) (areg_rdp (us := [freeS t.b t.l]) rfl (mkifc_fr _ _) ?_)
  refine areg_run 1 (by simp [push_cast, g1, zN]; exact rfl) ?_
  refine areg_g (by simp [AS.ev, AS.put]) (areg_k [freeI t.b t.l, opA (noB x)] hN rfl (tgt_name _ _) k3 (by simp) (by simp [AS.ev, AS.put, AV.place]) fun V3 => ?_)
  refine areg_run 1 (by simp [push_cast, g1, n1]; exact rfl) ?_
  refine areg_g (by simp [AS.ev, AS.put]) (areg_eq (by simp [AS.ev, AS.put] <;> exact rfl) (by simp [AS.ev, AS.put] <;> exact rfl) e4 rfl rfl ?_)
  refine areg_end (by simp [push_cast]; exact rfl) ?_
  refine wp_cond_f (by simp [AS.ev]) (wp_skip' ?_)
  refine wp_sgL (areg_end (by simp [push_cast, g1, g2, opA, x5, x6]; exact rfl) ?_)
  refine ⟨_, Le.setB (b := N + 2) (X' := .box l2 71 (opA (noB x))) (by simp only [g1]; rfl) (noB_le x l2), ?_⟩
  simp only [g2]
  refine wp_sgL (areg_end (by simp [push_cast, g1, g2, opA, y5, y6]; exact rfl) ?_)
  refine ⟨_, Le.setB (b := N + 3) (X' := .box l3 71 (opA (noB y))) (by simp only [g1]; rfl) (noB_le y l3), ?_⟩
  simp only [g2]
  refine wp_sg ?_
  refine areg_cv (by simp [AS.ev, AS.coe, AS.put] <;> exact rfl) al ?_
  refine areg_run 1 (by simp [push_cast]; exact rfl) ?_
  refine areg_run 1 (by simp [push_cast, g1, n1]; exact rfl) ?_
  refine areg_run 1 (by simp [push_cast, g1, n2]; exact rfl) ?_
  refine areg_g (by simp [AS.ev, AS.put]) (areg_eq (by simp [AS.ev, AS.put] <;> exact rfl) (by simp [AS.ev, AS.put] <;> exact rfl) e3 rfl rfl ?_)
  refine areg_run 1 (by simp [push_cast, g1, zN]; exact rfl) ?_
  refine areg_run 1 (by simp [push_cast, g1, zM]; exact rfl) ?_
  refine areg_g (by simp [AS.ev, AS.put]) (areg_cv (vs := [opA (noB x), opA (noB y)]) (by simp [AS.ev, AS.coe, AS.put, opA, keyA]) cS ?_)
  generalize decide (noB x = noB y) = dd at *
  cases dd with
  | true =>
    refine areg_end (by simp [push_cast]; exact rfl) (wp_ret' ?_)
    exact fin_tmp (by simp [RVal, AS.ev, AS.coe]) (by simp)
  | false =>
    refine areg_end (by simp [push_cast]; exact rfl) (wp_ret' ?_)
    exact fin_tmp (by simp [RVal, AS.ev, AS.coe]) (by simp)
end Go.Cab
namespace Go.Proofs.YtpdafiepagobiaaDoor
open Go.ChangeShapes Go.WideShapes Go.ChangeAt Go.RowKit
theorem Tryd.laidOut : laidOutB Tryd.prog = true := by kernel_rfl
theorem Tryd.own : ownKnob Tryd.prog.godebug = none := by kernel_rfl
def tab32 : Array Value := #[0, 1, 28, 2, 29, 14, 24, 3, 30, 22, 20, 15, 25, 17, 4, 8, 31, 27, 13, 23, 21, 19, 16, 7, 26, 12, 18, 6, 11, 5, 10, 9].map fun n => .int .u8 n
def tab64 : Array Value := #[0, 1, 56, 2, 57, 49, 28, 3, 61, 58, 42, 50, 38, 29, 17, 4, 62, 47, 59, 36, 45, 43, 51, 22, 53, 39, 33, 30, 24, 18, 12, 5, 63, 55, 48, 27, 60, 41, 37, 16, 46, 35, 44, 21, 52, 32, 23, 11, 54, 26, 40, 15, 34, 20, 31, 10, 25, 14, 19, 9, 13, 8, 7, 6].map fun n => .int .u8 n
def tab10 : Array Value := #[1, 10, 100, 1000, 10000, 100000, 1000000, 10000000, 100000000, 1000000000, 10000000000, 100000000000, 1000000000000, 10000000000000, 100000000000000, 1000000000000000, 10000000000000000, 100000000000000000, 1000000000000000000, 10000000000000000000].map fun n => .int .u64 n
noncomputable def laidWorld (os : Os) : World :=
  let w0 := World.holding Tryd.prog os ⟨#[], #[], []⟩
  { w0 with heap := ((w0.heap.modify 1 fun
      | .cells _ t frozen => .cells tab10 t frozen
      | o => o).modify 2 fun
      | .cells _ t frozen => .cells tab32 t frozen
      | o => o).modify 3 fun
      | .cells _ t frozen => .cells tab64 t frozen
      | o => o }
theorem laidWorld_met (os : Os) (args : Array Value) : laidMetH Tryd.prog Rows.frameApartRow.laid ((laidWorld os).forCall (fun _ _ => 0) ⟨#[], args, []⟩).memory :=
  laidMetH_of_parts (laidMet_of_run' 80 (by kernel_rfl) (by kernel_rfl)) (by kernel_rfl)
set_option maxRecDepth 100000 in
theorem frameApart_lifted (os : Os) (started : os.Started) (H : Type) (enc : TypeId × Value → H) :
    ReturnsInHanded {} Tryd.checked os 3 .any (fun w args => (Rows.frameApartSpec.pre enc Tryd.prog Tryd.f3 Rows.frameApartRow.domain false w args ∧ laidMetH Tryd.prog Rows.frameApartRow.laid w) ∧ sizedMet enc Tryd.prog Tryd.f3 (OpenSpec.ofChange Rows.frameApartSpec) false w args)
      (Rows.frameApartSpec.post enc Tryd.prog Tryd.f3 false true false false) := by
  refine returnsInHanded_of_change_and (C := Tryd.checked) (X := fun w _ => laidMetH Tryd.prog Rows.frameApartRow.laid w) (fun _ _ _ hh h => h.of_heap hh) Tryd.own started (by kernel_rfl) Tryd.func3
    (ChangeSpec.witness_at (enc := enc) (C := Tryd.checked) (os := os) (X := fun w _ => laidMetH Tryd.prog Rows.frameApartRow.laid w) false (laidWorld os) #[Value.agg ([Value.int .i64 0, Value.int .u32 0, Value.slice none 0 0, Value.int .i64 0, Value.slice none 0 0] ++ List.replicate 64 (Value.int .u8 0) ++ [Value.string ⟨#[]⟩, Value.slice none 0 0]).toArray, Value.agg ([Value.int .i64 0, Value.int .u32 0, Value.slice none 0 0, Value.int .i64 0, Value.slice none 0 0] ++ List.replicate 64 (Value.int .u8 0) ++ [Value.string ⟨#[]⟩, Value.slice none 0 0]).toArray] 8 rfl (by kernel_rfl) (by kernel_rfl) (by kernel_rfl) (by kernel_rfl) (by kernel_rfl) (laidWorld_met os _)) ?_
  intro W base args ds gs before hval0 hW _ _ hLaid _
  have htab := Go.Cab.tabOk_laid hLaid (by kernel_rfl)
  have hval : ∀ (j : Nat) t v, Tryd.f3.params[j]? = some t → args[j]? = some v → Value.okWide Tryd.prog W .any base t v := hval0
  have hW' := hW
  obtain ⟨p, q, hA0, hV, rfl, hfz, hnd⟩ := hW
  have hA : DataW.TrodAll enc Tryd.prog W 0 (fun _ => true) true Tryd.f3.params.toList args.toList ds p := hA0
  rw [Tryd.params3] at hA hval
  obtain ⟨v0, v1, d0, d1, p0, p1, rfl, rfl, rfl, h0, h1⟩ := trodAll_two hA
  obtain ⟨rfl, rfl⟩ := trodVars_none hV
  obtain ⟨y0, k0, r0⟩ := Go.Cab.op_arg Go.Cab.ty_try (hval 0 29 v0 rfl rfl) h0
  obtain ⟨y1, k1, r1⟩ := Go.Cab.op_arg Go.Cab.ty_try (hval 1 29 v1 rfl rfl) h1
  have hc := Go.Cab.frameApart_call k0 k1 W (Go.Cab.StOf W (p0 ++ p1)) [_, _] ⟨(fun _ _ h => h.2), htab⟩ ⟨r0.mono (fun _ _ hb => ⟨by simp [hb.1], hb.2⟩) (fun _ _ _ => rfl), r1.mono (fun _ _ hb => ⟨by simp [hb.1], hb.2⟩) (fun _ _ _ => rfl), trivial⟩
  refine Calls.mono hc fun e W' ⟨V, Imm, he, hfr, _, hr⟩ => ?_
  have hV' := (hr.1.lit).1
  subst hV'
  have hb := hfr.below
  have hlt : ∀ x ∈ p0 ++ p1, x.block < W.heap.size := fun x hx => hW'.lt x (by simpa using hx)
  refine ⟨_, he, Go.Cab.post_below rfl hW' hb (fun _ _ _ => trodAll_mk1 (shut_bool Tryd.underlying4 true)) (fun sp hsp => ?_) (fun _ => rfl) (ok_one (by kernel_rfl) rfl (okWide_bool_mk Tryd.underlying4 true))⟩
  have t0 := WideElems.Trod_stays (sp' := sp) Tryd.laidOut (by kernel_rfl) (of_decide_eq_true (by kernel_rfl)) h0 (fun x hx => hb.same (hlt x (by simp [hx]))) (fun x hx => hsp x (by simp [hx]))
  have t1 := WideElems.Trod_stays (sp' := sp) Tryd.laidOut (by kernel_rfl) (of_decide_eq_true (by kernel_rfl)) h1 (fun x hx => hb.same (hlt x (by simp [hx]))) (fun x hx => hsp x (by simp [hx]))
  have s := trodAll_mk2 t0 t1
  simp only [List.nil_append, List.append_nil, List.append_assoc] at s ⊢
  exact s
theorem frameApart_holds : Rows.FrameApartSaid :=
  OpenClaim.holds_of_wide 3 Tryd.f3 rfl rfl rfl rfl rfl rfl rfl ⟨rfl, rfl, rfl, rfl, rfl⟩ rfl rfl rfl rfl rfl (by kernel_rfl) Tryd.func3 (by kernel_rfl)
    (of_decide_eq_true (by kernel_rfl)) (by unfold Func.isWrapper; first | (rw [if_pos (by decide +kernel)]; kernel_rfl) | (rw [if_neg (by decide +kernel)]; exact ⟨rfl, rfl⟩))
    (fun os started H enc _ => frameApart_lifted os started H enc)
end Go.Proofs.YtpdafiepagobiaaDoor
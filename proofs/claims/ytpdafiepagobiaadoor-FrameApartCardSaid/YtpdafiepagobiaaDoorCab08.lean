/- Part 8 of what the proof stands on: H2, H3, Q2, Q3, G15, G16, GQ. -/
import Derived.Test.YtpdafiepagobiaaDoorCab07
import Derived.Test.YtpdafiepagobiaaDoorCab06
set_option linter.unusedSimpArgs false
set_option linter.unnecessarySimpa false
set_option linter.unusedVariables false
set_option linter.unusedSectionVars false
namespace Go.Cab
open Classical
def fb526 : AC := (.seq (.reg [⟨some 1, none, .box 71 (.tmp 0), [], none⟩, ⟨some 2, none, .mov (.const (.bool false)), [], none⟩]) (.seq (.seq (.reg [⟨some 3, none, .faddr 4 4 (.tmp 1), [], none⟩, ⟨some 4, none, .load false 1 (.tmp 3), [], none⟩, ⟨some 5, none, .build (.st [1, 1] [(.lit (.slice .none 0 0)), (.lit .nilFunc)]) [(0, (.tmp 4)), (1, (.func 38))], [], none⟩, ⟨some 6, none, .call 39 [.tmp 5], [], none⟩, ⟨some 7, none, .un .not (.tmp 6), [], none⟩, ⟨some 8, none, .mov (.tmp 7), [], none⟩, ⟨some 9, some (8, false), .faddr 4 4 (.tmp 1), [], none⟩, ⟨some 10, some (8, false), .load false 1 (.tmp 9), [], none⟩, ⟨some 11, some (8, false), .xc (.dir 40) [.tmp 10, .func 41] [] [], [], none⟩, ⟨some 12, none, .pick (.tmp 8) (.const (.bool true)) (.tmp 11), [], none⟩]) (.cond (.tmp 12) (.seq (.reg [⟨some 2, none, .mov (.const (.bool false)), [], none⟩]) .ret) .skip)) (.seq (.seq (.reg [⟨some 13, none, .faddr 3 3 (.tmp 1), [], none⟩, ⟨some 14, none, .load false 1 (.tmp 13), [], none⟩]) (.block 0 (.seq (.reg [⟨some 16, none, .bin .eql (.tmp 14) (.const (jn 1)), [], none⟩, ⟨some 15, none, .mov (.tmp 16), [], none⟩]) (.cond (.tmp 15) (.seq (.reg [⟨some 17, none, .faddr 4 4 (.tmp 1), [], none⟩, ⟨some 18, none, .load false 1 (.tmp 17), [], none⟩, ⟨some 19, none, .faddr 0 0 (.tmp 1), [], none⟩, ⟨some 20, none, .load false 1 (.tmp 19), [], none⟩, ⟨some 21, none, .lcall 42 [.tmp 18, .tmp 20], [], none⟩, ⟨some 2, none, .mov (.tmp 21), [], none⟩]) .ret) (.seq (.seq (.reg [⟨some 23, none, .bin .eql (.tmp 14) (.const (jn 2)), [], none⟩, ⟨some 22, none, .mov (.tmp 23), [], none⟩]) (.cond (.tmp 22) .skip (.reg [⟨some 24, none, .bin .eql (.tmp 14) (.const (jn 3)), [], none⟩, ⟨some 22, none, .mov (.tmp 24), [], none⟩]))) (.cond (.tmp 22) (.seq (.reg [⟨some 25, none, .faddr 4 4 (.tmp 1), [], none⟩, ⟨some 26, none, .load false 1 (.tmp 25), [], none⟩, ⟨some 27, none, .len false (.tmp 26), [], none⟩, ⟨some 28, none, .bin .eql (.tmp 27) (.const (jn 1)), [], none⟩, ⟨some 29, none, .mov (.tmp 28), [], none⟩, ⟨some 30, some (29, true), .faddr 4 4 (.tmp 1), [], none⟩, ⟨some 31, some (29, true), .load false 1 (.tmp 30), [], none⟩, ⟨some 32, some (29, true), .iaddrS 1 (.tmp 31) (.const (jn 0)), [], none⟩, ⟨some 33, some (29, true), .load false 1 (.tmp 32), [], none⟩, ⟨some 34, some (29, true), .faddr 0 0 (.tmp 1), [], none⟩, ⟨some 35, some (29, true), .load false 1 (.tmp 34), [], none⟩, ⟨some 36, some (29, true), .bin .neq (.tmp 33) (.tmp 35), [], none⟩, ⟨some 37, none, .pick (.tmp 29) (.tmp 36) (.const (.bool false)), [], none⟩, ⟨some 2, none, .mov (.tmp 37), [], none⟩]) .ret) .skip)))))) (.seq (.reg [⟨some 38, none, .faddr 4 4 (.tmp 1), [], none⟩, ⟨some 39, none, .load false 1 (.tmp 38), [], none⟩, ⟨some 40, none, .len false (.tmp 39), [], none⟩, ⟨some 41, none, .bin .eql (.tmp 40) (.const (jn 0)), [], none⟩, ⟨some 2, none, .mov (.tmp 41), [], none⟩]) .ret))))
def fc526 : FC := ⟨1, 42, [(.tmp 2)], fb526⟩
theorem fc526_eq : compF Go.Proofs.Tryd.prog 19 = some fc526 := by kernel_rfl
def fb527 : AC := (.seq (.reg [⟨some 1, none, .box 71 (.tmp 0), [], none⟩, ⟨some 2, none, .mov (.const (.bool false)), [], none⟩]) (.seq (.reg [⟨some 3, none, .faddr 70 8 (.tmp 1), [], none⟩, ⟨some 4, none, .load false 1 (.tmp 3), [], none⟩, ⟨some 5, none, .len false (.tmp 4), [], none⟩, ⟨some 6, none, .bin .leq (.tmp 5) (.const (jn 8)), [], none⟩, ⟨some 7, none, .mov (.tmp 6), [], none⟩, ⟨some 8, some (7, true), .faddr 70 8 (.tmp 1), [], none⟩, ⟨some 9, some (7, true), .load false 1 (.tmp 8), [], none⟩, ⟨some 10, some (7, true), .build (.st [1, 1] [(.lit (.slice .none 0 0)), (.lit .nilFunc)]) [(0, (.tmp 9)), (1, (.func 43))], [], none⟩, ⟨some 11, some (7, true), .call 44 [.tmp 10], [], none⟩, ⟨some 12, none, .pick (.tmp 7) (.tmp 11) (.const (.bool false)), [], none⟩, ⟨some 13, none, .mov (.tmp 12), [], none⟩, ⟨some 14, some (13, true), .faddr 70 8 (.tmp 1), [], none⟩, ⟨some 15, some (13, true), .load false 1 (.tmp 14), [], none⟩, ⟨some 16, some (13, true), .rdp (.mkfn (.func 46) 0) [.tmp 1], [], none⟩, ⟨some 17, some (13, true), .xc (.dir 45) [.tmp 15, .tmp 16] [] [], [], none⟩, ⟨some 18, some (13, true), .un .not (.tmp 17), [], none⟩, ⟨some 19, none, .pick (.tmp 13) (.tmp 18) (.const (.bool false)), [], none⟩, ⟨some 2, none, .mov (.tmp 19), [], none⟩]) .ret))
def fc527 : FC := ⟨1, 20, [(.tmp 2)], fb527⟩
theorem fc527_eq : compF Go.Proofs.Tryd.prog 20 = some fc527 := by kernel_rfl
def fb537 : AC := (.seq (.reg [⟨some 2, none, .box 36 (.tmp 0), [], none⟩, ⟨some 3, none, .mov (.const (.bool false)), [], none⟩]) (.seq (.reg [⟨some 4, none, .faddr 0 0 (.tmp 2), [], none⟩, ⟨some 5, none, .load false 1 (.tmp 4), [], none⟩, ⟨some 6, none, .call 16 [.tmp 5], [], none⟩, ⟨some 7, none, .un .not (.tmp 6), [], none⟩, ⟨some 8, none, .mov (.tmp 7), [], none⟩, ⟨some 9, some (8, false), .faddr 0 0 (.tmp 2), [], none⟩, ⟨some 10, some (8, false), .load false 1 (.tmp 9), [], none⟩, ⟨some 11, some (8, false), .faddr 0 0 (.tmp 1), [], none⟩, ⟨some 12, some (8, false), .load false 1 (.tmp 11), [], none⟩, ⟨some 13, some (8, false), .bin .eql (.tmp 10) (.tmp 12), [], none⟩, ⟨some 14, none, .pick (.tmp 8) (.const (.bool true)) (.tmp 13), [], none⟩, ⟨some 15, none, .mov (.tmp 14), [], none⟩, ⟨some 16, some (15, false), .faddr 35 2 (.tmp 2), [], none⟩, ⟨some 17, some (15, false), .load false 1 (.tmp 16), [], none⟩, ⟨some 18, some (15, false), .len true (.tmp 17), [], none⟩, ⟨some 19, some (15, false), .bin .gtr (.tmp 18) (.const (jn 256)), [], none⟩, ⟨some 20, none, .pick (.tmp 15) (.const (.bool true)) (.tmp 19), [], none⟩, ⟨some 3, none, .mov (.tmp 20), [], none⟩]) .ret))
def fc537 : FC := ⟨1, 21, [(.tmp 3)], fb537⟩
theorem fc537_eq : compF Go.Proofs.Tryd.prog 46 = some fc537 := by kernel_rfl
structure OpV where
  author : Int
  seq : Nat
  parents : List (List UInt8)
  kind : Int
  who : List Int
  ofk : List UInt8
  check : List UInt8
  text : List UInt8
  boxes : List BoxV
def opA (o : OpV) : AV := .st [1, 1, 1, 1, 1, 32, 32, 1, 1] [.lit (ji o.author), .lit (wn o.seq), .sl 32 (klA o.parents), .lit (ji o.kind), .sl 1 (o.who.map fun x => AV.lit (ji x)), keyA o.ofk, keyA o.check, .lit (tx o.text), .sl 36 (o.boxes.map fun x => boxA x)]
structure OpOk (o : OpV) : Prop where
  seq : o.seq < 4294967296
  parents : o.parents.length < 100000
  p32 : ∀ k ∈ o.parents, k.length = 32
  who : o.who.length < 100000
  ofk : o.ofk.length = 32
  check : o.check.length = 32
  text : o.text.length < 9223372036854775808
  boxes : o.boxes.length < 100000
  bok : ∀ b ∈ o.boxes, BoxOk b
def memB (a : Int) : Bool := decide (0 ≤ a ∧ a < 8)
def badBox (o : OpV) (b : BoxV) : Bool := !memB b.to || decide (b.to = o.author) || decide (256 < b.body.length)
def whoV (o : OpV) : Bool :=
  if !risV cmpN o.who || o.who.any (fun n => !memB n) then false
  else if o.kind = 1 then o.who.any (fun x => decide (o.author = x))
  else if o.kind = 2 ∨ o.kind = 3 then decide (o.who.length = 1 ∧ o.who.getD 0 0 ≠ o.author)
  else decide (o.who.length = 0)
def boxesV (o : OpV) : Bool := decide (o.boxes.length ≤ 8) && risV (fun a b => cmpN a.to b.to) o.boxes && !o.boxes.any (badBox o)
set_option maxHeartbeats 8000000 in
theorem badBox_call {H : List (Option Blk)} {c : Nat} {lc : Nat × Nat} {o : OpV} (hc : H[c]? = some (some (.box lc 71 (opA o)))) (b : BoxV) (hb : b.body.length < 9223372036854775808) :
    XCall Go.Proofs.Tryd.prog 46 [boxA b, .ptr c lc 0 []] H fun r H' => r = .lit (.bool (badBox o b)) ∧ H' = H := by
  have h537 := fc537_eq
  refine XCall.le ?_
  have cm := member_call b.to
  have lcc := (List.getElem?_eq_some_iff.1 hc).1
  unfold badBox memB
  unfold boxA
  unfold opA at hc
  obtain ⟨bto, bpub, bn', bprev, body⟩ := b
  simp only at cm hb ⊢
  refine XCall.ofC h537 (by show 2 ≤ 21; omega) ?_; show AC.wp _ fb537 ⟨H.length, [.st [1, 34, 1] [.lit (ji bto), .st [32, 1, 1] [keyA bpub, .lit (wn bn'), .lit (wn bprev)], .lit (tx body)], .ptr c lc 0 []] ++ List.replicate (21 - 2) .any, H ++ List.replicate 21 none⟩ (fun x s => match x with | .exit _ => False | _ => ∃ s1, Le s s1 ∧ FinX [(.tmp 3)] s1 _); unfold fb537
  generalize hN : H.length = N at *
  have q1 : ∀ L k, (H ++ L)[N + k]? = L[k]? := fun L k => cat1 N H L k hN
  have q2 : ∀ L k x, (H ++ L).set (N + k) x = H ++ L.set k x := fun L k x => cat2 N H L k x hN
  have q3 := fun L => (cat4 N H L c hN lcc).trans hc
  have efin : ∀ (b : Bool) (R : List (Option Blk)) (s : AS), b = (!decide (0 ≤ bto ∧ bto < 8) || decide (bto = o.author) || decide (256 < body.length)) → RVal s (.tmp 3) = some (.lit (.bool b)) → s.hp = H ++ R → ∃ s1, Le s s1 ∧ FinX [RV.tmp 3] s1 fun r H' => ∃ r' A, RelLe r r' ∧ r' ≠ .any ∧ HpLe H' A ∧ r' = .lit (.bool (!decide (0 ≤ bto ∧ bto < 8) || decide (bto = o.author) || decide (256 < body.length))) ∧ A = H := fun b R s e hr hR =>
    ⟨s, Le.refl _, finX1 hr (by simp) ⟨_, H, RelLe.refl _, by simp, by rw [hR]; exact HpLe.trim _ _, by rw [e], rfl⟩⟩
  generalize decide (0 ≤ bto ∧ bto < 8) = m at *
  refine wp_sg (areg_bx rfl rfl fun l => areg_end (by simp [push_cast, q2]; exact rfl) ?_)
  refine wp_sg ?_
  refine areg_run 2 (by simp [push_cast, q1]; exact rfl) ?_
  refine areg_ca (by simp [AS.ev, AS.coe, AS.put] <;> exact rfl) cm ?_
  cases m with
  | false =>
    refine areg_run 2 (by simp [push_cast]; exact rfl) ?_
    refine areg_run 6 (by simp [push_cast]; exact rfl) ?_
    refine areg_end (by simp [push_cast]; exact rfl) (wp_ret' ?_)
    exact efin true _ _ (by simp) rfl rfl
  | true =>
    by_cases h1 : bto = o.author
    · refine areg_run 7 (by simp [push_cast, q1, q3, h1]; exact rfl) ?_
      refine areg_run 2 (by simp [push_cast]; exact rfl) ?_
      refine areg_end (by simp [push_cast]; exact rfl) (wp_ret' ?_)
      exact efin true _ _ (by simp [h1]) rfl rfl
    · refine areg_run 7 (by simp [push_cast, q1, q3, h1]; exact rfl) ?_
      refine areg_run 2 (by simp [push_cast]; exact rfl) ?_
      refine areg_end (by simp [push_cast, q1]; exact rfl) (wp_ret' ?_)
      exact efin (decide (256 < body.length)) _ _ (by simp [h1]) (by simp [RVal, AS.ev, AS.coe]) rfl
def cloB (c : Nat) (lc : Nat × Nat) : AV := .fnv (.func 46) [] [.ptr c lc 0 []]
theorem tgt_cloB (c : Nat) (lc : Nat × Nat) (x : AV) : tgtA Go.Proofs.Tryd.prog .val [cloB c lc, x] = some (46, [x, .ptr c lc 0 []]) := by kernel_rfl
theorem mkfn_cloB (c : Nat) (lc : Nat × Nat) : rdA Go.Proofs.Tryd.prog (fun _ => none) (.mkfn (.func 46) 0) [.ptr c lc 0 []] = some (cloB c lc) := by kernel_rfl
theorem tgt_mem (x : AV) : tgtA Go.Proofs.Tryd.prog .val [.fnv (.func 41) [] [], x] = some (41, [x]) := by kernel_rfl
theorem tgt_num (x y : AV) : tgtA Go.Proofs.Tryd.prog .val [.fnv (.func 38) [] [], x, y] = some (38, [x, y]) := by kernel_rfl
theorem tgt_key (x y : AV) : tgtA Go.Proofs.Tryd.prog .val [.fnv (.func 17) [] [], x, y] = some (17, [x, y]) := by kernel_rfl
theorem tgt_box (x y : AV) : tgtA Go.Proofs.Tryd.prog .val [.fnv (.func 43) [] [], x, y] = some (43, [x, y]) := by kernel_rfl
set_option maxHeartbeats 16000000 in
theorem boxes_call {o : OpV} (ho : OpOk o) (hbl : ∀ b ∈ o.boxes, b.body.length < 9223372036854775808) : PCall Go.Proofs.Tryd.prog 20 [opA o] (.val (.lit (.bool (boxesV o)))) := by
  have h527 := fc527_eq
  have hcC : callable Go.Proofs.Tryd.prog 45 = true := by kernel_rfl
  have cr : PCall Go.Proofs.Tryd.prog 44 [.st [1, 1] [.sl 36 (o.boxes.map fun x => boxA x), fnL 43]] _ := PCall.args (m := [.st [1, 1] [.sl 36 (o.boxes.map fun x => boxA x), .fnv (.func 43) [] []]]) ⟨RelLe.rowF _ _ _, trivial⟩ (risB_call (fn := .fnv (.func 43) [] []) (g := 43) (cmp := fun a b => cmpN a.to b.to) (l := o.boxes) tgt_box rfl (fun a _ b _ => boxCmp_call a b) ho.boxes)
  have cc := fun (H : List (Option Blk)) (lc : Nat × Nat) (hc : H[1]? = some (some (.box lc 71 (opA o)))) => conB_call (H := H) (clo := cloB 1 lc) (g := 46) (as' := fun x => [boxA x, .ptr 1 lc 0 []]) (p := badBox o) (l := o.boxes) (fun x => tgt_cloB _ _ _) rfl
    (fun L x hx => badBox_call (by rw [List.getElem?_append_left (List.getElem?_eq_some_iff.1 hc).1]; exact hc) x (hbl x hx)) ho.boxes
  have hml : (o.boxes.map fun x => boxA x).length = o.boxes.length := List.length_map _
  have hopA : opA o = .st [1, 1, 1, 1, 1, 32, 32, 1, 1] [.lit (ji o.author), .lit (wn o.seq), .sl 32 (klA o.parents), .lit (ji o.kind), .sl 1 (o.who.map fun x => AV.lit (ji x)), keyA o.ofk, keyA o.check, .lit (tx o.text), .sl 36 (o.boxes.map fun x => boxA x)] := rfl
  unfold boxesV
  generalize hris : risV (fun a b => cmpN a.to b.to) o.boxes = ris at *
  generalize hany : o.boxes.any (badBox o) = any at *
  obtain ⟨_, _, _, _, o5, o6, _, _, _⟩ := ho
  generalize (o.boxes.map fun x => boxA x) = T at *
  rw [hopA]
  rw [hopA] at cc
  refine PCall.of h527 rfl ?_; show AC.wp _ fb527 (AS.init [.st [1, 1, 1, 1, 1, 32, 32, 1, 1] [.lit (ji o.author), .lit (wn o.seq), .sl 32 (klA o.parents), .lit (ji o.kind), .sl 1 (o.who.map fun x => AV.lit (ji x)), keyA o.ofk, keyA o.check, .lit (tx o.text), .sl 36 T]] 1 20) (fun x s => match x with | .exit _ => False | _ => Fin [(.tmp 2)] s _); unfold fb527 AS.init
  refine wp_sg (areg_bx rfl (by simp [AS.ev, AV.sz]) fun l1 => areg_end (by simp [push_cast]; exact rfl) ?_)
  refine wp_sg ?_
  by_cases h8 : o.boxes.length ≤ 8
  · refine areg_run 8 (by simp [push_cast, hml, h8, o5, o6]; exact rfl) ?_
    refine areg_g (b := true) (by simp [AS.ev, AS.put]) (areg_ca (by simp [AS.ev, AS.coe, AS.put] <;> exact rfl) cr ?_)
    cases ris with
    | false =>
      refine areg_run 2 (by simp [push_cast]; exact rfl) ?_
      refine areg_run 3 (by simp [push_cast]; exact rfl) ?_
      refine areg_end (by simp [push_cast]; exact rfl) (wp_ret' ?_)
      exact fin_tmp (by simp [RVal, AS.ev, AS.coe, h8]) (by simp)
    | true =>
      refine areg_run 4 (by simp [push_cast, o5, o6]; exact rfl) ?_
      refine areg_g (b := true) (by simp [AS.ev, AS.put]) (areg_rdp (us := [.ptr 1 l1 0 []]) rfl (mkfn_cloB _ _) ?_)
      refine areg_run 0 (by simp [push_cast]; exact rfl) ?_
      refine areg_g (b := true) (by simp [AS.ev, AS.put]) (areg_xq (us := [.sl 36 T, cloB 1 l1]) rfl (by simp only [tgtA, tgtB, Option.bind_some, hcC, if_true]) (cc _ l1 rfl) ⟨_, _, rfl, rfl⟩ (fun r hp' _ t' ht' => by cases ht') ?_)
      rintro r H' ⟨rfl, rfl⟩
      refine areg_end (by simp [push_cast]; exact rfl) (wp_ret' ?_)
      exact fin_tmp (by simp [RVal, AS.ev, AS.coe, h8]) (by simp)
  · refine areg_run 5 (by simp [push_cast, hml, h8, o5, o6]; exact rfl) ?_
    refine areg_run 3 (by simp [push_cast]; exact rfl) ?_
    refine areg_run 3 (by simp [push_cast]; exact rfl) ?_
    refine areg_run 3 (by simp [push_cast]; exact rfl) ?_
    refine areg_end (by simp [push_cast]; exact rfl) (wp_ret' ?_)
    exact fin_tmp (by simp [RVal, AS.ev, AS.coe, h8]) (by simp)
set_option maxHeartbeats 16000000 in
theorem who_call {o : OpV} (ho : OpOk o) : PCall Go.Proofs.Tryd.prog 19 [opA o] (.val (.lit (.bool (whoV o)))) := by
  have h526 := fc526_eq
  have hcC : callable Go.Proofs.Tryd.prog 40 = true := by kernel_rfl
  have cr : PCall Go.Proofs.Tryd.prog 39 [.st [1, 1] [.sl 1 (o.who.map fun x => AV.lit (ji x)), fnL 38]] _ := PCall.args (m := [.st [1, 1] [.sl 1 (o.who.map fun x => AV.lit (ji x)), .fnv (.func 38) [] []]]) ⟨RelLe.rowF _ _ _, trivial⟩ (risN_call (fn := .fnv (.func 38) [] []) (g := 38) (cmp := cmpN) (l := o.who) tgt_num rfl (fun a _ b _ => byNumber_call a b) ho.who)
  have cc := fun H => XCall.args (l := [.sl 1 (o.who.map fun x => AV.lit (ji x)), fnL 41]) (m := [.sl 1 (o.who.map fun x => AV.lit (ji x)), .fnv (.func 41) [] []]) ⟨RelLe.refl _, RelLe.fn _, trivial⟩ (conN_call (H := H) (clo := .fnv (.func 41) [] []) (g := 41) (as' := fun x => [.lit (ji x)]) (p := fun n => !memB n) (l := o.who) (fun x => tgt_mem _) rfl
    (fun L x hx => PCall.x _ (notmember_call x)) ho.who)
  have cin := containsN_call (v := o.author) (l := o.who) ho.who
  have hml : (o.who.map fun x => AV.lit (ji x)).length = o.who.length := List.length_map _
  have hopA : opA o = .st [1, 1, 1, 1, 1, 32, 32, 1, 1] [.lit (ji o.author), .lit (wn o.seq), .sl 32 (klA o.parents), .lit (ji o.kind), .sl 1 (o.who.map fun x => AV.lit (ji x)), keyA o.ofk, keyA o.check, .lit (tx o.text), .sl 36 (o.boxes.map fun x => boxA x)] := rfl
  have hhd : ∀ h : 0 < o.who.length, (o.who.map fun x => AV.lit (ji x))[0]? = some (.lit (ji (o.who.getD 0 0))) := fun h => by
    rw [List.getElem?_map, List.getElem?_eq_getElem h, List.getD_eq_getElem?_getD, List.getElem?_eq_getElem h]; rfl
  obtain ⟨_, _, _, hw, o5, o6, _, _, _⟩ := ho
  unfold whoV
  generalize risV cmpN o.who = ris at *
  generalize (o.who.any fun n => !memB n) = any at *
  generalize (o.who.any fun x => decide (o.author = x)) = cin0 at *
  generalize o.who.getD 0 0 = w0 at *
  generalize (o.who.map fun x => AV.lit (ji x)) = T at *
  rw [hopA]
  generalize hau : o.author = au at *
  generalize hkd : o.kind = kd at *
  refine PCall.of h526 rfl ?_; show AC.wp _ fb526 (AS.init [.st [1, 1, 1, 1, 1, 32, 32, 1, 1] [.lit (ji au), .lit (wn o.seq), .sl 32 (klA o.parents), .lit (ji kd), .sl 1 T, keyA o.ofk, keyA o.check, .lit (tx o.text), .sl 36 (o.boxes.map fun x => boxA x)]] 1 42) (fun x s => match x with | .exit _ => False | _ => Fin [(.tmp 2)] s _); unfold fb526 AS.init
  refine wp_sg (areg_bx rfl (by simp [AS.ev, AV.sz]) fun l1 => areg_end (by simp [push_cast]; exact rfl) ?_)
  refine wp_seq' (wp_seq' (wp_rg ?_))
  refine areg_run 3 (by simp [push_cast, o5, o6]; exact rfl) ?_
  refine areg_ca (by simp [AS.ev, AS.coe, AS.put] <;> exact rfl) cr ?_
  cases ris with
  | false =>
    refine areg_run 2 (by simp [push_cast]; exact rfl) ?_
    refine areg_run 3 (by simp [push_cast]; exact rfl) ?_
    refine areg_end (by simp [push_cast]; exact rfl) ?_
    refine wp_cond_t (by simp [AS.ev]) (wp_sr (by simp [push_cast]; exact rfl) (wp_ret' ?_))
    exact fin_tmp (by simp [RVal, AS.ev, AS.coe]) (by simp)
  | true =>
    refine areg_run 4 (by simp [push_cast, o5, o6]; exact rfl) ?_
    refine areg_g (b := false) (by simp [AS.ev, AS.put]) (areg_xq (us := [.sl 1 T, fnL 41]) rfl (by simp only [tgtA, tgtB, Option.bind_some, hcC, if_true]) (cc _) ⟨_, _, rfl, rfl⟩ (fun r hp' _ t' ht' => by cases ht') ?_)
    rintro r H' ⟨rfl, rfl⟩
    refine areg_end (by simp [push_cast]; exact rfl) ?_
    cases any with
    | true =>
      refine wp_cond_t (by simp [AS.ev]) (wp_sr (by simp [push_cast]; exact rfl) (wp_ret' ?_))
      exact fin_tmp (by simp [RVal, AS.ev, AS.coe]) (by simp)
    | false =>
      refine wp_cond_f (by simp [AS.ev]) (wp_skip' ?_)
      simp only [Bool.not_true, Bool.or_self, Bool.false_eq_true, if_false]
      refine wp_seq' (wp_sr (by simp [push_cast, o5, o6]; exact rfl) (wp_block' ?_))
      by_cases k1 : kd = 1
      · refine wp_sr (by simp [push_cast, k1]; exact rfl) (wp_cond_t (by simp [AS.ev, k1]) ?_)
        refine wp_sg ?_
        refine areg_run 4 (by simp [push_cast, o5, o6]; exact rfl) ?_
        refine areg_lc (by simp [AS.ev, AS.lend, AS.lendF, AS.put, AOp.ro, AS.blk] <;> exact rfl) rfl cin ?_
        refine areg_end (by simp [push_cast]; exact rfl) (wp_ret' ?_)
        rw [if_pos k1]
        exact fin_tmp (by simp [RVal, AS.ev, AS.coe]) (by simp)
      · rw [if_neg k1]
        refine wp_sr (by simp [push_cast]; exact rfl) (wp_cond_f (by simp [AS.ev, k1]) ?_)
        have key : ∀ b : Bool, b = decide (kd = 2 ∨ kd = 3) → True := fun _ _ => trivial
        by_cases k23 : kd = 2 ∨ kd = 3
        · rw [if_pos k23]
          have hfin : ∀ (s : AS), s = s → True := fun _ _ => trivial
          have step : ∀ (b2 b3 : Bool), True := fun _ _ => trivial
          by_cases hl1 : o.who.length = 1
          · have h0 := hhd (by omega)
            have h0' : ∀ h, T[0]'h = .lit (ji w0) := fun h => by rw [List.getElem?_eq_getElem h] at h0; exact Option.some.inj h0
            rcases k23 with k2 | k3
            · refine wp_seq' (wp_seq' (wp_r (by simp [push_cast, k2]; exact rfl) (wp_cond_t (by simp [AS.ev, k2]) (wp_skip' ?_))))
              refine wp_cond_t (by simp [AS.ev]) ?_
              refine wp_sg ?_
              refine areg_run 5 (by simp [push_cast, hml, hl1, o5, o6]; exact rfl) ?_
              refine areg_end (by simp [push_cast, hml, hl1, o5, o6, h0, h0']; exact rfl) (wp_ret' ?_)
              exact fin_tmp (by simp [RVal, AS.ev, AS.coe, hl1]) (by simp)
            · have k2 : ¬ kd = 2 := by omega
              refine wp_seq' (wp_seq' (wp_r (by simp [push_cast, k2]; exact rfl) (wp_cond_f (by simp [AS.ev, k2]) (wp_r (by simp [push_cast, k3]; exact rfl) ?_))))
              refine wp_cond_t (by simp [AS.ev]) ?_
              refine wp_sg ?_
              refine areg_run 5 (by simp [push_cast, hml, hl1, o5, o6]; exact rfl) ?_
              refine areg_end (by simp [push_cast, hml, hl1, o5, o6, h0, h0']; exact rfl) (wp_ret' ?_)
              exact fin_tmp (by simp [RVal, AS.ev, AS.coe, hl1]) (by simp)
          · rcases k23 with k2 | k3
            · refine wp_seq' (wp_seq' (wp_r (by simp [push_cast, k2]; exact rfl) (wp_cond_t (by simp [AS.ev, k2]) (wp_skip' ?_))))
              refine wp_cond_t (by simp [AS.ev]) ?_
              refine wp_sg ?_
              refine areg_run 5 (by simp [push_cast, hml, hl1, o5, o6]; exact rfl) ?_
              refine areg_run 4 (by simp [push_cast]; exact rfl) ?_
              refine areg_end (by simp [push_cast]; exact rfl) (wp_ret' ?_)
              exact fin_tmp (by simp [RVal, AS.ev, AS.coe, hl1]) (by simp)
            · have k2 : ¬ kd = 2 := by omega
              refine wp_seq' (wp_seq' (wp_r (by simp [push_cast, k2]; exact rfl) (wp_cond_f (by simp [AS.ev, k2]) (wp_r (by simp [push_cast, k3]; exact rfl) ?_))))
              refine wp_cond_t (by simp [AS.ev]) ?_
              refine wp_sg ?_
              refine areg_run 5 (by simp [push_cast, hml, hl1, o5, o6]; exact rfl) ?_
              refine areg_run 4 (by simp [push_cast]; exact rfl) ?_
              refine areg_end (by simp [push_cast]; exact rfl) (wp_ret' ?_)
              exact fin_tmp (by simp [RVal, AS.ev, AS.coe, hl1]) (by simp)
        · have k2 : ¬ kd = 2 := fun h => k23 (.inl h)
          have k3 : ¬ kd = 3 := fun h => k23 (.inr h)
          rw [if_neg k23]
          refine wp_seq' (wp_seq' (wp_r (by simp [push_cast, k2]; exact rfl) (wp_cond_f (by simp [AS.ev, k2]) (wp_r (by simp [push_cast, k3]; exact rfl) ?_))))
          refine wp_cond_f (by simp [AS.ev, k3]) (wp_skip' ?_)
          refine wp_sr (by simp [push_cast, hml, o5, o6]; exact rfl) (wp_ret' ?_)
          exact fin_tmp (by simp [RVal, AS.ev, AS.coe]) (by simp)
end Go.Cab
namespace Go.Cab
open Classical
def fb520 : AC := (.seq (.reg [⟨some 1, none, .box 71 (.tmp 0), [], none⟩, ⟨some 2, none, .mov (.const (.bool false)), [], none⟩]) (.seq (.reg [⟨some 7, none, .build (.arr 1 (List.replicate 32 (.lit (bn 0)))) [], [], none⟩, ⟨some 3, none, .alloc 32 (.arr 1 (List.replicate 32 (.lit (bn 0)))), [], none⟩, ⟨none, none, .store 32 (.tmp 3) (.tmp 7), [], none⟩]) (.seq (.reg [⟨some 8, none, .faddr 3 3 (.tmp 1), [], none⟩, ⟨some 9, none, .load false 1 (.tmp 8), [], none⟩, ⟨some 10, none, .bin .eql (.tmp 9) (.const (jn 5)), [], none⟩, ⟨some 11, none, .mov (.tmp 10), [], none⟩, ⟨some 12, some (11, false), .faddr 3 3 (.tmp 1), [], none⟩, ⟨some 13, some (11, false), .load false 1 (.tmp 12), [], none⟩, ⟨some 14, some (11, false), .bin .eql (.tmp 13) (.const (jn 6)), [], none⟩, ⟨some 15, none, .pick (.tmp 11) (.const (.bool true)) (.tmp 14), [], none⟩, ⟨some 16, none, .faddr 3 3 (.tmp 1), [], none⟩, ⟨some 17, none, .load false 1 (.tmp 16), [], none⟩, ⟨some 18, none, .bin .eql (.tmp 17) (.const (jn 7)), [], none⟩, ⟨some 19, none, .faddr 3 3 (.tmp 1), [], none⟩, ⟨some 20, none, .load false 1 (.tmp 19), [], none⟩, ⟨some 21, none, .bin .eql (.tmp 20) (.const (jn 1)), [], none⟩, ⟨some 4, none, .mov (.tmp 15), [], none⟩, ⟨some 5, none, .mov (.tmp 18), [], none⟩, ⟨some 6, none, .mov (.tmp 21), [], none⟩]) (.seq (.block 0 (.seq (.reg [⟨some 23, none, .faddr 0 0 (.tmp 1), [], none⟩, ⟨some 24, none, .load false 1 (.tmp 23), [], none⟩, ⟨some 25, none, .call 16 [.tmp 24], [], none⟩, ⟨some 26, none, .un .not (.tmp 25), [], none⟩, ⟨some 27, none, .mov (.tmp 26), [], none⟩, ⟨some 28, some (27, false), .faddr 1 1 (.tmp 1), [], none⟩, ⟨some 29, some (27, false), .load false 1 (.tmp 28), [], none⟩, ⟨some 30, some (27, false), .bin .eql (.tmp 29) (.const (wn 0)), [], none⟩, ⟨some 31, none, .pick (.tmp 27) (.const (.bool true)) (.tmp 30), [], none⟩, ⟨some 32, none, .mov (.tmp 31), [], none⟩, ⟨some 33, some (32, false), .faddr 3 3 (.tmp 1), [], none⟩, ⟨some 34, some (32, false), .load false 1 (.tmp 33), [], none⟩, ⟨some 35, some (32, false), .bin .lss (.tmp 34) (.const (jn 1)), [], none⟩, ⟨some 36, none, .pick (.tmp 32) (.const (.bool true)) (.tmp 35), [], none⟩, ⟨some 37, none, .mov (.tmp 36), [], none⟩, ⟨some 38, some (37, false), .faddr 3 3 (.tmp 1), [], none⟩, ⟨some 39, some (37, false), .load false 1 (.tmp 38), [], none⟩, ⟨some 40, some (37, false), .bin .gtr (.tmp 39) (.const (jn 7)), [], none⟩, ⟨some 41, none, .pick (.tmp 37) (.const (.bool true)) (.tmp 40), [], none⟩, ⟨some 22, none, .mov (.tmp 41), [], none⟩]) (.cond (.tmp 22) (.seq (.reg [⟨some 2, none, .mov (.const (.bool false)), [], none⟩]) .ret) (.seq (.reg [⟨some 43, none, .faddr 2 2 (.tmp 1), [], none⟩, ⟨some 44, none, .load false 1 (.tmp 43), [], none⟩, ⟨some 45, none, .len false (.tmp 44), [], none⟩, ⟨some 46, none, .bin .gtr (.tmp 45) (.const (jn 8)), [], none⟩, ⟨some 47, none, .mov (.tmp 46), [], none⟩, ⟨some 48, some (47, false), .faddr 2 2 (.tmp 1), [], none⟩, ⟨some 49, some (47, false), .load false 1 (.tmp 48), [], none⟩, ⟨some 50, some (47, false), .build (.st [1, 1] [(.lit (.slice .none 0 0)), (.lit .nilFunc)]) [(0, (.tmp 49)), (1, (.func 17))], [], none⟩, ⟨some 51, some (47, false), .call 18 [.tmp 50], [], none⟩, ⟨some 52, some (47, false), .un .not (.tmp 51), [], none⟩, ⟨some 53, none, .pick (.tmp 47) (.const (.bool true)) (.tmp 52), [], none⟩, ⟨some 54, none, .mov (.tmp 53), [], none⟩, ⟨some 55, some (54, false), .mov (.tmp 6), [], none⟩, ⟨some 56, some (54, false), .faddr 2 2 (.tmp 1), [], none⟩, ⟨some 57, some (54, false), .load false 1 (.tmp 56), [], none⟩, ⟨some 58, some (54, false), .len false (.tmp 57), [], none⟩, ⟨some 59, some (54, false), .bin .eql (.tmp 58) (.const (jn 0)), [], none⟩, ⟨some 60, some (54, false), .beq true (.tmp 55) (.tmp 59), [], none⟩, ⟨some 61, none, .pick (.tmp 54) (.const (.bool true)) (.tmp 60), [], none⟩, ⟨some 62, none, .mov (.tmp 61), [], none⟩, ⟨some 63, some (62, false), .mov (.tmp 6), [], none⟩, ⟨some 64, some (62, false), .mov (.tmp 63), [], none⟩, ⟨some 65, some (64, true), .faddr 1 1 (.tmp 1), [], none⟩, ⟨some 66, some (64, true), .load false 1 (.tmp 65), [], none⟩, ⟨some 67, some (64, true), .bin .neq (.tmp 66) (.const (wn 1)), [], none⟩, ⟨some 68, some (62, false), .pick (.tmp 64) (.tmp 67) (.const (.bool false)), [], none⟩, ⟨some 69, none, .pick (.tmp 62) (.const (.bool true)) (.tmp 68), [], none⟩, ⟨some 42, none, .mov (.tmp 69), [], none⟩]) (.cond (.tmp 42) (.seq (.reg [⟨some 2, none, .mov (.const (.bool false)), [], none⟩]) .ret) (.seq (.reg [⟨some 71, none, .mov (.tmp 4), [], none⟩, ⟨some 72, none, .faddr 5 5 (.tmp 1), [], none⟩, ⟨some 73, none, .load true 32 (.tmp 72), [], none⟩, ⟨some 74, none, .load true 32 (.tmp 3), [], none⟩, ⟨some 75, none, .eqv 26 true (.tmp 73) (.tmp 74), [], none⟩, ⟨some 76, none, .beq true (.tmp 71) (.tmp 75), [], none⟩, ⟨some 77, none, .mov (.tmp 76), [], none⟩, ⟨some 78, some (77, false), .mov (.tmp 5), [], none⟩, ⟨some 79, some (77, false), .faddr 37 6 (.tmp 1), [], none⟩, ⟨some 80, some (77, false), .load true 32 (.tmp 79), [], none⟩, ⟨some 81, some (77, false), .load true 32 (.tmp 3), [], none⟩, ⟨some 82, some (77, false), .eqv 26 true (.tmp 80) (.tmp 81), [], none⟩, ⟨some 83, some (77, false), .beq false (.tmp 78) (.tmp 82), [], none⟩, ⟨some 84, none, .pick (.tmp 77) (.const (.bool true)) (.tmp 83), [], none⟩, ⟨some 85, none, .mov (.tmp 84), [], none⟩, ⟨some 86, some (85, false), .mov (.tmp 5), [], none⟩, ⟨some 87, some (85, false), .faddr 69 7 (.tmp 1), [], none⟩, ⟨some 88, some (85, false), .load false 1 (.tmp 87), [], none⟩, ⟨some 89, some (85, false), .len true (.tmp 88), [], none⟩, ⟨some 90, some (85, false), .bin .gtr (.tmp 89) (.const (jn 0)), [], none⟩, ⟨some 91, some (85, false), .beq true (.tmp 86) (.tmp 90), [], none⟩, ⟨some 92, none, .pick (.tmp 85) (.const (.bool true)) (.tmp 91), [], none⟩, ⟨some 93, none, .mov (.tmp 92), [], none⟩, ⟨some 94, some (93, false), .faddr 69 7 (.tmp 1), [], none⟩, ⟨some 95, some (93, false), .load false 1 (.tmp 94), [], none⟩, ⟨some 96, some (93, false), .len true (.tmp 95), [], none⟩, ⟨some 97, some (93, false), .bin .gtr (.tmp 96) (.const (jn 256)), [], none⟩, ⟨some 98, none, .pick (.tmp 93) (.const (.bool true)) (.tmp 97), [], none⟩, ⟨some 70, none, .mov (.tmp 98), [], none⟩]) (.cond (.tmp 70) (.seq (.reg [⟨some 2, none, .mov (.const (.bool false)), [], none⟩]) .ret) .skip))))))) (.seq (.reg [⟨some 99, none, .load true 71 (.tmp 1), [], none⟩, ⟨some 100, none, .call 19 [.tmp 99], [], none⟩, ⟨some 101, none, .mov (.tmp 100), [], none⟩, ⟨some 102, some (101, true), .load true 71 (.tmp 1), [], none⟩, ⟨some 103, some (101, true), .call 20 [.tmp 102], [], none⟩, ⟨some 104, none, .pick (.tmp 101) (.tmp 103) (.const (.bool false)), [], none⟩, ⟨some 2, none, .mov (.tmp 104), [], none⟩]) .ret)))))
def fc520 : FC := ⟨1, 105, [(.tmp 2)], fb520⟩
theorem fc520_eq : compF Go.Proofs.Tryd.prog 7 = some fc520 := by kernel_rfl
theorem bin_eqlw (a b : Nat) : binVal .eql (wn a) (wn b) = some (.bool (decide (a = b))) := by
  simp only [binVal, wn, ne_eq, not_true_eq_false, if_false, Option.some.injEq, Value.bool.injEq]; rw [Bool.eq_iff_iff]; simp; try omega
theorem bin_neqw (a b : Nat) : binVal .neq (wn a) (wn b) = some (.bool (decide (a ≠ b))) := by
  simp only [binVal, wn, ne_eq, not_true_eq_false, if_false, Option.some.injEq, Value.bool.injEq]; rw [Bool.eq_iff_iff]; simp; try omega
attribute [push_cast] bin_eqlw bin_neqw
def c1V (o : OpV) : Bool := decide (memB o.author = false ∨ o.seq = 0 ∨ o.kind < 1 ∨ 7 < o.kind)
def c2V (o : OpV) : Bool := decide (8 < o.parents.length ∨ risV Go.Lib.compareBytes o.parents = false ∨ ¬ (o.kind = 1 ↔ o.parents.length = 0) ∨ (o.kind = 1 ∧ o.seq ≠ 1))
def c3V (o : OpV) : Bool := decide (¬ ((o.kind = 5 ∨ o.kind = 6) ↔ o.ofk ≠ zk) ∨ (o.kind = 7 ↔ o.check ≠ zk) ∨ ¬ (o.kind = 7 ↔ 0 < o.text.length) ∨ 256 < o.text.length)
def rightV (o : OpV) : Bool := !c1V o && !c2V o && !c3V o && (whoV o && boxesV o)
def rtS (A : AV) (l1 l3 : Nat × Nat) (y : Bool × Bool × Bool) : AS :=
  ⟨0, [A, .ptr 1 l1 0 [], .lit (.bool false), .ptr 3 l3 0 [], .lit (.bool y.1), .lit (.bool y.2.1), .lit (.bool y.2.2)] ++ List.replicate 98 .any, [none, some (.box l1 71 A), none, some (.box l3 32 (keyA zk))] ++ List.replicate 101 none⟩
def rtC (A : AV) (l1 l3 : Nat × Nat) (y : Bool × Bool × Bool) (i j : Nat) (c : Bool) : AS :=
  ⟨0, [A, .ptr 1 l1 0 [], .lit (.bool false), .ptr 3 l3 0 [], .lit (.bool y.1), .lit (.bool y.2.1), .lit (.bool y.2.2)] ++ List.replicate i .any ++ [.lit (.bool c)] ++ List.replicate j .any, [none, some (.box l1 71 A), none, some (.box l3 32 (keyA zk))] ++ List.replicate 101 none⟩
def opB (au : Int) (sq : Nat) (ps : List (List UInt8)) (kd : Int) (W : List AV) (ofk check text : List UInt8) (B : List AV) : AV := .st [1, 1, 1, 1, 1, 32, 32, 1, 1] [.lit (ji au), .lit (wn sq), .sl 32 (klA ps), .lit (ji kd), .sl 1 W, keyA ofk, keyA check, .lit (tx text), .sl 36 B]
section
variable {au kd : Int} {sq pn tl : Nat} {ps : List (List UInt8)} {W B : List AV} {ofk check text : List UInt8} {l1 l3 : Nat × Nat} {mem ris : Bool}
set_option maxHeartbeats 16000000 in
theorem chain1 {Q : AX → AS → Prop} {y : Bool × Bool × Bool} {b : AC} (o5 : ofk.length = 32) (o6 : check.length = 32) (cm : PCall Go.Proofs.Tryd.prog 16 [.lit (ji au)] (.val (.lit (.bool mem))))
    (k : ∀ c, c = decide (mem = false ∨ sq = 0 ∨ kd < 1 ∨ 7 < kd) → b.wp Go.Proofs.Tryd.prog (rtC (opB au sq ps kd W ofk check text B) l1 l3 y 15 82 c) Q) : (AC.seq (.reg [⟨(.some 23), .none, (.faddr 0 0 (.tmp 1)), [], .none⟩, ⟨(.some 24), .none, (.load .false 1 (.tmp 23)), [], .none⟩, ⟨(.some 25), .none, (.call 16 [(.tmp 24)]), [], .none⟩, ⟨(.some 26), .none, (.un .not (.tmp 25)), [], .none⟩, ⟨(.some 27), .none, (.mov (.tmp 26)), [], .none⟩, ⟨(.some 28), (.some (27, .false)), (.faddr 1 1 (.tmp 1)), [], .none⟩, ⟨(.some 29), (.some (27, .false)), (.load .false 1 (.tmp 28)), [], .none⟩, ⟨(.some 30), (.some (27, .false)), (.bin .eql (.tmp 29) (.const (wn 0))), [], .none⟩, ⟨(.some 31), .none, (.pick (.tmp 27) (.const (.bool .true)) (.tmp 30)), [], .none⟩, ⟨(.some 32), .none, (.mov (.tmp 31)), [], .none⟩, ⟨(.some 33), (.some (32, .false)), (.faddr 3 3 (.tmp 1)), [], .none⟩, ⟨(.some 34), (.some (32, .false)), (.load .false 1 (.tmp 33)), [], .none⟩, ⟨(.some 35), (.some (32, .false)), (.bin .lss (.tmp 34) (.const (jn 1))), [], .none⟩, ⟨(.some 36), .none, (.pick (.tmp 32) (.const (.bool .true)) (.tmp 35)), [], .none⟩, ⟨(.some 37), .none, (.mov (.tmp 36)), [], .none⟩, ⟨(.some 38), (.some (37, .false)), (.faddr 3 3 (.tmp 1)), [], .none⟩, ⟨(.some 39), (.some (37, .false)), (.load .false 1 (.tmp 38)), [], .none⟩, ⟨(.some 40), (.some (37, .false)), (.bin .gtr (.tmp 39) (.const (jn 7))), [], .none⟩, ⟨(.some 41), .none, (.pick (.tmp 37) (.const (.bool .true)) (.tmp 40)), [], .none⟩, ⟨(.some 22), .none, (.mov (.tmp 41)), [], .none⟩]) b).wp Go.Proofs.Tryd.prog (rtS (opB au sq ps kd W ofk check text B) l1 l3 y) Q := by
  refine wp_seqM (fun c => rtC (opB au sq ps kd W ofk check text B) l1 l3 y 15 82 c) (fun c => c = decide (mem = false ∨ sq = 0 ∨ kd < 1 ∨ 7 < kd)) k (wp_rg ?_)
  unfold rtS opB
  refine areg_run 2 (by simp [push_cast, o5, o6]; exact rfl) ?_
  refine areg_ca (by simp [AS.ev, AS.coe, AS.put] <;> exact rfl) cm ?_
  cases mem with
  | false =>
    refine areg_run 2 (by simp [push_cast]; exact rfl) ?_
    refine areg_run 5 (by simp [push_cast]; exact rfl) ?_
    refine areg_run 5 (by simp [push_cast]; exact rfl) ?_
    refine areg_end (by simp [push_cast]; exact rfl) ?_
    refine ⟨true, by simp, Le.mk rfl (by simp [rtC, leT, keyA, opB]) (by simp [rtC, leH, keyA, opB])⟩
  | true =>
  by_cases a2 : sq = 0
  · refine areg_run 6 (by simp [push_cast, o5, o6, a2]; exact rfl) ?_
    refine areg_run 5 (by simp [push_cast]; exact rfl) ?_
    refine areg_end (by simp [push_cast]; exact rfl) ?_
    refine ⟨true, by simp [a2], Le.mk rfl (by simp [rtC, leT, keyA, opB, a2]) (by simp [rtC, leH, keyA, opB, a2])⟩
  by_cases a3 : kd < 1
  · refine areg_run 6 (by simp [push_cast, o5, o6, a2]; exact rfl) ?_
    refine areg_run 6 (by simp [push_cast, o5, o6, a3]; exact rfl) ?_
    refine areg_end (by simp [push_cast]; exact rfl) ?_
    refine ⟨true, by simp [a3], Le.mk rfl (by simp [rtC, leT, keyA, opB]) (by simp [rtC, leH, keyA, opB])⟩
  by_cases a4 : 7 < kd
  · refine areg_run 6 (by simp [push_cast, o5, o6, a2]; exact rfl) ?_
    refine areg_run 6 (by simp [push_cast, o5, o6, a3]; exact rfl) ?_
    refine areg_end (by simp [push_cast, o5, o6, a4]; exact rfl) ?_
    refine ⟨true, by simp [a4], Le.mk rfl (by simp [rtC, leT, keyA, opB]) (by simp [rtC, leH, keyA, opB])⟩
  refine areg_run 6 (by simp [push_cast, o5, o6, a2]; exact rfl) ?_
  refine areg_run 6 (by simp [push_cast, o5, o6, a3]; exact rfl) ?_
  refine areg_end (by simp [push_cast, o5, o6, a4]; exact rfl) ?_
  refine ⟨false, by simp [a2, a3, a4], Le.mk rfl (by simp [rtC, leT, keyA, opB]) (by simp [rtC, leH, keyA, opB])⟩
set_option maxHeartbeats 16000000 in
theorem chain2 {Q : AX → AS → Prop} {b : AC} {ac sa : Bool} {c0 : Bool} (hpl : (klA ps).length = pn) (o5 : ofk.length = 32) (o6 : check.length = 32) (cr : PCall Go.Proofs.Tryd.prog 18 [.st [1, 1] [.sl 32 (klA ps), fnL 17]] (.val (.lit (.bool ris))))
    (k : ∀ c, c = decide (8 < pn ∨ ris = false ∨ ¬ (kd = 1 ↔ pn = 0) ∨ (kd = 1 ∧ sq ≠ 1)) → b.wp Go.Proofs.Tryd.prog (rtC (opB au sq ps kd W ofk check text B) l1 l3 (ac, sa, decide (kd = 1)) 35 62 c) Q) : (AC.seq (.reg [⟨(.some 43), .none, (.faddr 2 2 (.tmp 1)), [], .none⟩, ⟨(.some 44), .none, (.load .false 1 (.tmp 43)), [], .none⟩, ⟨(.some 45), .none, (.len .false (.tmp 44)), [], .none⟩, ⟨(.some 46), .none, (.bin .gtr (.tmp 45) (.const (jn 8))), [], .none⟩, ⟨(.some 47), .none, (.mov (.tmp 46)), [], .none⟩, ⟨(.some 48), (.some (47, .false)), (.faddr 2 2 (.tmp 1)), [], .none⟩, ⟨(.some 49), (.some (47, .false)), (.load .false 1 (.tmp 48)), [], .none⟩, ⟨(.some 50), (.some (47, .false)), (.build (.st [1, 1] [(.lit (.slice .none 0 0)), (.lit .nilFunc)]) [(0, (.tmp 49)), (1, (.func 17))]), [], .none⟩, ⟨(.some 51), (.some (47, .false)), (.call 18 [(.tmp 50)]), [], .none⟩, ⟨(.some 52), (.some (47, .false)), (.un .not (.tmp 51)), [], .none⟩, ⟨(.some 53), .none, (.pick (.tmp 47) (.const (.bool .true)) (.tmp 52)), [], .none⟩, ⟨(.some 54), .none, (.mov (.tmp 53)), [], .none⟩, ⟨(.some 55), (.some (54, .false)), (.mov (.tmp 6)), [], .none⟩, ⟨(.some 56), (.some (54, .false)), (.faddr 2 2 (.tmp 1)), [], .none⟩, ⟨(.some 57), (.some (54, .false)), (.load .false 1 (.tmp 56)), [], .none⟩, ⟨(.some 58), (.some (54, .false)), (.len .false (.tmp 57)), [], .none⟩, ⟨(.some 59), (.some (54, .false)), (.bin .eql (.tmp 58) (.const (jn 0))), [], .none⟩, ⟨(.some 60), (.some (54, .false)), (.beq .true (.tmp 55) (.tmp 59)), [], .none⟩, ⟨(.some 61), .none, (.pick (.tmp 54) (.const (.bool .true)) (.tmp 60)), [], .none⟩, ⟨(.some 62), .none, (.mov (.tmp 61)), [], .none⟩, ⟨(.some 63), (.some (62, .false)), (.mov (.tmp 6)), [], .none⟩, ⟨(.some 64), (.some (62, .false)), (.mov (.tmp 63)), [], .none⟩, ⟨(.some 65), (.some (64, .true)), (.faddr 1 1 (.tmp 1)), [], .none⟩, ⟨(.some 66), (.some (64, .true)), (.load .false 1 (.tmp 65)), [], .none⟩, ⟨(.some 67), (.some (64, .true)), (.bin .neq (.tmp 66) (.const (wn 1))), [], .none⟩, ⟨(.some 68), (.some (62, .false)), (.pick (.tmp 64) (.tmp 67) (.const (.bool .false))), [], .none⟩, ⟨(.some 69), .none, (.pick (.tmp 62) (.const (.bool .true)) (.tmp 68)), [], .none⟩, ⟨(.some 42), .none, (.mov (.tmp 69)), [], .none⟩]) b).wp Go.Proofs.Tryd.prog (rtC (opB au sq ps kd W ofk check text B) l1 l3 (ac, sa, decide (kd = 1)) 15 82 c0) Q := by
  refine wp_seqM (fun c => rtC (opB au sq ps kd W ofk check text B) l1 l3 (ac, sa, decide (kd = 1)) 35 62 c) (fun c => c = decide (8 < pn ∨ ris = false ∨ ¬ (kd = 1 ↔ pn = 0) ∨ (kd = 1 ∧ sq ≠ 1))) k (wp_rg ?_)
  simp only [rtC, opB]
  by_cases b1 : 8 < pn
  · refine areg_run 5 (by simp [push_cast, hpl, o5, o6, b1]; exact rfl) ?_
    refine areg_run 5 (by simp [push_cast]; exact rfl) ?_
    refine areg_run 5 (by simp [push_cast]; exact rfl) ?_
    refine areg_run 5 (by simp [push_cast]; exact rfl) ?_
    refine areg_run 5 (by simp [push_cast]; exact rfl) ?_
    refine areg_end (by simp [push_cast]; exact rfl) ?_
    refine ⟨true, by simp [b1], Le.mk rfl (by simp [rtC, leT, keyA, opB]) (by simp [rtC, leH, keyA, opB])⟩
  refine areg_run 8 (by simp [push_cast, hpl, o5, o6, b1]; exact rfl) ?_
  refine areg_g (b := false) (by simp [AS.ev, AS.put]) (areg_ca (by simp [AS.ev, AS.coe, AS.put] <;> exact rfl) cr ?_)
  cases ris with
  | false =>
    refine areg_run 3 (by simp [push_cast]; exact rfl) ?_
    refine areg_run 5 (by simp [push_cast]; exact rfl) ?_
    refine areg_run 5 (by simp [push_cast]; exact rfl) ?_
    refine areg_end (by simp [push_cast]; exact rfl) ?_
    refine ⟨true, by simp, Le.mk rfl (by simp [rtC, leT, keyA, opB]) (by simp [rtC, leH, keyA, opB])⟩
  | true =>
  by_cases b2 : kd = 1
  · subst b2
    by_cases b3 : pn = 0
    · by_cases b4 : sq = 1
      · subst b4
        refine areg_run 10 (by simp [push_cast, hpl, o5, o6, b3]; exact rfl) ?_
        refine areg_end (by simp [push_cast, o5, o6]; exact rfl) ?_
        refine ⟨false, by simp [b1, b3], Le.mk rfl (by simp [rtC, leT, keyA, opB]) (by simp [rtC, leH, keyA, opB])⟩
      · refine areg_run 10 (by simp [push_cast, hpl, o5, o6, b3]; exact rfl) ?_
        refine areg_end (by simp [push_cast, o5, o6, b4]; exact rfl) ?_
        refine ⟨true, by simp [b4], Le.mk rfl (by simp [rtC, leT, keyA, opB]) (by simp [rtC, leH, keyA, opB])⟩
    · refine areg_run 10 (by simp [push_cast, hpl, o5, o6, b3]; exact rfl) ?_
      refine areg_run 4 (by simp [push_cast]; exact rfl) ?_
      refine areg_end (by simp [push_cast]; exact rfl) ?_
      refine ⟨true, by simp [b3], Le.mk rfl (by simp [rtC, leT, keyA, opB]) (by simp [rtC, leH, keyA, opB])⟩
  · by_cases b3 : pn = 0
    · refine areg_run 10 (by simp [push_cast, hpl, o5, o6, b3, b2]; exact rfl) ?_
      refine areg_run 4 (by simp [push_cast]; exact rfl) ?_
      refine areg_end (by simp [push_cast]; exact rfl) ?_
      refine ⟨true, by simp [b3, b2], Le.mk rfl (by simp [rtC, leT, keyA, opB, b2]) (by simp [rtC, leH, keyA, opB, b2])⟩
    · refine areg_run 10 (by simp [push_cast, hpl, o5, o6, b3, b2]; exact rfl) ?_
      refine areg_run 4 (by simp [push_cast, b2]; exact rfl) ?_
      refine areg_end (by simp [push_cast]; exact rfl) ?_
      refine ⟨false, by simp [b3, b2, b1], Le.mk rfl (by simp [rtC, leT, keyA, opB, b2]) (by simp [rtC, leH, keyA, opB, b2])⟩
set_option maxHeartbeats 16000000 in
theorem chain3 {Q : AX → AS → Prop} {b : AC} {bg : Bool} {c0 ofz chz : Bool} (htl : text.length = tl) (o5 : ofk.length = 32) (o6 : check.length = 32) (eof : EqAV Go.Proofs.Tryd.prog 26 (keyA ofk) (keyA zk) (!ofz)) (ech : EqAV Go.Proofs.Tryd.prog 26 (keyA check) (keyA zk) (!chz))
    (k : ∀ c, c = decide (¬ ((kd = 5 ∨ kd = 6) ↔ ofz = true) ∨ (kd = 7 ↔ chz = true) ∨ ¬ (kd = 7 ↔ 0 < tl) ∨ 256 < tl) → b.wp Go.Proofs.Tryd.prog (rtC (opB au sq ps kd W ofk check text B) l1 l3 (decide (kd = 5 ∨ kd = 6), decide (kd = 7), bg) 63 34 c) Q) : (AC.seq (.reg [⟨(.some 71), .none, (.mov (.tmp 4)), [], .none⟩, ⟨(.some 72), .none, (.faddr 5 5 (.tmp 1)), [], .none⟩, ⟨(.some 73), .none, (.load .true 32 (.tmp 72)), [], .none⟩, ⟨(.some 74), .none, (.load .true 32 (.tmp 3)), [], .none⟩, ⟨(.some 75), .none, (.eqv 26 .true (.tmp 73) (.tmp 74)), [], .none⟩, ⟨(.some 76), .none, (.beq .true (.tmp 71) (.tmp 75)), [], .none⟩, ⟨(.some 77), .none, (.mov (.tmp 76)), [], .none⟩, ⟨(.some 78), (.some (77, .false)), (.mov (.tmp 5)), [], .none⟩, ⟨(.some 79), (.some (77, .false)), (.faddr 37 6 (.tmp 1)), [], .none⟩, ⟨(.some 80), (.some (77, .false)), (.load .true 32 (.tmp 79)), [], .none⟩, ⟨(.some 81), (.some (77, .false)), (.load .true 32 (.tmp 3)), [], .none⟩, ⟨(.some 82), (.some (77, .false)), (.eqv 26 .true (.tmp 80) (.tmp 81)), [], .none⟩, ⟨(.some 83), (.some (77, .false)), (.beq .false (.tmp 78) (.tmp 82)), [], .none⟩, ⟨(.some 84), .none, (.pick (.tmp 77) (.const (.bool .true)) (.tmp 83)), [], .none⟩, ⟨(.some 85), .none, (.mov (.tmp 84)), [], .none⟩, ⟨(.some 86), (.some (85, .false)), (.mov (.tmp 5)), [], .none⟩, ⟨(.some 87), (.some (85, .false)), (.faddr 69 7 (.tmp 1)), [], .none⟩, ⟨(.some 88), (.some (85, .false)), (.load .false 1 (.tmp 87)), [], .none⟩, ⟨(.some 89), (.some (85, .false)), (.len .true (.tmp 88)), [], .none⟩, ⟨(.some 90), (.some (85, .false)), (.bin .gtr (.tmp 89) (.const (jn 0))), [], .none⟩, ⟨(.some 91), (.some (85, .false)), (.beq .true (.tmp 86) (.tmp 90)), [], .none⟩, ⟨(.some 92), .none, (.pick (.tmp 85) (.const (.bool .true)) (.tmp 91)), [], .none⟩, ⟨(.some 93), .none, (.mov (.tmp 92)), [], .none⟩, ⟨(.some 94), (.some (93, .false)), (.faddr 69 7 (.tmp 1)), [], .none⟩, ⟨(.some 95), (.some (93, .false)), (.load .false 1 (.tmp 94)), [], .none⟩, ⟨(.some 96), (.some (93, .false)), (.len .true (.tmp 95)), [], .none⟩, ⟨(.some 97), (.some (93, .false)), (.bin .gtr (.tmp 96) (.const (jn 256))), [], .none⟩, ⟨(.some 98), .none, (.pick (.tmp 93) (.const (.bool .true)) (.tmp 97)), [], .none⟩, ⟨(.some 70), .none, (.mov (.tmp 98)), [], .none⟩]) b).wp Go.Proofs.Tryd.prog (rtC (opB au sq ps kd W ofk check text B) l1 l3 (decide (kd = 5 ∨ kd = 6), decide (kd = 7), bg) 35 62 c0) Q := by
  refine wp_seqM (fun c => rtC (opB au sq ps kd W ofk check text B) l1 l3 (decide (kd = 5 ∨ kd = 6), decide (kd = 7), bg) 63 34 c) (fun c => c = decide (¬ ((kd = 5 ∨ kd = 6) ↔ ofz = true) ∨ (kd = 7 ↔ chz = true) ∨ ¬ (kd = 7 ↔ 0 < tl) ∨ 256 < tl)) k (wp_rg ?_)
  clear k
  simp only [rtC, opB]
  obtain ⟨ac, hac⟩ : ∃ ac, ac = decide (kd = 5 ∨ kd = 6) := ⟨_, rfl⟩
  obtain ⟨sa, hsa⟩ : ∃ sa, sa = decide (kd = 7) := ⟨_, rfl⟩
  have hc : ∀ c, c = (decide (ac ≠ ofz) || decide (sa = chz) || decide (sa ≠ decide (0 < tl)) || decide (256 < tl)) → c = decide (¬ ((kd = 5 ∨ kd = 6) ↔ ofz = true) ∨ (kd = 7 ↔ chz = true) ∨ ¬ (kd = 7 ↔ 0 < tl) ∨ 256 < tl) := by
    rintro c rfl
    have h1 : ((kd = 5 ∨ kd = 6) ↔ ofz = true) ↔ ac = ofz := by rw [hac]; cases ofz <;> simp
    have h2 : (kd = 7 ↔ chz = true) ↔ sa = chz := by rw [hsa]; cases chz <;> simp
    have h3 : (kd = 7 ↔ 0 < tl) ↔ sa = decide (0 < tl) := by
      rw [hsa]
      exact ⟨fun h => decide_eq_decide.2 h, fun h => decide_eq_decide.1 h⟩
    rw [Bool.eq_iff_iff]
    simp only [Bool.or_eq_true, decide_eq_true_iff, h1, h2, h3]
    constructor
    · rintro (((h | h) | h) | h)
      · exact .inl h
      · exact .inr (.inl h)
      · exact .inr (.inr (.inl h))
      · exact .inr (.inr (.inr h))
    · rintro (h | h | h | h)
      · exact .inl (.inl (.inl h))
      · exact .inl (.inl (.inr h))
      · exact .inl (.inr h)
      · exact .inr h
  rw [← hac, ← hsa]
  clear hac hsa
  have htl2 : ∀ (s : AS) (ro : Nat → Bool), lenA s ro true (.lit (tx text)) = some (.lit (jn tl)) := fun s ro => by rw [lenA_tx, htl]
  refine areg_run 4 (by simp [push_cast, o5, o6]; exact rfl) ?_
  refine areg_eq (by simp [AS.ev, AS.put] <;> exact rfl) (by simp [AS.ev, AS.put] <;> exact rfl) eof rfl rfl ?_
  cases ac <;> cases ofz
  case false.true | true.false =>
    refine areg_run 2 (by simp [push_cast]; exact rfl) ?_
    refine areg_run 5 (by simp [push_cast]; exact rfl) ?_
    refine areg_run 5 (by simp [push_cast]; exact rfl) ?_
    refine areg_run 5 (by simp [push_cast]; exact rfl) ?_
    refine areg_end (by simp [push_cast]; exact rfl) ?_
    refine ⟨true, hc _ (by simp), Le.mk rfl (by simp [leT, keyA]) (by simp [leH, keyA])⟩
  all_goals
    refine areg_run 6 (by simp [push_cast, o5, o6]; exact rfl) ?_
    refine areg_g (b := false) (by simp [AS.ev, AS.put]) (areg_eq (by simp [AS.ev, AS.put] <;> exact rfl) (by simp [AS.ev, AS.put] <;> exact rfl) ech rfl rfl ?_)
    cases sa <;> cases chz
    case false.false | true.true =>
      refine areg_run 3 (by simp [push_cast]; exact rfl) ?_
      refine areg_run 5 (by simp [push_cast]; exact rfl) ?_
      refine areg_run 5 (by simp [push_cast]; exact rfl) ?_
      refine areg_end (by simp [push_cast]; exact rfl) ?_
      refine ⟨true, hc _ (by simp), Le.mk rfl (by simp [leT, keyA]) (by simp [leH, keyA])⟩
    all_goals
      by_cases t0 : 0 < tl <;> by_cases t2 : 256 < tl
      all_goals
        refine areg_run 4 (by simp [push_cast, o5, o6]; exact rfl) ?_
        refine areg_run 3 (by simp [push_cast, htl, t0]; exact rfl) ?_
        refine areg_run 3 (by simp [push_cast, htl, t0]; exact rfl) ?_
        refine areg_end (by simp [push_cast, o5, o6, htl, t2]; exact rfl) ?_
        exact ⟨_, hc _ rfl, Le.mk rfl (by simp [leT, keyA, t0, t2]) (by simp [leH, keyA])⟩
end
set_option maxHeartbeats 16000000 in
theorem right_call {o : OpV} (ho : OpOk o) (hbl : ∀ b ∈ o.boxes, b.body.length < 9223372036854775808) : PCall Go.Proofs.Tryd.prog 7 [opA o] (.val (.lit (.bool (rightV o)))) := by
  have h520 := fc520_eq
  have cm := member_call o.author
  have cr : PCall Go.Proofs.Tryd.prog 18 [.st [1, 1] [.sl 32 (klA o.parents), fnL 17]] _ := PCall.args (m := [.st [1, 1] [.sl 32 (klA o.parents), .fnv (.func 17) [] []]]) ⟨RelLe.rowF _ _ _, trivial⟩ (risK_call (fn := .fnv (.func 17) [] []) (g := 17) (cmp := Go.Lib.compareBytes) (l := o.parents) tgt_key rfl (fun a ha b hb => byKey_call (ho.p32 a ha) (ho.p32 b hb)) ho.parents ho.p32)
  have cw := who_call ho
  have cb := boxes_call ho hbl
  have eof : EqAV Go.Proofs.Tryd.prog 26 (keyA o.ofk) (keyA zk) (!decide (o.ofk ≠ zk)) := by simpa using eq_key ho.ofk zk_len
  have ech : EqAV Go.Proofs.Tryd.prog 26 (keyA o.check) (keyA zk) (!decide (o.check ≠ zk)) := by simpa using eq_key ho.check zk_len
  have hpl := klA_len o.parents
  have o5 := ho.ofk
  have o6 := ho.check
  have hfin : ∀ (b : Bool) (s : AS), b = rightV o → s.ev (.tmp 2) = .lit (.bool b) → Fin [.tmp 2] s (.val (.lit (.bool (rightV o)))) := fun b s e h => by
    rw [← e]
    exact fin_tmp (by simp [RVal, h, AS.coe]) (by simp)
  have hA : opA o = opB o.author o.seq o.parents o.kind (o.who.map fun x => AV.lit (ji x)) o.ofk o.check o.text (o.boxes.map fun x => boxA x) := rfl
  have hrv : rightV o = (!c1V o && !c2V o && !c3V o && (whoV o && boxesV o)) := rfl
  have hc1 : ∀ c, c = decide (memB o.author = false ∨ o.seq = 0 ∨ o.kind < 1 ∨ 7 < o.kind) → c = c1V o := fun _ h => h
  have hc2 : ∀ c, c = decide (8 < o.parents.length ∨ risV Go.Lib.compareBytes o.parents = false ∨ ¬ (o.kind = 1 ↔ o.parents.length = 0) ∨ (o.kind = 1 ∧ o.seq ≠ 1)) → c = c2V o := fun _ h => h
  have hc3 : ∀ c, c = decide (¬ ((o.kind = 5 ∨ o.kind = 6) ↔ decide (o.ofk ≠ zk) = true) ∨ (o.kind = 7 ↔ decide (o.check ≠ zk) = true) ∨ ¬ (o.kind = 7 ↔ 0 < o.text.length) ∨ 256 < o.text.length) → c = c3V o := fun c h => by
    rw [h]; unfold c3V; simp only [decide_eq_true_iff]
  rw [hA] at cw cb ⊢
  generalize hW : whoV o = wv at *
  generalize hB : boxesV o = bv at *
  generalize c1V o = v1 at *
  generalize c2V o = v2 at *
  generalize c3V o = v3 at *
  generalize rightV o = rv at *
  generalize (o.who.map fun x => AV.lit (ji x)) = W at *
  generalize (o.boxes.map fun x => boxA x) = B at *
  refine PCall.of h520 rfl ?_; show AC.wp _ fb520 (AS.init [opB o.author o.seq o.parents o.kind W o.ofk o.check o.text B] 1 105) (fun x s => match x with | .exit _ => False | _ => Fin [(.tmp 2)] s _); unfold fb520 AS.init
  refine wp_sg (areg_bx rfl (by simp [AS.ev, AV.sz, opB, keyA, o5, o6]) fun l1 => areg_end (by simp [push_cast]; exact rfl) ?_)
  refine wp_sg (areg_bz ?_)
  refine areg_al' zk_eq.symm fun l3 => areg_end (by simp [push_cast, opB]; exact rfl) ?_
  refine wp_seqM (fun y : Bool × Bool × Bool => rtS (opB o.author o.seq o.parents o.kind W o.ofk o.check o.text B) l1 l3 y) (fun y => y = (decide (o.kind = 5 ∨ o.kind = 6), decide (o.kind = 7), decide (o.kind = 1))) ?_ ?_
  rotate_left
  · by_cases k5 : o.kind = 5
    · refine wp_rg ?_
      refine areg_run 4 (by simp [push_cast, k5]; exact rfl) ?_
      refine areg_run 4 (by simp [push_cast]; exact rfl) ?_
      refine areg_end (by simp [push_cast]; exact rfl) ?_
      exact ⟨_, rfl, Le.mk rfl (by simp [rtS, leT, k5, keyA, opB]) (by simp [rtS, leH, k5, keyA, opB])⟩
    · refine wp_rg ?_
      refine areg_run 4 (by simp [push_cast, k5]; exact rfl) ?_
      refine areg_run 4 (by simp [push_cast]; exact rfl) ?_
      refine areg_end (by simp [push_cast]; exact rfl) ?_
      exact ⟨_, rfl, Le.mk rfl (by simp [rtS, leT, k5, keyA, opB]) (by simp [rtS, leH, k5, keyA, opB])⟩
  rintro y rfl
  refine wp_seq' (wp_block' ?_)
  refine chain1 o5 o6 cm fun c e1 => ?_
  have e1' := hc1 c e1
  subst e1'
  cases c with
  | true =>
    refine wp_cond_t rfl ?_
    unfold rtC
    refine wp_sr (by simp [push_cast]; exact rfl) (wp_ret' ?_)
    exact hfin false _ (by rw [hrv]; rfl) rfl
  | false =>
  refine wp_cond_f rfl ?_
  refine chain2 hpl o5 o6 cr fun c e2 => ?_
  have e2' := hc2 c e2
  subst e2'
  cases c with
  | true =>
    refine wp_cond_t rfl ?_
    unfold rtC
    refine wp_sr (by simp [push_cast]; exact rfl) (wp_ret' ?_)
    exact hfin false _ (by rw [hrv]; rfl) rfl
  | false =>
  refine wp_cond_f rfl ?_
  refine chain3 rfl o5 o6 eof ech fun c e3 => ?_
  have e3' := hc3 c e3
  subst e3'
  cases c with
  | true =>
    refine wp_cond_t rfl ?_
    unfold rtC
    refine wp_sr (by simp [push_cast]; exact rfl) (wp_ret' ?_)
    exact hfin false _ (by rw [hrv]; rfl) rfl
  | false =>
  refine wp_cond_f rfl (wp_skip' ?_)
  unfold rtC opB
  unfold opB keyA at cw cb
  refine wp_sg ?_
  refine areg_run 1 (by simp [push_cast, o5, o6]; exact rfl) ?_
  refine areg_ca (by simp [AS.ev, AS.coe, AS.put] <;> exact rfl) cw ?_
  cases wv with
  | false =>
    refine areg_run 1 (by simp [push_cast]; exact rfl) ?_
    refine areg_run 2 (by simp [push_cast]; exact rfl) ?_
    refine areg_end (by simp [push_cast]; exact rfl) (wp_ret' ?_)
    exact hfin false _ (by rw [hrv]; rfl) rfl
  | true =>
    refine areg_run 2 (by simp [push_cast, o5, o6]; exact rfl) ?_
    refine areg_g (b := true) (by simp [AS.ev, AS.put]) (areg_ca (by simp [AS.ev, AS.coe, AS.put] <;> exact rfl) cb ?_)
    refine areg_end (by simp [push_cast]; exact rfl) (wp_ret' ?_)
    exact hfin bv _ (by rw [hrv]; simp) rfl
end Go.Cab
namespace Go.Cab
open Classical
def smallV (n : Nat) : Int := if 1073741824 < n then -1 else (n : Int)
def minV (n : Nat) : Int := if n < 1073741824 then (n : Int) else 1073741824
def rdSmall (s : RS) : Int × RS := (smallV (rdNum s).1, (rdNum s).2)
theorem Cod.small : Cod (fun n : Int => numB n.toNat) (fun n => 0 ≤ n ∧ n ≤ 1073741824) rdSmall :=
  Cod.num.map smallV Int.toNat (fun y h => ⟨by omega, by unfold smallV; rw [if_neg (by omega)]; omega⟩) (fun x h => by
    unfold smallV at h ⊢
    by_cases hx : 1073741824 < x
    · rw [if_pos hx] at h; omega
    · rw [if_neg hx]; omega)
def rdWho (s : RS) : List Int × RS := ((rdList rdNum 8 s).1.map minV, (rdList rdNum 8 s).2)
theorem map_back {α β : Type} {f : α → β} {g : β → α} {p : β → Prop} (h : ∀ x, p (f x) → g (f x) = x) : ∀ l : List α, (∀ y ∈ l.map f, p y) → (l.map f).map g = l
  | [], _ => rfl
  | x :: l, hl => by
    simp only [List.map_cons] at hl ⊢
    rw [h x (hl _ (by simp)), map_back h l fun y hy => hl y (List.mem_cons_of_mem _ hy)]
theorem map_forth {α β : Type} {f : α → β} {g : β → α} {p : β → Prop} (h : ∀ y, p y → f (g y) = y) : ∀ l : List β, (∀ y ∈ l, p y) → (l.map g).map f = l
  | [], _ => rfl
  | y :: l, hl => by
    simp only [List.map_cons]
    rw [h y (hl _ (by simp)), map_forth h l fun z hz => hl z (List.mem_cons_of_mem _ hz)]
def memN (n : Int) : Prop := 0 ≤ n ∧ n < 8
theorem minV_back {x : Nat} (h : memN (minV x)) : (minV x).toNat = x := by
  unfold memN minV at *
  split at h <;> simp_all
theorem minV_forth {y : Int} (h : memN y) : minV y.toNat = y := by
  unfold memN minV at *
  rw [if_pos (by omega)]
  omega
def encNs (l : List Nat) : List UInt8 := numB l.length ++ l.flatMap numB
theorem Cod.who : Cod (fun l : List Int => encNs (l.map Int.toNat)) (fun l => l.length ≤ 8 ∧ ∀ x ∈ l, memN x) rdWho :=
  (Cod.num.list (most := 8) (by omega)).map (List.map minV) (List.map Int.toNat)
    (fun l h => ⟨⟨by simpa using h.1, fun x hx => by
      obtain ⟨y, hy, rfl⟩ := List.mem_map.1 hx
      have := h.2 y hy
      unfold memN at this
      omega⟩, map_forth (p := memN) (fun y hy => minV_forth hy) l h.2⟩)
    (fun l h => map_back (p := memN) (fun x hx => minV_back hx) l h.2)
def boxRest (s : RS) : (List UInt8 × Nat × Nat × List UInt8) × RS :=
  (((rdKey s).1, (rdNum (rdKey s).2).1, (rdNum (rdNum (rdKey s).2).2).1, (rdText 256 (rdNum (rdNum (rdKey s).2).2).2).1), (rdText 256 (rdNum (rdNum (rdKey s).2).2).2).2)
def encRest (x : List UInt8 × Nat × Nat × List UInt8) : List UInt8 := x.1 ++ (numB x.2.1 ++ (numB x.2.2.1 ++ (numB x.2.2.2.length ++ x.2.2.2)))
theorem Cod.rest : Cod encRest (fun x => x.1.length = 32 ∧ x.2.1 < 4294967296 ∧ x.2.2.1 < 4294967296 ∧ x.2.2.2.length ≤ 256) boxRest :=
  Cod.key.seq (Cod.num.seq (Cod.num.seq (Cod.text (most := 256) (by omega))))
def mkBox (n : Int) (x : List UInt8 × Nat × Nat × List UInt8) : BoxV := ⟨n, x.1, x.2.1, x.2.2.1, x.2.2.2⟩
def restOf (b : BoxV) : List UInt8 × Nat × Nat × List UInt8 := (b.pub, b.n, b.prev, b.body)
def rdBoxes : List Nat → RS → List BoxV × RS
  | [], s => ([], s)
  | n :: ns, s => let r := rdBoxes ns (boxRest s).2; (mkBox (minV n) (boxRest s).1 :: r.1, r.2)
structure BoxW (b : BoxV) : Prop where
  to : memN b.to
  pub : b.pub.length = 32
  n : b.n < 4294967296
  prev : b.prev < 4294967296
  body : b.body.length ≤ 256
attribute [local irreducible] boxRest rdNum rdText rdKey rdList rdSmall rdWho encRest
theorem rdBoxes_bad : ∀ (ns : List Nat) (s : RS), s.2 ≠ 0 → (rdBoxes ns s).2.2 ≠ 0
  | [], s, h => h
  | n :: ns, s, h => rdBoxes_bad ns _ (Cod.rest.bad s h)
theorem rdBoxes_there : ∀ (l : List BoxV) (r : List UInt8), (∀ b ∈ l, BoxW b) → rdBoxes (l.map fun b => b.to.toNat) ((l.flatMap fun b => encRest (restOf b)) ++ r, 0) = (l, (r, 0))
  | [], r, _ => rfl
  | b :: l, r, h => by
    have hb := h b (by simp)
    have e := Cod.rest.there (restOf b) ((l.flatMap fun b => encRest (restOf b)) ++ r) ⟨hb.pub, hb.n, hb.prev, hb.body⟩
    rw [List.map_cons, rdBoxes, List.flatMap_cons, List.append_assoc, e]
    simp only
    rw [rdBoxes_there l r fun x hx => h x (List.mem_cons_of_mem _ hx), minV_forth hb.to]
    rfl
theorem rdBoxes_back : ∀ (ns : List Nat) (s : List UInt8) (l : List BoxV) (r : List UInt8), rdBoxes ns (s, 0) = (l, (r, 0)) → (∀ b ∈ l, BoxW b) → ns = l.map (fun b => b.to.toNat) ∧ s = (l.flatMap fun b => encRest (restOf b)) ++ r
  | [], s, l, r, h, _ => by
    rw [rdBoxes] at h
    simp only [Prod.mk.injEq, and_true] at h
    obtain ⟨rfl, rfl⟩ := h
    exact ⟨rfl, rfl⟩
  | n :: ns, s, l, r, h, ho => by
    rw [rdBoxes] at h
    simp only [Prod.mk.injEq] at h
    obtain ⟨rfl, h2⟩ := h
    have e1 : (boxRest (s, 0)).2.2 = 0 := by
      by_cases e : (boxRest (s, 0)).2.2 = 0
      · exact e
      · exact absurd (by rw [h2]) (rdBoxes_bad ns _ e)
    have hb := ho (mkBox (minV n) (boxRest (s, 0)).1) (by simp)
    have a1 := Cod.rest.back s (boxRest (s, 0)).1 (boxRest (s, 0)).2.1 (p3_eq e1) ⟨hb.pub, hb.n, hb.prev, hb.body⟩
    obtain ⟨b1, b2⟩ := rdBoxes_back ns (boxRest (s, 0)).2.1 (rdBoxes ns (boxRest (s, 0)).2).1 r (by rw [p2_eq e1, ← h2]) (fun b hb => ho b (List.mem_cons_of_mem _ hb))
    refine ⟨?_, ?_⟩
    · rw [List.map_cons, ← b1, show (mkBox (minV n) (boxRest (s, 0)).1).to = minV n from rfl, minV_back hb.to]
    · rw [List.flatMap_cons, List.append_assoc, ← b2]
      exact a1
def rdBs (s : RS) : List BoxV × RS := rdBoxes (rdList rdNum 8 s).1 (rdList rdNum 8 s).2
def encBs (l : List BoxV) : List UInt8 := encNs (l.map fun b => b.to.toNat) ++ l.flatMap fun b => encRest (restOf b)
theorem Cod.boxes : Cod encBs (fun l => l.length ≤ 8 ∧ ∀ b ∈ l, BoxW b) rdBs where
  there l r h := by
    have e := (Cod.num.list (most := 8) (by omega)).there (l.map fun b => b.to.toNat) ((l.flatMap fun b => encRest (restOf b)) ++ r) ⟨by simpa using h.1, fun x hx => by
      obtain ⟨b, hb, rfl⟩ := List.mem_map.1 hx
      have := (h.2 b hb).to
      unfold memN at this
      omega⟩
    unfold rdBs encBs encNs
    rw [List.append_assoc, e]
    exact rdBoxes_there l r h.2
  back s l r h ho := by
    unfold rdBs at h
    have e1 : (rdList rdNum 8 (s, 0)).2.2 = 0 := by
      by_cases e : (rdList rdNum 8 (s, 0)).2.2 = 0
      · exact e
      · exact absurd (by rw [h]) (rdBoxes_bad _ _ e)
    obtain ⟨b1, b2⟩ := rdBoxes_back (rdList rdNum 8 (s, 0)).1 (rdList rdNum 8 (s, 0)).2.1 l r (by rw [p2_eq e1]; exact h) ho.2
    have a := (Cod.num.list (most := 8) (by omega)).back s _ _ (p3_eq e1) ⟨by rw [b1]; simpa using ho.1, fun x hx => by
      rw [b1] at hx
      obtain ⟨b, hb, rfl⟩ := List.mem_map.1 hx
      have := (ho.2 b hb).to
      unfold memN at this
      omega⟩
    rw [b1, b2] at a
    unfold encBs encNs
    rw [List.append_assoc]
    exact a
  bad s h := rdBoxes_bad _ _ ((Cod.num.list (most := 8) (by omega)).bad s h)
attribute [local irreducible] rdBs encBs encNs
def encKs (l : List (List UInt8)) : List UInt8 := numB l.length ++ l.flatMap fun k => k
abbrev OpT := Int × Int × Nat × List (List UInt8) × List Int × List UInt8 × List UInt8 × List UInt8 × List BoxV
def opOf (x : OpT) : OpV := ⟨x.2.1, x.2.2.1, x.2.2.2.1, x.1, x.2.2.2.2.1, x.2.2.2.2.2.1, x.2.2.2.2.2.2.1, x.2.2.2.2.2.2.2.1, x.2.2.2.2.2.2.2.2⟩
def opTo (o : OpV) : OpT := (o.kind, o.author, o.seq, o.parents, o.who, o.ofk, o.check, o.text, o.boxes)
def encOp (o : OpV) : List UInt8 := numB o.kind.toNat ++ (numB o.author.toNat ++ (numB o.seq ++ (encKs o.parents ++ (encNs (o.who.map Int.toNat) ++ (o.ofk ++ (o.check ++ ((numB o.text.length ++ o.text) ++ encBs o.boxes)))))))
def rdOp (s : RS) : OpV × RS :=
  let a := rdSmall s; let b := rdSmall a.2; let c := rdNum b.2; let d := rdList rdKey 8 c.2; let e := rdWho d.2; let f := rdKey e.2; let g := rdKey f.2; let h := rdText 256 g.2; let i := rdBs h.2
  (opOf (a.1, b.1, c.1, d.1, e.1, f.1, g.1, h.1, i.1), i.2)
structure OpW (o : OpV) : Prop where
  kind : 0 ≤ o.kind ∧ o.kind ≤ 1073741824
  author : 0 ≤ o.author ∧ o.author ≤ 1073741824
  seq : o.seq < 4294967296
  parents : o.parents.length ≤ 8 ∧ ∀ k ∈ o.parents, k.length = 32
  who : o.who.length ≤ 8 ∧ ∀ x ∈ o.who, memN x
  ofk : o.ofk.length = 32
  check : o.check.length = 32
  text : o.text.length ≤ 256
  boxes : o.boxes.length ≤ 8 ∧ ∀ b ∈ o.boxes, BoxW b
theorem Cod.op : Cod encOp OpW rdOp :=
  (Cod.small.seq (Cod.small.seq (Cod.num.seq ((Cod.key.list (most := 8) (by omega)).seq (Cod.who.seq (Cod.key.seq (Cod.key.seq ((Cod.text (most := 256) (by omega)).seq Cod.boxes)))))))).map opOf opTo
    (fun o h => ⟨⟨h.kind, h.author, h.seq, h.parents, h.who, h.ofk, h.check, h.text, h.boxes⟩, rfl⟩) (fun x _ => rfl)
end Go.Cab
namespace Go.Cab
open Classical
structure FrameV where
  kind : Int
  from_ : Int
  op : OpV
  ids : List (List UInt8)
def op0 : OpV := ⟨0, 0, [], 0, [], zk, zk, [], []⟩
def frame0 : FrameV := ⟨0, 0, op0, []⟩
noncomputable def okF (f : FrameV) : Bool := memB f.from_ && (if f.kind = 1 then rightV f.op && decide (f.ids.length = 0) else decide (f.kind = 2 ∨ f.kind = 3) && decide (f.op = op0) && decide (f.ids.length ≤ 16))
def encF (f : FrameV) : List UInt8 := numB f.kind.toNat ++ (numB f.from_.toNat ++ (if f.kind = 1 then encOp f.op else encKs f.ids))
def rdF0 (s : RS) : FrameV × RS :=
  let a := rdSmall s; let b := rdSmall a.2
  if a.1 = 1 then (⟨a.1, b.1, (rdOp b.2).1, []⟩, (rdOp b.2).2) else (⟨a.1, b.1, op0, (rdList rdKey 16 b.2).1⟩, (rdList rdKey 16 b.2).2)
def endE (s : RS) : Nat := if s.2 = 0 ∧ 0 < s.1.length then 6 else s.2
noncomputable def readF (s : List UInt8) : FrameV × Nat :=
  let r := rdF0 (s, 0)
  if endE r.2 ≠ 0 then (frame0, endE r.2) else if okF r.1 then (r.1, 0) else (frame0, 4)
theorem rdTake_len {n : Nat} (s : RS) : (rdTake n s).1.length ≤ n := by
  unfold rdTake
  split
  · simp
  · split
    · simp
    · simp; omega
theorem rdKey_len (s : RS) : (rdKey s).1.length = 32 := by
  have h := rdTake_len (n := 32) s
  unfold rdKey keyOf
  simp [zk]
  omega
theorem rdRep_mem {α : Type} {one : RS → α × RS} : ∀ (n : Nat) (s : RS), (rdRep one n s).1.length ≤ n ∧ ∀ x ∈ (rdRep one n s).1, ∃ s', x = (one s').1
  | 0, s => ⟨Nat.le_refl _, by simp [rdRep]⟩
  | n + 1, s => by
    rw [rdRep]
    split
    · exact ⟨by simp, by simp⟩
    · obtain ⟨h1, h2⟩ := rdRep_mem (one := one) n (one s).2
      refine ⟨by simp; exact h1, fun x hx => ?_⟩
      rcases List.mem_cons.1 hx with rfl | hx
      · exact ⟨s, rfl⟩
      · exact h2 x hx
theorem rdCount_le {most : Nat} (s : RS) : (rdCount most s).1 ≤ most := by
  unfold rdCount
  split
  · simp
  · rename_i h
    by_cases e : (rdNum s).2.2 = 0
    · omega
    · have : (rdNum s).1 = 0 := by
        unfold rdNum at e ⊢
        split
        · rename_i h0
          rw [if_pos h0] at e
          simp only at e ⊢
          have key : ∀ (i n : Nat) (l : List UInt8), (getN i n l).2.2 ≠ 0 → (getN i n l).1 = 0 := fun i n l => by
            induction l generalizing i n with
            | nil => intro _; rfl
            | cons b l ih =>
              rw [getN]
              split
              · intro _; rfl
              · split
                · intro h; simp at h
                · exact ih _ _
          exact key _ _ _ e
        · rfl
      omega
theorem rdList_mem {α : Type} {one : RS → α × RS} {most : Nat} (s : RS) : (rdList one most s).1.length ≤ most ∧ ∀ x ∈ (rdList one most s).1, ∃ s', x = (one s').1 := by
  have h1 := rdCount_le (most := most) s
  obtain ⟨h2, h3⟩ := rdRep_mem (one := one) (rdCount most s).1 (rdCount most s).2
  unfold rdList
  simp only
  split
  · exact ⟨by omega, h3⟩
  · exact ⟨by simp, by simp⟩
theorem rdText_len {most : Nat} (s : RS) : (rdText most s).1.length ≤ most := by
  have h1 := rdCount_le (most := most) s
  have h2 := rdTake_len (n := (rdCount most s).1) (rdCount most s).2
  show (rdTake (rdCount most s).1 (rdCount most s).2).1.length ≤ most
  omega
theorem rdBoxes_mem : ∀ (ns : List Nat) (s : RS), (rdBoxes ns s).1.length = ns.length ∧ ∀ b ∈ (rdBoxes ns s).1, BoxOk b ∧ b.body.length ≤ 256
  | [], s => ⟨rfl, by simp [rdBoxes]⟩
  | n :: ns, s => by
    rw [rdBoxes]
    obtain ⟨h1, h2⟩ := rdBoxes_mem ns (boxRest s).2
    refine ⟨by simp [h1], fun b hb => ?_⟩
    rcases List.mem_cons.1 hb with rfl | hb
    · exact ⟨⟨rdKey_len _, rdNum_lt _, rdNum_lt _⟩, rdText_len _⟩
    · exact h2 b hb
theorem rdWho_len (s : RS) : (rdWho s).1.length ≤ 8 := by
  unfold rdWho
  simp only [List.length_map]
  exact (rdList_mem (one := rdNum) (most := 8) s).1
theorem rdBs_mem (s : RS) : (rdBs s).1.length ≤ 8 ∧ ∀ b ∈ (rdBs s).1, BoxOk b ∧ b.body.length ≤ 256 := by
  unfold rdBs
  obtain ⟨h1, h2⟩ := rdBoxes_mem (rdList rdNum 8 s).1 (rdList rdNum 8 s).2
  have := (rdList_mem (one := rdNum) (most := 8) s).1
  exact ⟨by omega, h2⟩
theorem rdKs_mem {most : Nat} (s : RS) : (rdList rdKey most s).1.length ≤ most ∧ ∀ k ∈ (rdList rdKey most s).1, k.length = 32 := by
  obtain ⟨h1, h2⟩ := rdList_mem (one := rdKey) (most := most) s
  exact ⟨h1, fun k hk => by obtain ⟨s', rfl⟩ := h2 k hk; exact rdKey_len _⟩
attribute [local irreducible] rdNum rdText rdKey rdList rdSmall rdWho rdBs rdTake rdCount rdBoxes boxRest
theorem rdOp_ok (s : RS) : OpOk (rdOp s).1 ∧ (∀ b ∈ (rdOp s).1.boxes, b.body.length ≤ 256) ∧ (rdOp s).1.who.length ≤ 8 ∧ (rdOp s).1.parents.length ≤ 8 ∧ (rdOp s).1.boxes.length ≤ 8 ∧ (rdOp s).1.text.length ≤ 256 := by
  unfold rdOp opOf
  simp only
  generalize rdSmall s = a
  generalize rdSmall a.2 = b
  have c1 := rdNum_lt b.2
  generalize rdNum b.2 = c at *
  obtain ⟨d1, d2⟩ := rdKs_mem (most := 8) c.2
  generalize rdList rdKey 8 c.2 = d at *
  have e1 := rdWho_len d.2
  generalize rdWho d.2 = e at *
  have f1 := rdKey_len e.2
  generalize rdKey e.2 = f at *
  have g1 := rdKey_len f.2
  generalize rdKey f.2 = g at *
  have h1 := rdText_len (most := 256) g.2
  generalize rdText 256 g.2 = h at *
  obtain ⟨i1, i2⟩ := rdBs_mem h.2
  generalize rdBs h.2 = i at *
  exact ⟨⟨c1, by simp only; omega, d2, by simp only; omega, f1, g1, by simp only; omega, by simp only; omega, fun b hb => (i2 b hb).1⟩, fun b hb => (i2 b hb).2, e1, d1, i1, h1⟩
theorem ris_le : ∀ (l : List Int) (a : Int), risV cmpN l = true → (∀ x ∈ l, a ≤ x ∧ x < 8) → (l.length : Int) ≤ max (8 - a) 0
  | [], a, _, _ => by simp; omega
  | [x], a, _, h => by
    have := h x (by simp)
    simp; omega
  | x :: y :: l, a, hr, h => by
    simp only [risV, Bool.and_eq_true, decide_eq_true_eq] at hr
    have hx := h x (by simp)
    have hxy : x < y := by
      have := hr.1
      unfold cmpN at this
      split at this <;> first | assumption | (split at this <;> omega)
    have key : ∀ (l : List Int) (y : Int), risV cmpN (y :: l) = true → ∀ z ∈ y :: l, y ≤ z := by
      intro l
      induction l with
      | nil => intro y _ z hz; simp at hz; omega
      | cons w l ih =>
        intro y hr z hz
        simp only [risV, Bool.and_eq_true, decide_eq_true_eq] at hr
        have hyw : y < w := by
          have := hr.1
          unfold cmpN at this
          split at this <;> first | assumption | (split at this <;> omega)
        rcases List.mem_cons.1 hz with rfl | hz
        · omega
        · have := ih w hr.2 z hz
          omega
    have := ris_le (y :: l) (x + 1) hr.2 (fun z hz => ⟨by have := key l y hr.2 z hz; omega, (h z (List.mem_cons_of_mem _ hz)).2⟩)
    simp only [List.length_cons] at this ⊢
    omega
theorem memB_iff {a : Int} : memB a = true ↔ memN a := by unfold memB memN; simp
theorem opW_of {o : OpV} (ho : OpOk o) (h : rightV o = true) : OpW o := by
  unfold rightV at h
  simp only [Bool.and_eq_true, Bool.not_eq_true'] at h
  obtain ⟨⟨⟨h1, h2⟩, h3⟩, h4, h5⟩ := h
  unfold c1V at h1
  unfold c2V at h2
  unfold c3V at h3
  simp only [decide_eq_false_iff_not, not_or] at h1 h2 h3
  obtain ⟨a1, a2, a3, a4⟩ := h1
  have hm : memN o.author := memB_iff.1 (by simpa using a1)
  have hwho : risV cmpN o.who = true ∧ ∀ x ∈ o.who, memN x := by
    unfold whoV at h4
    by_cases hc : (!risV cmpN o.who || o.who.any fun n => !memB n) = true
    · rw [if_pos hc] at h4; cases h4
    · simp only [Bool.or_eq_true, Bool.not_eq_true', List.any_eq_true, not_or, Bool.not_eq_false, not_exists, not_and] at hc
      exact ⟨hc.1, fun x hx => memB_iff.1 (hc.2 x hx)⟩
  have hwl := ris_le o.who 0 hwho.1 (fun x hx => hwho.2 x hx)
  unfold boxesV at h5
  simp only [Bool.and_eq_true, Bool.not_eq_true', decide_eq_true_eq, List.any_eq_false] at h5
  obtain ⟨⟨b1, b2⟩, b3⟩ := h5
  refine ⟨by omega, by unfold memN at hm; omega, ho.seq, ⟨by omega, ho.p32⟩, ⟨by omega, hwho.2⟩, ho.ofk, ho.check, by omega, b1, fun b hb => ?_⟩
  have := b3 b hb
  unfold badBox at this
  simp only [Bool.or_eq_true, Bool.not_eq_true', decide_eq_true_eq, not_or, Bool.not_eq_false] at this
  have hk := ho.bok b hb
  exact ⟨memB_iff.1 this.1.1, hk.pub, hk.n, hk.prev, by omega⟩
structure FrameOk (f : FrameV) : Prop where
  op : OpOk f.op
  ids : ∀ k ∈ f.ids, k.length = 32
theorem kind_of {f : FrameV} (h : okF f = true) : (f.kind = 1 ∨ f.kind = 2 ∨ f.kind = 3) ∧ memN f.from_ ∧ (f.kind = 1 → rightV f.op = true ∧ f.ids = []) ∧ (f.kind ≠ 1 → f.op = op0 ∧ f.ids.length ≤ 16) := by
  unfold okF at h
  simp only [Bool.and_eq_true] at h
  obtain ⟨h1, h2⟩ := h
  by_cases hk : f.kind = 1
  · rw [if_pos hk] at h2
    simp only [Bool.and_eq_true, decide_eq_true_eq] at h2
    exact ⟨.inl hk, memB_iff.1 h1, fun _ => ⟨h2.1, List.eq_nil_of_length_eq_zero h2.2⟩, fun h => absurd hk h⟩
  · rw [if_neg hk] at h2
    simp only [Bool.and_eq_true, decide_eq_true_eq] at h2
    exact ⟨.inr h2.1.1, memB_iff.1 h1, fun h => absurd h hk, fun _ => ⟨h2.1.2, h2.2⟩⟩
theorem write_read {f : FrameV} (hf : FrameOk f) (h : okF f = true) : readF (encF f) = (f, 0) := by
  obtain ⟨k1, k2, k3, k4⟩ := kind_of h
  unfold memN at k2
  have key : rdF0 (encF f, 0) = (f, ([], 0)) := by
    have e1 := fun r => Cod.small.there f.kind r ⟨by omega, by omega⟩
    have e2 := fun r => Cod.small.there f.from_ r ⟨by omega, by omega⟩
    unfold rdF0 encF
    simp only
    rw [e1]
    simp only
    rw [e2]
    simp only
    by_cases hk : f.kind = 1
    · rw [if_pos hk, if_pos hk]
      have e3 := Cod.op.there f.op [] (opW_of hf.op (k3 hk).1)
      rw [List.append_nil] at e3
      rw [e3]
      obtain ⟨a, b, c, d⟩ := f
      have := (k3 hk).2
      simp only at this
      subst this
      rfl
    · rw [if_neg hk, if_neg hk]
      have e3 := (Cod.key.list (most := 16) (by omega)).there f.ids [] ⟨(k4 hk).2, hf.ids⟩
      rw [List.append_nil] at e3
      unfold encKs
      rw [e3]
      obtain ⟨a, b, c, d⟩ := f
      have := (k4 hk).1
      simp only at this
      subst this
      rfl
  unfold readF
  simp only
  rw [key]
  simp [endE, h]
theorem rdF0_bad_op (s : RS) (h : s.2 ≠ 0) : (rdOp s).2.2 ≠ 0 := Cod.op.bad s h
theorem read_ok (s : List UInt8) : FrameOk (rdF0 (s, 0)).1 := by
  unfold rdF0
  simp only
  split
  · exact ⟨(rdOp_ok _).1, by simp⟩
  · refine ⟨?_, fun k hk => ?_⟩
    · exact ⟨by simp [op0], by simp [op0], by simp [op0], by simp [op0], zk_len, zk_len, by simp [op0], by simp [op0], by simp [op0]⟩
    · obtain ⟨s', rfl⟩ := (rdList_mem (one := rdKey) (most := 16) _).2 k hk
      exact rdKey_len _
theorem read_write {s : List UInt8} {f : FrameV} (h : readF s = (f, 0)) : okF f = true ∧ FrameOk f ∧ encF f = s := by
  unfold readF at h
  simp only at h
  have hok := read_ok s
  by_cases he : endE (rdF0 (s, 0)).2 = 0
  · rw [if_neg (by simpa using he)] at h
    by_cases ho : okF (rdF0 (s, 0)).1 = true
    · rw [if_pos ho] at h
      simp only [Prod.mk.injEq, and_true] at h
      rw [h] at ho hok
      refine ⟨ho, hok, ?_⟩
      obtain ⟨k1, k2, k3, k4⟩ := kind_of ho
      unfold memN at k2
      have hend : (rdF0 (s, 0)).2 = ([], 0) := by
        unfold endE at he
        generalize (rdF0 (s, 0)).2 = r at *
        obtain ⟨r1, r2⟩ := r
        simp only at he
        split at he
        · cases he
        · rename_i hn
          subst he
          simp only [true_and, Nat.not_lt, Nat.le_zero_eq, List.length_eq_zero_iff] at hn
          rw [hn]
      have hall : rdF0 (s, 0) = (f, ([], 0)) := by rw [← h, ← hend]
      clear h hend he
      unfold rdF0 at hall
      simp only at hall
      have step : ∀ (r : RS) (g : RS → FrameV × RS), (∀ r : RS, r.2 ≠ 0 → (g r).2.2 ≠ 0) → (g r).2 = ([], 0) → r.2 = 0 := fun r g hb hg => by
        by_cases e : r.2 = 0
        · exact e
        · exact absurd (by rw [hg]) (hb r e)
      by_cases hk : (rdSmall (s, 0)).1 = 1
      · rw [if_pos hk] at hall
        simp only [Prod.mk.injEq] at hall
        obtain ⟨hf, hr⟩ := hall
        have z2 : (rdSmall (rdSmall (s, 0)).2).2.2 = 0 := by
          by_cases e : (rdSmall (rdSmall (s, 0)).2).2.2 = 0
          · exact e
          · exact absurd (by rw [hr]) (Cod.op.bad _ e)
        have z1 : (rdSmall (s, 0)).2.2 = 0 := by
          by_cases e : (rdSmall (s, 0)).2.2 = 0
          · exact e
          · exact absurd z2 (Cod.small.bad _ e)
        subst hf
        simp only at k1 k2 k3 k4 ⊢
        have a1 := Cod.small.back s _ _ (p3_eq z1) ⟨by omega, by omega⟩
        have a2 := Cod.small.back (rdSmall (s, 0)).2.1 _ (rdSmall (rdSmall (s, 0)).2).2.1 (by rw [p2_eq z1]; exact p3_eq z2) ⟨by omega, by omega⟩
        have a3 := Cod.op.back (rdSmall (rdSmall (s, 0)).2).2.1 (rdOp (rdSmall (rdSmall (s, 0)).2).2).1 [] (by rw [p2_eq z2, ← hr]) (opW_of hok.op (k3 hk).1)
        unfold encF
        simp only
        rw [if_pos hk]
        rw [List.append_nil] at a3
        rw [← a3, ← a2, ← a1]
      · rw [if_neg hk] at hall
        simp only [Prod.mk.injEq] at hall
        obtain ⟨hf, hr⟩ := hall
        have hl := (Cod.key.list (most := 16) (by omega))
        have z2 : (rdSmall (rdSmall (s, 0)).2).2.2 = 0 := by
          by_cases e : (rdSmall (rdSmall (s, 0)).2).2.2 = 0
          · exact e
          · exact absurd (by rw [hr]) (hl.bad _ e)
        have z1 : (rdSmall (s, 0)).2.2 = 0 := by
          by_cases e : (rdSmall (s, 0)).2.2 = 0
          · exact e
          · exact absurd z2 (Cod.small.bad _ e)
        subst hf
        simp only at k1 k2 k3 k4 ⊢
        have a1 := Cod.small.back s _ _ (p3_eq z1) ⟨by omega, by omega⟩
        have a2 := Cod.small.back (rdSmall (s, 0)).2.1 _ (rdSmall (rdSmall (s, 0)).2).2.1 (by rw [p2_eq z1]; exact p3_eq z2) ⟨by omega, by omega⟩
        have a3 := hl.back (rdSmall (rdSmall (s, 0)).2).2.1 (rdList rdKey 16 (rdSmall (rdSmall (s, 0)).2).2).1 [] (by rw [p2_eq z2, ← hr]) ⟨(k4 hk).2, hok.ids⟩
        unfold encF encKs
        simp only
        rw [if_neg hk]
        rw [List.append_nil] at a3
        rw [← a3, ← a2, ← a1]
    · rw [if_neg ho] at h
      simp at h
  · rw [if_pos he] at h
    simp only [Prod.mk.injEq] at h
    exact absurd h.2 he
end Go.Cab
namespace Go.Cab
open Classical
structure Answered where
  s : Store
  secret : List UInt8
def pairsA (s : Store) (h : Hello) : List KK := [(s.pre, h.id), (s.id, h.eph), (s.pre, h.eph)]
def answerP (ts : List Term) (s : Store) (h : Hello) : Option (List KK × List (List UInt8)) × List Term :=
  if h.one = zk then (some (pairsA s h, s.ones), ts) else match idxF h.one ts s.ones 0 with
    | (none, ts1) => (none, ts1)
    | (some i, ts1) => (some (pairsA s h ++ [(s.ones.getD i zk, h.eph)], s.ones.take i ++ s.ones.drop (i + 1)), ts1)
def answerT (ts : List Term) (s : Store) (h : Hello) : Sum Nat Answered × List Term :=
  match answerP ts s h with
  | (none, ts1) => (.inl 22, ts1)
  | (some x, ts1) => match agreedT ts1 x.1 with
    | (none, ts2) => (.inl 12, ts2)
    | (some k, ts2) => (.inr ⟨⟨s.id, s.pre, x.2⟩, k⟩, ts2)
def answeredA : Sum Nat Answered → AV
  | .inl e => .tup [zst, keyA zk, .lit (jn e)]
  | .inr x => .tup [storeA x.s, keyA x.secret, .lit (jn 0)]
def ansS (N : Nat) (H : List (Option Blk)) (t : Tb) (s : Store) (h : Hello) (l3 l4 l5 l6 l7 : Nat × Nat) (V : Value) (ts : List Term) (Vp : Value) (ps : List KK) (ones : List (List UInt8)) : AS :=
  ⟨N, [freeI t.b t.l, storeA s, helloA h, .ptr (N + 3) l3 0 [], .ptr (N + 4) l4 0 [], .ptr (N + 5) l5 0 [], .ptr (N + 6) l6 0 [], .ptr (N + 7) l7 0 [], .lit (jn 0), .own (N + 29) Vp, .sl 32 (klA ones)] ++ List.replicate 65 .any,
    tbOf H t V ts ++ ([none, none, none, some (.box l3 1 (freeI t.b t.l)), some (.box l4 65 (storeA s)), some (.box l5 96 (helloA h)), some (.box l6 65 zst), some (.box l7 32 (keyA zk))] ++ List.replicate 21 none ++ [some (.row 0 Vp 64 (ps.map pairA) 0)] ++ List.replicate 46 none)⟩
theorem idxF_ok {one : List UInt8} : ∀ {ks : List (List UInt8)} {ts : List Term} {i : Nat}, TsOk ts → (∀ k ∈ ks, k.length = 32) → ts.length + ks.length + 10 < 90000 →
    TsOk (idxF one ts ks i).2 ∧ ts.length ≤ (idxF one ts ks i).2.length ∧ (idxF one ts ks i).2.length ≤ ts.length + ks.length ∧ ∀ n, (idxF one ts ks i).1 = some n → i ≤ n ∧ n < i + ks.length
  | [], ts, i, h, _, hl => ⟨h, by simp [idxF], by simp [idxF], fun n hn => by simp [idxF] at hn⟩
  | k :: ks, ts, i, h, h32, hl => by
    have hk := h32 k (by simp)
    simp only [List.length_cons] at hl ⊢
    have hlen := putT_len ts (pubT k)
    have hp := h.putPub hk (by omega)
    rw [idxF]
    split
    · exact ⟨hp, by simp only; omega, by simp only; omega, fun n hn => by cases hn; omega⟩
    · obtain ⟨r1, r2, r3, r4⟩ := idxF_ok (one := one) (ks := ks) (i := i + 1) hp (fun x hx => h32 x (by simp [hx])) (by omega)
      exact ⟨r1, by omega, by omega, fun n hn => by have := r4 n hn; omega⟩
end Go.Cab
namespace Go.Cab
open Classical
theorem Le.genR {s s' : AS} (hl : s'.tm.length = s.tm.length) (ht : ∀ (t : Nat) (v' : AV), s'.tm[t]? = some v' → v' = .any ∨ ∃ v, s.tm[t]? = some v ∧ RelLe v v') (m : Nat → Nat)
    (hinj : ∀ k k' x y, (s'.hp[k]?).join = some x → (s'.hp[k']?).join = some y → m k = m k' → k = k')
    (hh : ∀ k x', (s'.hp[k]?).join = some x' → ∃ x, (s.hp[m k]?).join = some x ∧ BlkLe x x') : Le s s' := fun w0 wk regs St a w h => by
  obtain ⟨Imm, h1, h2, h3⟩ := h.ex
  refine ⟨h.defers, by rw [hl]; exact h.tsize, h.tab, h.frame, Imm, h1, fun t v hv => ?_, HpLe.gen m hinj hh w0 regs Imm w h3⟩
  rcases ht t v hv with rfl | ⟨u, hu, hle⟩
  · exact .inl rfl
  · exact hle _ _ _ (h2 t u hu)
def leA : List AV → List AV → Prop
  | [], [] => True
  | v :: vs, u :: us => (u = .any ∨ RelLe v u) ∧ leA vs us
  | _, _ => False
def leB : List (Option Blk) → List (Option Blk) → Prop
  | [], [] => True
  | v :: vs, u :: us => (match u with | none => True | some y => match v with | some x => BlkLe x y | none => False) ∧ leB vs us
  | _, _ => False
theorem leA_get : ∀ {x y : List AV}, leA x y → y.length = x.length ∧ ∀ (t : Nat) (u : AV), y[t]? = some u → u = .any ∨ ∃ v, x[t]? = some v ∧ RelLe v u
  | [], [], _ => ⟨rfl, by simp⟩
  | v :: vs, u :: us, h => by
    obtain ⟨h1, h2⟩ := leA_get h.2
    refine ⟨by simp [h1], fun t w hw => ?_⟩
    cases t with
    | zero => simp only [List.getElem?_cons_zero, Option.some.injEq] at hw ⊢; subst hw; exact h.1.imp id fun e => ⟨v, rfl, e⟩
    | succ t => simpa using h2 t w (by simpa using hw)
  | [], _ :: _, h => h.elim
  | _ :: _, [], h => h.elim
theorem leB_get : ∀ {x y : List (Option Blk)}, leB x y → y.length = x.length ∧ ∀ (t : Nat) (u : Blk), (y[t]?).join = some u → ∃ v, (x[t]?).join = some v ∧ BlkLe v u
  | [], [], _ => ⟨rfl, by simp⟩
  | v :: vs, u :: us, h => by
    obtain ⟨h1, h2⟩ := leB_get h.2
    refine ⟨by simp [h1], fun t w hw => ?_⟩
    cases t with
    | zero =>
      simp only [List.getElem?_cons_zero, Option.join_some] at hw ⊢
      subst hw
      have := h.1
      cases v with
      | none => exact this.elim
      | some x => exact ⟨x, rfl, this⟩
    | succ t => simpa using h2 t w (by simpa using hw)
  | [], _ :: _, h => h.elim
  | _ :: _, [], h => h.elim
theorem BlkLe.cell {l : Nat × Nat} {n : Nat} {v v' : AV} (h : AVle v v') : BlkLe (.box l n v) (.box l n v') ↔ True := ⟨fun _ => trivial, fun _ => BlkLe.box h⟩
theorem BlkLe.refl' (x : Blk) : BlkLe x x ↔ True := ⟨fun _ => trivial, fun _ => BlkLe.refl x⟩
theorem RelLe.refl' (x : AV) : RelLe x x ↔ True := ⟨fun _ => trivial, fun _ => RelLe.refl x⟩
theorem RelLe.ptr' (b b' : Nat) (l : Nat × Nat) (off : Nat) (p : List Nat) : RelLe (.ptr b l off p) (.ptr b' l off p) ↔ True := ⟨fun _ => trivial, fun _ => RelLe.ptr _ _ _ _ _⟩
theorem AVle.freeS (b b' : Nat) (l : Nat × Nat) : AVle (freeS b l) (freeS b' l) := AVle.st1 (AVle.ptr _ _ _ _ _) AVle.st0
theorem BlkLe.freeS' (l0 : Nat × Nat) (b b' : Nat) (l : Nat × Nat) : BlkLe (.box l0 1 (freeS b l)) (.box l0 1 (freeS b' l)) ↔ True := ⟨fun _ => trivial, fun _ => BlkLe.box (AVle.freeS _ _ _)⟩
theorem Le.front {N : Nat} {tm tm' : List AV} {Lo Lo' : List (Option Blk)} {l : Nat × Nat} {r : Nat} (hN : Lo.length = N) (ht : leA tm tm') (hb : leB Lo Lo') : Le ⟨0, tm, Lo ++ newL N l r⟩ ⟨3, tm', newL 0 l r ++ Lo'⟩ := by
  obtain ⟨a1, a2⟩ := leA_get ht
  obtain ⟨b1, b2⟩ := leB_get hb
  have hlt : ∀ (k : Nat) (x : Blk), ((newL 0 l r ++ Lo')[k]?).join = some x → k < N + 3 := fun k x hx => by
    by_cases h : k < N + 3
    · exact h
    · rw [List.getElem?_eq_none (by simp [newL]; omega)] at hx; cases hx
  refine Le.genR a1 a2 (fun k => if k < 3 then N + k else k - 3) (fun k k' x y hx hy e => ?_) (fun k x hx => ?_)
  · have h1 := hlt k x hx
    have h2 := hlt k' y hy
    try simp only at e
    split at e <;> split at e <;> omega
  · have h1 := hlt k x hx
    simp only at hx ⊢
    by_cases h : k < 3
    · rw [if_pos h, cat1 N Lo _ k hN]
      rw [List.getElem?_append_left (by simp [newL]; omega)] at hx
      match k, hx with
      | 0, hx =>
        simp only [newL, List.getElem?_cons_zero, Option.join_some, Option.some.injEq] at hx
        subst hx
        exact ⟨_, rfl, BlkLe.box (AVle.st1 (AVle.own _ _ _) (AVle.st1 (AVle.own _ _ _) AVle.st0))⟩
      | 1, hx =>
        simp only [newL, List.getElem?_cons_succ, List.getElem?_cons_zero, Option.join_some, Option.some.injEq] at hx
        subst hx
        exact ⟨_, rfl, BlkLe.refl _⟩
      | 2, hx =>
        simp only [newL, List.getElem?_cons_succ, List.getElem?_cons_zero, Option.join_some, Option.some.injEq] at hx
        subst hx
        exact ⟨_, rfl, BlkLe.refl _⟩
      | k + 3, _ => omega
    · rw [if_neg h]
      obtain ⟨i, rfl⟩ : ∃ i, k = 3 + i := ⟨k - 3, by omega⟩
      rw [cat1 3 (newL 0 l r) _ i rfl] at hx
      obtain ⟨v, hv, hle⟩ := b2 i x hx
      have hi : i < Lo.length := by
        by_cases h : i < Lo.length
        · exact h
        · rw [List.getElem?_eq_none (by omega)] at hv; cases hv
      exact ⟨v, by rw [show 3 + i - 3 = i by omega, List.getElem?_append_left hi]; exact hv, hle⟩
def KC (P : Program) (f : FuncId) (vs : List AV) (H : List (Option Blk)) (t : Tb) (ts : List Term) (r : AV) (ts' : List Term) : Prop :=
  ∀ V L, XCall P f vs (tbOf H t V ts ++ L) fun r' H' => r' = r ∧ ∃ V', H' = tbOf H t V' ts' ++ L
theorem KC.of {P : Program} {f : FuncId} {vs : List AV} {H : List (Option Blk)} {t : Tb} {V0 : Value} {ts0 ts ts' : List Term} {r : AV} (hh : TbOk H t V0 ts0)
    (h : ∀ H V, TbOk H t V ts → XCall P f vs H fun r' H' => r' = r ∧ ∃ V', H' = tbOf H t V' ts') : KC P f vs H t ts r ts' := fun V L => by
  refine XCall.mono (h _ V (hh.at V ts L)) ?_
  rintro r' H' ⟨h1, V', h2⟩
  exact ⟨h1, V', by rw [h2, hh.at_of]⟩
theorem KC.xf {P : Program} {f : FuncId} {vs : List AV} {H : List (Option Blk)} {t : Tb} {ts ts' : List Term} {r : AV} (h : KC P f vs H t ts r ts') (V : Value) (L : List (Option Blk)) (E : List (Tmp × Blk)) :
    XCall P f vs (setE H.length (tbOf H t V ts ++ L) E) fun r' H' => ∃ hp', (r' = r ∧ ∃ V', hp' = tbOf H t V' ts' ++ L) ∧ H' = setE H.length hp' E := by
  refine XCall.mono (xf_of (tbOf_len H t V ts) (KG := fun r' G => r' = r ∧ ∃ V', G = tbOf H t V' ts') (fun L => XCall.mono (h V L) ?_) (fun r' G' hG => ?_) E) ?_
  · rintro r' H' ⟨h1, V', h2⟩
    exact ⟨_, ⟨h1, V', rfl⟩, h2⟩
  · obtain ⟨_, V', rfl⟩ := hG
    exact tbOf_len _ _ _ _
  · rintro r' H' ⟨hp', ⟨G', ⟨h1, V', rfl⟩, rfl⟩, h3⟩
    exact ⟨_, ⟨h1, V', rfl⟩, h3⟩
theorem areg_k {P : Program} {N : Nat} {tm : List AV} {L H : List (Option Blk)} {t : Tb} {V : Value} {ts ts' : List Term} {r : AV} {K : AS → Prop} {xs : List AOp} {d : Option Tmp} {g : XT} {ys : List Operand} {keep fresh : List Tmp} {fo : List Tmp} {ow : Option Tmp} {vs : List AV} {f : FuncId}
    (us : List AV) (hN : H.length = N) (ha : (ys.map fun x => AS.ev ⟨N, tm, tbOf H t V ts ++ L⟩ x) = us) (ht : tgtA P g us = some (f, vs)) (hc : KC P f vs H t ts r ts') (hlt : ∀ t' ∈ fresh, t' < L.length)
    (hk : ∀ t' ∈ keep, ∀ b, (AS.ev ⟨N, tm, tbOf H t V ts ++ L⟩ (.tmp t')).place = some b → N ≤ b)
    (h : ∀ V', AReg P xs { AS.put ⟨N, tm, tbOf H t V ts ++ L⟩ d r with hp := tbOf H t V' ts' ++ L } K) : AReg P (⟨d, none, .xc g ys keep fresh, fo, ow⟩ :: xs) ⟨N, tm, tbOf H t V ts ++ L⟩ K := by
  subst hN
  refine areg_xf (us := us) (K' := fun r' H' => r' = r ∧ ∃ V', H' = tbOf H t V' ts' ++ L) ha ht (fun E _ => hc.xf V L E) ⟨_, _, rfl, .slice none 0 0, rfl⟩ (fun t' ht' => by simp [tbOf_len]; exact hlt t' ht') (fun r' hp' hK => ?_) ?_
  · obtain ⟨_, V', rfl⟩ := hK
    refine ⟨fun t' ht' b hb => ?_, by simp [tbOf_len]⟩
    have hge := hk t' ht' b hb
    simp only
    rw [List.getElem?_append_right (by rw [tbOf_len]; exact hge), List.getElem?_append_right (by rw [tbOf_len]; exact hge), tbOf_len, tbOf_len]
  · rintro r' hp' ⟨rfl, V', rfl⟩
    exact h V'
theorem wp_kit {P : Program} {b : AC} {Q : AX → AS → Prop} {n : Nat} {tm : List AV} {Lo : List (Option Blk)} {l : Nat × Nat} {r : Nat} (tm' : Nat → Tb → List AV) (Lo' : Nat → Tb → List (Option Blk)) (hN : Lo.length = n) (ht : leA tm (tm' 3 (tbNew 0 l r))) (hb : leB Lo (Lo' 3 (tbNew 0 l r)))
    (k : ∀ N H t V, TbOk H t V [] → H.length = N → b.wp P ⟨N, tm' N t, tbOf H t V [] ++ Lo' N t⟩ Q) : ∃ s0, Le ⟨0, tm, Lo ++ newL n l r⟩ s0 ∧ b.wp P s0 Q := by
  have hok : TbOk (newL 0 l r) (tbNew 0 l r) (.slice none 0 0) [] := new_ok [] l r
  refine ⟨_, Le.front hN ht hb, ?_⟩
  have := k 3 (newL 0 l r) (tbNew 0 l r) (.slice none 0 0) hok rfl
  rw [hok.self] at this
  exact this
theorem TsOk.nil : TsOk [] := ⟨by simp, by simp, by simp, by simp⟩
section
variable {H : List (Option Blk)} {t : Tb} {V0 : Value} {ts0 ts : List Term}
end
end Go.Cab
namespace Go.Cab
open Go.RowKit
open Classical
def GC {I X : Type} (P : Program) (f : FuncId) (vs : List AV) (F : I → X → List (Option Blk)) (i : I) (r : AV) (j : I) : Prop :=
  ∀ x L, XCall P f vs (F i x ++ L) fun r' H' => r' = r ∧ ∃ x', H' = F j x' ++ L
theorem GC.xf {I X : Type} {P : Program} {f : FuncId} {vs : List AV} {F : I → X → List (Option Blk)} {N : Nat} {i j : I} {r : AV} (h : GC P f vs F i r j) (hN : ∀ i x, (F i x).length = N) (x : X) (L : List (Option Blk)) (E : List (Tmp × Blk)) :
    XCall P f vs (setE N (F i x ++ L) E) fun r' H' => ∃ hp', (r' = r ∧ ∃ x', hp' = F j x' ++ L) ∧ H' = setE N hp' E := by
  refine XCall.mono (xf_of (hN i x) (KG := fun r' G => r' = r ∧ ∃ x', G = F j x') (fun L => XCall.mono (h x L) ?_) (fun r' G' hG => ?_) E) ?_
  · rintro r' H' ⟨h1, x', h2⟩
    exact ⟨_, ⟨h1, x', rfl⟩, h2⟩
  · obtain ⟨_, x', rfl⟩ := hG
    exact hN _ _
  · rintro r' H' ⟨hp', ⟨G', ⟨h1, x', rfl⟩, rfl⟩, h3⟩
    exact ⟨_, ⟨h1, x', rfl⟩, h3⟩
section
variable {I X : Type} {P : Program} {F : I → X → List (Option Blk)} {N : Nat} {i j : I} {r : AV} {f : FuncId} {vs : List AV} {tm : List AV} {L : List (Option Blk)} {x : X} {K : AS → Prop} {xs : List AOp} {d : Option Tmp} {fo : List Tmp} {ow : Option Tmp}
theorem areg_gk {g : XT} {ys : List Operand} {keep fresh : List Tmp}
    (us : List AV) (hN : ∀ i x, (F i x).length = N) (ha : (ys.map fun y => AS.ev ⟨N, tm, F i x ++ L⟩ y) = us) (ht : tgtA P g us = some (f, vs)) (hc : GC P f vs F i r j) (hlt : ∀ t' ∈ fresh, t' < L.length)
    (hk : ∀ t' ∈ keep, ∀ b, (AS.ev ⟨N, tm, F i x ++ L⟩ (.tmp t')).place = some b → N ≤ b)
    (h : ∀ x', AReg P xs { AS.put ⟨N, tm, F i x ++ L⟩ d r with hp := F j x' ++ L } K) : AReg P (⟨d, none, .xc g ys keep fresh, fo, ow⟩ :: xs) ⟨N, tm, F i x ++ L⟩ K := by
  refine areg_xf (us := us) (K' := fun r' H' => r' = r ∧ ∃ x', H' = F j x' ++ L) ha ht (fun E _ => hc.xf hN x L E) ?_ (fun t' ht' => by simp [hN]; exact hlt t' ht') (fun r' hp' hK => ?_) ?_
  · exact ⟨_, _, rfl, x, rfl⟩
  · obtain ⟨_, x', rfl⟩ := hK
    refine ⟨fun t' ht' b hb => ?_, by simp [hN]⟩
    have hge := hk t' ht' b hb
    simp only
    rw [List.getElem?_append_right (by rw [hN]; exact hge), List.getElem?_append_right (by rw [hN]; exact hge), hN, hN]
  · rintro r' hp' ⟨rfl, x', rfl⟩
    exact h x'
theorem areg_gi {y : Operand} {zs : List Operand} (hc : GC P f vs F i r j) (ha : ((y :: zs).map fun z => AS.ev ⟨N, tm, F i x ++ L⟩ z) = vs)
    (h : ∀ x', AReg P xs { AS.put ⟨N, tm, F i x ++ L⟩ d r with hp := F j x' ++ L } K) : AReg P (⟨d, none, .icall f y zs, fo, ow⟩ :: xs) ⟨N, tm, F i x ++ L⟩ K :=
  areg_xc (K' := fun r' H' => r' = r ∧ ∃ x', H' = F j x' ++ L) ha (hc x L) ⟨_, _, rfl, x, rfl⟩ fun r' hp' ⟨h1, x', h2⟩ => by subst h1 h2; exact h x'
end
theorem GC.args {I X : Type} {P : Program} {f : FuncId} {l m : List AV} {F : I → X → List (Option Blk)} {i j : I} {r : AV} (hl : ArgLe l m) (h : GC P f m F i r j) : GC P f l F i r j := fun x L => XCall.args hl (h x L)
theorem leH_cat : ∀ (H : List (Option Blk)) {L L' : List (Option Blk)}, leH L L' → leH (H ++ L) (H ++ L')
  | [], _, _, h => h
  | _ :: H, _, _, h => ⟨.inr rfl, leH_cat H h⟩
theorem Le.cat {N : Nat} {tm tm' : List AV} {H L L' : List (Option Blk)} (ht : leT tm tm') (hl : leH L L') : Le ⟨N, tm, H ++ L⟩ ⟨N, tm', H ++ L'⟩ := Le.mk rfl ht (leH_cat H hl)
theorem Le.hp {s : AS} {tm' : List AV} {hp' : List (Option Blk)} (h : HpLe s.hp hp') (ht : leT s.tm tm') : Le s ⟨s.nr, tm', hp'⟩ := fun w0 wk regs St a w hs => by
  obtain ⟨Imm, h1, h2, h3⟩ := hs.ex
  obtain ⟨hl, hg⟩ := leT_get ht
  refine ⟨hs.defers, by rw [hs.tsize, hl], hs.tab, hs.frame, Imm, h1, fun t v hv => ?_, h _ _ _ _ h3⟩
  rcases hg t v hv with e | e
  · exact .inl e
  · exact h2 t v e
theorem HpLe.back {N : Nat} {G Lo : List (Option Blk)} {b j d : Nat} {X X' Y : Blk} (hN : G.length = N) (hbj : b ≠ j) (hb : b < N) (hj : j < N) (hX : G[b]? = some (some X)) (hle : BlkLe X X') (hd : Lo[d]? = some (some Y)) :
    HpLe (G ++ Lo) (((G.set b (some X')).set j (some Y)) ++ Lo.set d none) := by
  have hG : ((G.set b (some X')).set j (some Y)).length = N := by simp [hN]
  have key : ∀ (k : Nat) (x : Blk), (((((G.set b (some X')).set j (some Y)) ++ Lo.set d none))[k]?).join = some x → (k = j ∧ x = Y) ∨ (k = b ∧ x = X') ∨ (k ≠ j ∧ k ≠ b ∧ k ≠ N + d ∧ ((G ++ Lo)[k]?).join = some x) := fun k x hx => by
    by_cases hk : k < N
    · rw [List.getElem?_append_left (by omega)] at hx
      by_cases h1 : j = k
      · subst h1
        rw [List.getElem?_set_self (by simp; omega)] at hx
        exact .inl ⟨rfl, (Option.some.inj hx).symm⟩
      · rw [List.getElem?_set_ne h1] at hx
        by_cases h2 : b = k
        · subst h2
          rw [List.getElem?_set_self (by omega)] at hx
          exact .inr (.inl ⟨rfl, (Option.some.inj hx).symm⟩)
        · rw [List.getElem?_set_ne h2] at hx
          exact .inr (.inr ⟨fun h => h1 h.symm, fun h => h2 h.symm, by omega, by rw [List.getElem?_append_left (by omega)]; exact hx⟩)
    · rw [List.getElem?_append_right (by omega), hG] at hx
      by_cases h3 : d = k - N
      · subst h3
        rw [List.getElem?_set] at hx
        simp only [if_true] at hx
        split at hx <;> simp at hx
      · rw [List.getElem?_set_ne h3] at hx
        exact .inr (.inr ⟨by omega, by omega, by omega, by rw [List.getElem?_append_right (by omega), hN]; exact hx⟩)
  refine HpLe.gen (fun k => if k = j then N + d else k) (fun k k' x y hx hy e => ?_) (fun k x hx => ?_)
  · try simp only at e
    rcases key k x hx with ⟨h1, _⟩ | ⟨h1, _⟩ | ⟨h1, _, h2, _⟩ <;> rcases key k' y hy with ⟨g1, _⟩ | ⟨g1, _⟩ | ⟨g1, _, g2, _⟩ <;> (try split at e) <;> (try split at e) <;> omega
  · rcases key k x hx with ⟨rfl, rfl⟩ | ⟨rfl, rfl⟩ | ⟨h1, h2, _, h3⟩
    · rw [if_pos rfl]
      exact ⟨_, by rw [List.getElem?_append_right (by omega), hN, Nat.add_sub_cancel_left, hd]; rfl, BlkLe.refl _⟩
    · rw [if_neg hbj]
      exact ⟨X, by rw [List.getElem?_append_left (by omega), hX]; rfl, hle⟩
    · rw [if_neg h1]
      exact ⟨x, h3, BlkLe.refl _⟩
theorem tgt_dir {P : Program} {f : FuncId} (h : callable P f = true) (us : List AV) : tgtA P (.dir f) us = some (f, us) := by simp [tgtA, tgtB, h]
theorem tgt_val {P : Program} {f : FuncId} (h : callable P f = true) (first xs : List AV) : tgtA P .val (.fnv (.func f) first [] :: xs) = some (f, first ++ xs) := by simp [tgtA, tgtB, h]
theorem fill_st {s : AS} {ns : List Nat} {fs : List AV} {i n : Nat} {x : Operand} {rest : List (Nat × Operand)} {v f : AV} {out : Option AV} (hv : s.ev x = v) (hs : ns[i]? = some n) (hf : fs[i]? = some f) (ht : v.isTup = false) (hz : v.sz = n) (h : fillAV s (.st ns (fs.set i v)) rest = out) : fillAV s (.st ns fs) ((i, x) :: rest) = out := by
  subst h
  rw [fillAV]
  simp only [AV.sub, hs, hf, hv, ht, hz, and_self, if_true]
  rw [AV.upd, AV.upd]
theorem fill_ar {s : AS} {n : Nat} {fs : List AV} {i : Nat} {x : Operand} {rest : List (Nat × Operand)} {v f : AV} {out : Option AV} (hv : s.ev x = v) (hf : fs[i]? = some f) (ht : v.isTup = false) (hz : v.sz = n) (h : fillAV s (.arr n (fs.set i v)) rest = out) : fillAV s (.arr n fs) ((i, x) :: rest) = out := by
  subst h
  rw [fillAV]
  simp only [AV.sub, hf, hv, ht, hz, and_self, if_true]
  rw [AV.upd, AV.upd]
theorem areg_bd {P : Program} {s : AS} {K : AS → Prop} {xs : List AOp} {d : Option Tmp} {z z' : AV} {parts : List (Nat × Operand)} {fo : List Tmp} {ow : Option Tmp} (hf : fillAV s z parts = some z') (h : AReg P xs (s.put d z') K) : AReg P (⟨d, none, .build z parts, fo, ow⟩ :: xs) s K := by
  refine AOp.ex_go (s' := s.put d z') ?_ h
  simp only [AOp.ex, AOp.ex0, AOp.mineB, if_true, ex_build, hf, Option.map_some]
theorem areg_bsl {P : Program} {s : AS} {K : AS → Prop} {xs : List AOp} {d : Option Tmp} {esz n k : Nat} {z : AV} {els : List AV} {parts : List (Nat × Operand)} {fo : List Tmp} {ow : Option Tmp} (hf : fillAV s (.arr esz (List.replicate n z)) parts = some (.arr k els)) (h : AReg P xs (s.put d (.sl esz els)) K) : AReg P (⟨d, none, .bslice esz z n parts, fo, ow⟩ :: xs) s K := by
  refine AOp.ex_go (s' := s.put d (.sl esz els)) ?_ h
  simp only [AOp.ex, AOp.ex0, AOp.mineB, if_true, ex_bslice, hf, Option.map_some]
theorem areg_an {P : Program} {s : AS} {K : AS → Prop} {xs : List AOp} {d : Tmp} {e : TypeId} {esz bytes : Nat} {x y : Operand} {fo : List Tmp} {ow : Option Tmp} {ys : List AV} (hx : s.ev x = .lit (.slice none 0 0))
    (hy : s.coe (AOp.ro ⟨some d, none, .append e esz bytes x y, fo, ow⟩ s.nr) (s.ev y) = .sl esz ys) (h1 : ys.length ≤ maxLen) (h2 : ys.length * bytes ≤ 140737488355328)
    (h : ∀ V', AReg P xs ⟨s.nr, s.tm.set d (.own (s.nr + d) V'), s.hp.set (s.nr + d) (some (.row e V' esz ys 0))⟩ K) (hl : AOp.leaves ⟨some d, none, .append e esz bytes x y, fo, ow⟩ s (.lit (.slice none 0 0)) := by intro t ht; cases ht) : AReg P (⟨some d, none, .append e esz bytes x y, fo, ow⟩ :: xs) s K := by
  unfold AReg AOp.go AOp.mine
  simp only [AI.go, hx, AS.rowOf, hy, hpDrop, List.nil_append, List.length_nil, Nat.zero_add]
  exact ⟨by cases ow <;> exact hl, trivial, h1, h2, h⟩
theorem areg_ng {P : Program} {s : AS} {K : AS → Prop} {xs : List AOp} {d : Option Tmp} {t : Tmp} {b : Bool} {ai : AI} {fo : List Tmp} {ow : Option Tmp} (hg : s.ev (.tmp t) = .lit (.bool (!b))) (h : AReg P xs (s.put d (.tup [])) K) : AReg P (⟨d, some (t, b), ai, fo, ow⟩ :: xs) s K := by
  unfold AReg AOp.go
  simp only [hg]
  cases b <;> simpa using h
theorem areg_op {P : Program} {s s' : AS} {K : AS → Prop} {x : AOp} {xs : List AOp} (h : x.ex s = some s') (k : AReg P xs s' K) : AReg P (x :: xs) s K := AOp.ex_go h k
theorem areg_nt {P : Program} {s : AS} {K : AS → Prop} {xs : List AOp} {d : Option Tmp} {t : Tmp} {b : Bool} {ai : AI} {fo : List Tmp} {ow : Option Tmp} (hg : s.ev (.tmp t) = .tup []) (h : AReg P xs (s.put d (.tup [])) K) : AReg P (⟨d, some (t, b), ai, fo, ow⟩ :: xs) s K := by
  unfold AReg AOp.go
  simp only [hg]
  exact h
theorem areg_pkT {P : Program} {s : AS} {K : AS → Prop} {xs : List AOp} {d : Option Tmp} {c x y : Operand} {fo : List Tmp} {ow : Option Tmp} (hc : s.ev c = .lit (.bool true)) (h : AReg P xs (s.put d (s.ev x)) K) : AReg P (⟨d, none, .pick c x y, fo, ow⟩ :: xs) s K := by
  unfold AReg AOp.go AOp.mine
  simp only [AI.go, hc]
  exact ⟨by cases ow <;> trivial, h⟩
theorem areg_pkF {P : Program} {s : AS} {K : AS → Prop} {xs : List AOp} {d : Option Tmp} {c x y : Operand} {fo : List Tmp} {ow : Option Tmp} (hc : s.ev c = .lit (.bool false)) (h : AReg P xs (s.put d (s.ev y)) K) : AReg P (⟨d, none, .pick c x y, fo, ow⟩ :: xs) s K := by
  unfold AReg AOp.go AOp.mine
  simp only [AI.go, hc]
  exact ⟨by cases ow <;> trivial, h⟩
theorem areg_mv {P : Program} {s : AS} {K : AS → Prop} {xs : List AOp} {d : Option Tmp} {x : Operand} {fo : List Tmp} {ow : Option Tmp} (h : AReg P xs (s.put d (s.ev x)) K) : AReg P (⟨d, none, .mov x, fo, ow⟩ :: xs) s K := by
  unfold AReg AOp.go AOp.mine
  simp only [AI.go]
  exact ⟨by cases ow <;> trivial, h⟩
theorem AVle.nilS (esz : Nat) : AVle (.lit (.slice none 0 0)) (.sl esz []) := fun Imm w cs h => by
  cases h with | lit _ hs => exact .slnil esz
theorem PCall.relLe {P : Program} {f : FuncId} {args : List AV} {r r' : AV} (h : PCall P f args (.val r)) (hr : RelLe r r') (hn : r' ≠ .any) : PCall P f args (.val r') := fun w St Vs a b => by
  refine Calls.mono (h w St Vs a b) fun e w' ⟨V, Imm, h1, h2, h3, h4⟩ => ⟨V, Imm, h1, h2, h3, ?_⟩
  exact ⟨hr _ _ _ h4.1, hn⟩
theorem Le.setB {s : AS} {b : Nat} {X X' : Blk} (hb : s.hp[b]? = some (some X)) (hX : BlkLe X X') : Le s ⟨s.nr, s.tm, s.hp.set b (some X')⟩ := by
  have hlt : b < s.hp.length := (List.getElem?_eq_some_iff.1 hb).1
  refine Le.gen rfl (fun t v' hv => .inr (.inl hv)) (fun k => k) (fun k k' x y _ _ e => e) (fun k x hx => ?_)
  simp only at hx
  by_cases hk : b = k
  · subst hk
    rw [List.getElem?_set_self hlt] at hx
    simp only [Option.join_some, Option.some.injEq] at hx
    subst hx
    exact ⟨X, by rw [hb]; rfl, hX⟩
  · rw [List.getElem?_set_ne hk] at hx
    exact ⟨x, hx, BlkLe.refl _⟩
end Go.Cab
/- Part 8 of what the proof stands on: H2, H3, G15, G16, H4, G17. -/
import Derived.Test.YtihiiojkllaknaaDoorCab07
set_option linter.unusedSimpArgs false
set_option linter.unnecessarySimpa false
set_option linter.unusedVariables false
set_option linter.unusedSectionVars false
/- Frame: which operations may be. -/
-- TEXTS
-- KIT
namespace Go.Cab
open Classical
def fb526 : AC := (.seq (.reg [⟨(.some 1), .none, (.box 71 (.tmp 0)), [], .none⟩, ⟨(.some 2), .none, (.mov (.const (.bool .false))), [], .none⟩]) (.seq (.seq (.reg [⟨(.some 3), .none, (.faddr 4 4 (.tmp 1)), [], .none⟩, ⟨(.some 4), .none, (.load .false 1 (.tmp 3)), [], .none⟩, ⟨(.some 5), .none, (.build (.st [1, 1] [(.lit (.slice .none 0 0)), (.lit .nilFunc)]) [(0, (.tmp 4)), (1, (.func 59))]), [], .none⟩, ⟨(.some 6), .none, (.call 60 [(.tmp 5)]), [], .none⟩, ⟨(.some 7), .none, (.un .not (.tmp 6)), [], .none⟩, ⟨(.some 8), .none, (.mov (.tmp 7)), [], .none⟩, ⟨(.some 9), (.some (8, .false)), (.faddr 4 4 (.tmp 1)), [], .none⟩, ⟨(.some 10), (.some (8, .false)), (.load .false 1 (.tmp 9)), [], .none⟩, ⟨(.some 11), (.some (8, .false)), (.xc (.dir 61) [(.tmp 10), (.func 62)] [] []), [], .none⟩, ⟨(.some 12), .none, (.pick (.tmp 8) (.const (.bool .true)) (.tmp 11)), [], .none⟩]) (.cond (.tmp 12) (.seq (.reg [⟨(.some 2), .none, (.mov (.const (.bool .false))), [], .none⟩]) .ret) .skip)) (.seq (.seq (.reg [⟨(.some 13), .none, (.faddr 3 3 (.tmp 1)), [], .none⟩, ⟨(.some 14), .none, (.load .false 1 (.tmp 13)), [], .none⟩]) (.block 0 (.seq (.reg [⟨(.some 16), .none, (.bin .eql (.tmp 14) (.const (jn 1))), [], .none⟩, ⟨(.some 15), .none, (.mov (.tmp 16)), [], .none⟩]) (.cond (.tmp 15) (.seq (.reg [⟨(.some 17), .none, (.faddr 4 4 (.tmp 1)), [], .none⟩, ⟨(.some 18), .none, (.load .false 1 (.tmp 17)), [], .none⟩, ⟨(.some 19), .none, (.faddr 0 0 (.tmp 1)), [], .none⟩, ⟨(.some 20), .none, (.load .false 1 (.tmp 19)), [], .none⟩, ⟨(.some 21), .none, (.lcall 45 [(.tmp 18), (.tmp 20)]), [], .none⟩, ⟨(.some 2), .none, (.mov (.tmp 21)), [], .none⟩]) .ret) (.seq (.seq (.reg [⟨(.some 23), .none, (.bin .eql (.tmp 14) (.const (jn 2))), [], .none⟩, ⟨(.some 22), .none, (.mov (.tmp 23)), [], .none⟩]) (.cond (.tmp 22) .skip (.reg [⟨(.some 24), .none, (.bin .eql (.tmp 14) (.const (jn 3))), [], .none⟩, ⟨(.some 22), .none, (.mov (.tmp 24)), [], .none⟩]))) (.cond (.tmp 22) (.seq (.reg [⟨(.some 25), .none, (.faddr 4 4 (.tmp 1)), [], .none⟩, ⟨(.some 26), .none, (.load .false 1 (.tmp 25)), [], .none⟩, ⟨(.some 27), .none, (.len .false (.tmp 26)), [], .none⟩, ⟨(.some 28), .none, (.bin .eql (.tmp 27) (.const (jn 1))), [], .none⟩, ⟨(.some 29), .none, (.mov (.tmp 28)), [], .none⟩, ⟨(.some 30), (.some (29, .true)), (.faddr 4 4 (.tmp 1)), [], .none⟩, ⟨(.some 31), (.some (29, .true)), (.load .false 1 (.tmp 30)), [], .none⟩, ⟨(.some 32), (.some (29, .true)), (.iaddrS 1 (.tmp 31) (.const (jn 0))), [], .none⟩, ⟨(.some 33), (.some (29, .true)), (.load .false 1 (.tmp 32)), [], .none⟩, ⟨(.some 34), (.some (29, .true)), (.faddr 0 0 (.tmp 1)), [], .none⟩, ⟨(.some 35), (.some (29, .true)), (.load .false 1 (.tmp 34)), [], .none⟩, ⟨(.some 36), (.some (29, .true)), (.bin .neq (.tmp 33) (.tmp 35)), [], .none⟩, ⟨(.some 37), .none, (.pick (.tmp 29) (.tmp 36) (.const (.bool .false))), [], .none⟩, ⟨(.some 2), .none, (.mov (.tmp 37)), [], .none⟩]) .ret) .skip)))))) (.seq (.reg [⟨(.some 38), .none, (.faddr 4 4 (.tmp 1)), [], .none⟩, ⟨(.some 39), .none, (.load .false 1 (.tmp 38)), [], .none⟩, ⟨(.some 40), .none, (.len .false (.tmp 39)), [], .none⟩, ⟨(.some 41), .none, (.bin .eql (.tmp 40) (.const (jn 0))), [], .none⟩, ⟨(.some 2), .none, (.mov (.tmp 41)), [], .none⟩]) .ret))))
def fc526 : FC := ⟨1, 42, [(.tmp 2)], fb526⟩
theorem fc526_eq : compF Go.Proofs.Tryd.prog 43 = some fc526 := by kernel_rfl
def fb527 : AC := (.seq (.reg [⟨(.some 1), .none, (.box 71 (.tmp 0)), [], .none⟩, ⟨(.some 2), .none, (.mov (.const (.bool .false))), [], .none⟩]) (.seq (.reg [⟨(.some 3), .none, (.faddr 70 8 (.tmp 1)), [], .none⟩, ⟨(.some 4), .none, (.load .false 1 (.tmp 3)), [], .none⟩, ⟨(.some 5), .none, (.len .false (.tmp 4)), [], .none⟩, ⟨(.some 6), .none, (.bin .leq (.tmp 5) (.const (jn 8))), [], .none⟩, ⟨(.some 7), .none, (.mov (.tmp 6)), [], .none⟩, ⟨(.some 8), (.some (7, .true)), (.faddr 70 8 (.tmp 1)), [], .none⟩, ⟨(.some 9), (.some (7, .true)), (.load .false 1 (.tmp 8)), [], .none⟩, ⟨(.some 10), (.some (7, .true)), (.build (.st [1, 1] [(.lit (.slice .none 0 0)), (.lit .nilFunc)]) [(0, (.tmp 9)), (1, (.func 63))]), [], .none⟩, ⟨(.some 11), (.some (7, .true)), (.call 64 [(.tmp 10)]), [], .none⟩, ⟨(.some 12), .none, (.pick (.tmp 7) (.tmp 11) (.const (.bool .false))), [], .none⟩, ⟨(.some 13), .none, (.mov (.tmp 12)), [], .none⟩, ⟨(.some 14), (.some (13, .true)), (.faddr 70 8 (.tmp 1)), [], .none⟩, ⟨(.some 15), (.some (13, .true)), (.load .false 1 (.tmp 14)), [], .none⟩, ⟨(.some 16), (.some (13, .true)), (.rdp (.mkfn (.func 65) 0) [(.tmp 1)]), [], .none⟩, ⟨(.some 17), (.some (13, .true)), (.xc (.dir 32) [(.tmp 15), (.tmp 16)] [] []), [], .none⟩, ⟨(.some 18), (.some (13, .true)), (.un .not (.tmp 17)), [], .none⟩, ⟨(.some 19), .none, (.pick (.tmp 13) (.tmp 18) (.const (.bool .false))), [], .none⟩, ⟨(.some 2), .none, (.mov (.tmp 19)), [], .none⟩]) .ret))
def fc527 : FC := ⟨1, 20, [(.tmp 2)], fb527⟩
theorem fc527_eq : compF Go.Proofs.Tryd.prog 44 = some fc527 := by kernel_rfl
def fb537 : AC := (.seq (.reg [⟨(.some 2), .none, (.box 36 (.tmp 0)), [], .none⟩, ⟨(.some 3), .none, (.mov (.const (.bool .false))), [], .none⟩]) (.seq (.reg [⟨(.some 4), .none, (.faddr 0 0 (.tmp 2)), [], .none⟩, ⟨(.some 5), .none, (.load .false 1 (.tmp 4)), [], .none⟩, ⟨(.some 6), .none, (.call 40 [(.tmp 5)]), [], .none⟩, ⟨(.some 7), .none, (.un .not (.tmp 6)), [], .none⟩, ⟨(.some 8), .none, (.mov (.tmp 7)), [], .none⟩, ⟨(.some 9), (.some (8, .false)), (.faddr 0 0 (.tmp 2)), [], .none⟩, ⟨(.some 10), (.some (8, .false)), (.load .false 1 (.tmp 9)), [], .none⟩, ⟨(.some 11), (.some (8, .false)), (.faddr 0 0 (.tmp 1)), [], .none⟩, ⟨(.some 12), (.some (8, .false)), (.load .false 1 (.tmp 11)), [], .none⟩, ⟨(.some 13), (.some (8, .false)), (.bin .eql (.tmp 10) (.tmp 12)), [], .none⟩, ⟨(.some 14), .none, (.pick (.tmp 8) (.const (.bool .true)) (.tmp 13)), [], .none⟩, ⟨(.some 15), .none, (.mov (.tmp 14)), [], .none⟩, ⟨(.some 16), (.some (15, .false)), (.faddr 35 2 (.tmp 2)), [], .none⟩, ⟨(.some 17), (.some (15, .false)), (.load .false 1 (.tmp 16)), [], .none⟩, ⟨(.some 18), (.some (15, .false)), (.len .true (.tmp 17)), [], .none⟩, ⟨(.some 19), (.some (15, .false)), (.bin .gtr (.tmp 18) (.const (jn 256))), [], .none⟩, ⟨(.some 20), .none, (.pick (.tmp 15) (.const (.bool .true)) (.tmp 19)), [], .none⟩, ⟨(.some 3), .none, (.mov (.tmp 20)), [], .none⟩]) .ret))
def fc537 : FC := ⟨1, 21, [(.tmp 3)], fb537⟩
theorem fc537_eq : compF Go.Proofs.Tryd.prog 65 = some fc537 := by kernel_rfl

/-- An operation. -/
structure OpV where
  author : Int
  seq : Nat
  parents : List (List UInt8)
  kind : Int
  who : List Int
  ofk : List UInt8
  check : List UInt8
  text : List UInt8
  boxes : List BoxV
def opA (o : OpV) : AV := .st [1, 1, 1, 1, 1, 32, 32, 1, 1] [.lit (ji o.author), .lit (wn o.seq), .sl 32 (klA o.parents), .lit (ji o.kind), .sl 1 (o.who.map fun x => AV.lit (ji x)), keyA o.ofk, keyA o.check, .lit (tx o.text), .sl 36 (o.boxes.map fun x => boxA x)]
structure OpOk (o : OpV) : Prop where
  seq : o.seq < 4294967296
  parents : o.parents.length < 100000
  p32 : ∀ k ∈ o.parents, k.length = 32
  who : o.who.length < 100000
  ofk : o.ofk.length = 32
  check : o.check.length = 32
  text : o.text.length < 9223372036854775808
  boxes : o.boxes.length < 100000
  bok : ∀ b ∈ o.boxes, BoxOk b

def memB (a : Int) : Bool := decide (0 ≤ a ∧ a < 8)
def badBox (o : OpV) (b : BoxV) : Bool := !memB b.to || decide (b.to = o.author) || decide (256 < b.body.length)
def whoV (o : OpV) : Bool :=
  if !risV cmpN o.who || o.who.any (fun n => !memB n) then false
  else if o.kind = 1 then o.who.any (fun x => decide (o.author = x))
  else if o.kind = 2 ∨ o.kind = 3 then decide (o.who.length = 1 ∧ o.who.getD 0 0 ≠ o.author)
  else decide (o.who.length = 0)
def boxesV (o : OpV) : Bool := decide (o.boxes.length ≤ 8) && risV (fun a b => cmpN a.to b.to) o.boxes && !o.boxes.any (badBox o)

set_option maxHeartbeats 8000000 in
theorem badBox_call {H : List (Option Blk)} {c : Nat} {lc : Nat × Nat} {o : OpV} (hc : H[c]? = some (some (.box lc 71 (opA o)))) (b : BoxV) (hb : b.body.length < 9223372036854775808) :
    XCall Go.Proofs.Tryd.prog 65 [boxA b, .ptr c lc 0 []] H fun r H' => r = .lit (.bool (badBox o b)) ∧ H' = H := by
  have h537 := fc537_eq
  refine XCall.le ?_
  have cm := member_call b.to
  have lcc := (List.getElem?_eq_some_iff.1 hc).1
  unfold badBox memB
  unfold boxA
  unfold opA at hc
  obtain ⟨bto, bpub, bn', bprev, body⟩ := b
  simp only at cm hb ⊢
  refine XCall.ofC h537 (by show 2 ≤ 21; omega) ?_; show AC.wp _ fb537 ⟨H.length, [.st [1, 34, 1] [.lit (ji bto), .st [32, 1, 1] [keyA bpub, .lit (wn bn'), .lit (wn bprev)], .lit (tx body)], .ptr c lc 0 []] ++ List.replicate (21 - 2) .any, H ++ List.replicate 21 none⟩ (fun x s => match x with | .exit _ => False | _ => ∃ s1, Le s s1 ∧ FinX [(.tmp 3)] s1 _); unfold fb537
  generalize hN : H.length = N at *
  have q1 : ∀ L k, (H ++ L)[N + k]? = L[k]? := fun L k => cat1 N H L k hN
  have q2 : ∀ L k x, (H ++ L).set (N + k) x = H ++ L.set k x := fun L k x => cat2 N H L k x hN
  have q3 := fun L => (cat4 N H L c hN lcc).trans hc
  have efin : ∀ (b : Bool) (R : List (Option Blk)) (s : AS), b = (!decide (0 ≤ bto ∧ bto < 8) || decide (bto = o.author) || decide (256 < body.length)) → RVal s (.tmp 3) = some (.lit (.bool b)) → s.hp = H ++ R → ∃ s1, Le s s1 ∧ FinX [RV.tmp 3] s1 fun r H' => ∃ r' A, RelLe r r' ∧ r' ≠ .any ∧ HpLe H' A ∧ r' = .lit (.bool (!decide (0 ≤ bto ∧ bto < 8) || decide (bto = o.author) || decide (256 < body.length))) ∧ A = H := fun b R s e hr hR =>
    ⟨s, Le.refl _, finX1 hr (by simp) ⟨_, H, RelLe.refl _, by simp, by rw [hR]; exact HpLe.trim _ _, by rw [e], rfl⟩⟩
  generalize decide (0 ≤ bto ∧ bto < 8) = m at *
  refine wp_sg (areg_bx rfl rfl fun l => areg_end (by simp [push_cast, q2]; exact rfl) ?_)
  refine wp_sg ?_
  refine areg_run 2 (by simp [push_cast, q1]; exact rfl) ?_
  refine areg_ca (by simp [AS.ev, AS.coe, AS.put] <;> exact rfl) cm ?_
  cases m with
  | false =>
    refine areg_run 2 (by simp [push_cast]; exact rfl) ?_
    refine areg_run 6 (by simp [push_cast]; exact rfl) ?_
    refine areg_end (by simp [push_cast]; exact rfl) (wp_ret' ?_)
    exact efin true _ _ (by simp) rfl rfl
  | true =>
    by_cases h1 : bto = o.author
    · refine areg_run 7 (by simp [push_cast, q1, q3, h1]; exact rfl) ?_
      refine areg_run 2 (by simp [push_cast]; exact rfl) ?_
      refine areg_end (by simp [push_cast]; exact rfl) (wp_ret' ?_)
      exact efin true _ _ (by simp [h1]) rfl rfl
    · refine areg_run 7 (by simp [push_cast, q1, q3, h1]; exact rfl) ?_
      refine areg_run 2 (by simp [push_cast]; exact rfl) ?_
      refine areg_end (by simp [push_cast, q1]; exact rfl) (wp_ret' ?_)
      exact efin (decide (256 < body.length)) _ _ (by simp [h1]) (by simp [RVal, AS.ev, AS.coe]) rfl

def cloB (c : Nat) (lc : Nat × Nat) : AV := .fnv (.func 65) [] [.ptr c lc 0 []]
theorem tgt_cloB (c : Nat) (lc : Nat × Nat) (x : AV) : tgtA Go.Proofs.Tryd.prog .val [cloB c lc, x] = some (65, [x, .ptr c lc 0 []]) := by kernel_rfl
theorem mkfn_cloB (c : Nat) (lc : Nat × Nat) : rdA Go.Proofs.Tryd.prog (fun _ => none) (.mkfn (.func 65) 0) [.ptr c lc 0 []] = some (cloB c lc) := by kernel_rfl
theorem tgt_mem (x : AV) : tgtA Go.Proofs.Tryd.prog .val [.fnv (.func 62) [] [], x] = some (62, [x]) := by kernel_rfl
theorem tgt_num (x y : AV) : tgtA Go.Proofs.Tryd.prog .val [.fnv (.func 59) [] [], x, y] = some (59, [x, y]) := by kernel_rfl
theorem tgt_key (x y : AV) : tgtA Go.Proofs.Tryd.prog .val [.fnv (.func 41) [] [], x, y] = some (41, [x, y]) := by kernel_rfl
theorem tgt_box (x y : AV) : tgtA Go.Proofs.Tryd.prog .val [.fnv (.func 63) [] [], x, y] = some (63, [x, y]) := by kernel_rfl

set_option maxHeartbeats 16000000 in
theorem boxes_call {o : OpV} (ho : OpOk o) (hbl : ∀ b ∈ o.boxes, b.body.length < 9223372036854775808) : PCall Go.Proofs.Tryd.prog 44 [opA o] (.val (.lit (.bool (boxesV o)))) := by
  have h527 := fc527_eq
  have hcC : callable Go.Proofs.Tryd.prog 32 = true := by kernel_rfl
  have cr : PCall Go.Proofs.Tryd.prog 64 [.st [1, 1] [.sl 36 (o.boxes.map fun x => boxA x), fnL 63]] _ := PCall.args (m := [.st [1, 1] [.sl 36 (o.boxes.map fun x => boxA x), .fnv (.func 63) [] []]]) ⟨RelLe.rowF _ _ _, trivial⟩ (risB_call (fn := .fnv (.func 63) [] []) (g := 63) (cmp := fun a b => cmpN a.to b.to) (l := o.boxes) tgt_box rfl (fun a _ b _ => boxCmp_call a b) ho.boxes)
  have cc := fun (H : List (Option Blk)) (lc : Nat × Nat) (hc : H[1]? = some (some (.box lc 71 (opA o)))) => conB_call (H := H) (clo := cloB 1 lc) (g := 65) (as' := fun x => [boxA x, .ptr 1 lc 0 []]) (p := badBox o) (l := o.boxes) (fun x => tgt_cloB _ _ _) rfl
    (fun L x hx => badBox_call (by rw [List.getElem?_append_left (List.getElem?_eq_some_iff.1 hc).1]; exact hc) x (hbl x hx)) ho.boxes
  have hml : (o.boxes.map fun x => boxA x).length = o.boxes.length := List.length_map _
  have hopA : opA o = .st [1, 1, 1, 1, 1, 32, 32, 1, 1] [.lit (ji o.author), .lit (wn o.seq), .sl 32 (klA o.parents), .lit (ji o.kind), .sl 1 (o.who.map fun x => AV.lit (ji x)), keyA o.ofk, keyA o.check, .lit (tx o.text), .sl 36 (o.boxes.map fun x => boxA x)] := rfl
  unfold boxesV
  generalize hris : risV (fun a b => cmpN a.to b.to) o.boxes = ris at *
  generalize hany : o.boxes.any (badBox o) = any at *
  obtain ⟨_, _, _, _, o5, o6, _, _, _⟩ := ho
  generalize (o.boxes.map fun x => boxA x) = T at *
  rw [hopA]
  rw [hopA] at cc
  refine PCall.of h527 rfl ?_; show AC.wp _ fb527 (AS.init [.st [1, 1, 1, 1, 1, 32, 32, 1, 1] [.lit (ji o.author), .lit (wn o.seq), .sl 32 (klA o.parents), .lit (ji o.kind), .sl 1 (o.who.map fun x => AV.lit (ji x)), keyA o.ofk, keyA o.check, .lit (tx o.text), .sl 36 T]] 1 20) (fun x s => match x with | .exit _ => False | _ => Fin [(.tmp 2)] s _); unfold fb527 AS.init
  refine wp_sg (areg_bx rfl (by simp [AS.ev, AV.sz]) fun l1 => areg_end (by simp [push_cast]; exact rfl) ?_)
  refine wp_sg ?_
  by_cases h8 : o.boxes.length ≤ 8
  · refine areg_run 8 (by simp [push_cast, hml, h8, o5, o6]; exact rfl) ?_
    refine areg_g (b := true) (by simp [AS.ev, AS.put]) (areg_ca (by simp [AS.ev, AS.coe, AS.put] <;> exact rfl) cr ?_)
    cases ris with
    | false =>
      refine areg_run 2 (by simp [push_cast]; exact rfl) ?_
      refine areg_run 3 (by simp [push_cast]; exact rfl) ?_
      refine areg_end (by simp [push_cast]; exact rfl) (wp_ret' ?_)
      exact fin_tmp (by simp [RVal, AS.ev, AS.coe, h8]) (by simp)
    | true =>
      refine areg_run 4 (by simp [push_cast, o5, o6]; exact rfl) ?_
      refine areg_g (b := true) (by simp [AS.ev, AS.put]) (areg_rdp (us := [.ptr 1 l1 0 []]) rfl (mkfn_cloB _ _) ?_)
      refine areg_run 0 (by simp [push_cast]; exact rfl) ?_
      refine areg_g (b := true) (by simp [AS.ev, AS.put]) (areg_xq (us := [.sl 36 T, cloB 1 l1]) rfl (by simp only [tgtA, tgtB, Option.bind_some, hcC, if_true]) (cc _ l1 rfl) ⟨_, _, rfl, rfl⟩ (fun r hp' _ t' ht' => by cases ht') ?_)
      rintro r H' ⟨rfl, rfl⟩
      refine areg_end (by simp [push_cast]; exact rfl) (wp_ret' ?_)
      exact fin_tmp (by simp [RVal, AS.ev, AS.coe, h8]) (by simp)
  · refine areg_run 5 (by simp [push_cast, hml, h8, o5, o6]; exact rfl) ?_
    refine areg_run 3 (by simp [push_cast]; exact rfl) ?_
    refine areg_run 3 (by simp [push_cast]; exact rfl) ?_
    refine areg_run 3 (by simp [push_cast]; exact rfl) ?_
    refine areg_end (by simp [push_cast]; exact rfl) (wp_ret' ?_)
    exact fin_tmp (by simp [RVal, AS.ev, AS.coe, h8]) (by simp)

set_option maxHeartbeats 16000000 in
theorem who_call {o : OpV} (ho : OpOk o) : PCall Go.Proofs.Tryd.prog 43 [opA o] (.val (.lit (.bool (whoV o)))) := by
  have h526 := fc526_eq
  have hcC : callable Go.Proofs.Tryd.prog 61 = true := by kernel_rfl
  have cr : PCall Go.Proofs.Tryd.prog 60 [.st [1, 1] [.sl 1 (o.who.map fun x => AV.lit (ji x)), fnL 59]] _ := PCall.args (m := [.st [1, 1] [.sl 1 (o.who.map fun x => AV.lit (ji x)), .fnv (.func 59) [] []]]) ⟨RelLe.rowF _ _ _, trivial⟩ (risN_call (fn := .fnv (.func 59) [] []) (g := 59) (cmp := cmpN) (l := o.who) tgt_num rfl (fun a _ b _ => byNumber_call a b) ho.who)
  have cc := fun H => XCall.args (l := [.sl 1 (o.who.map fun x => AV.lit (ji x)), fnL 62]) (m := [.sl 1 (o.who.map fun x => AV.lit (ji x)), .fnv (.func 62) [] []]) ⟨RelLe.refl _, RelLe.fn _, trivial⟩ (conN_call (H := H) (clo := .fnv (.func 62) [] []) (g := 62) (as' := fun x => [.lit (ji x)]) (p := fun n => !memB n) (l := o.who) (fun x => tgt_mem _) rfl
    (fun L x hx => PCall.x _ (notmember_call x)) ho.who)
  have cin := containsN_call (v := o.author) (l := o.who) ho.who
  have hml : (o.who.map fun x => AV.lit (ji x)).length = o.who.length := List.length_map _
  have hopA : opA o = .st [1, 1, 1, 1, 1, 32, 32, 1, 1] [.lit (ji o.author), .lit (wn o.seq), .sl 32 (klA o.parents), .lit (ji o.kind), .sl 1 (o.who.map fun x => AV.lit (ji x)), keyA o.ofk, keyA o.check, .lit (tx o.text), .sl 36 (o.boxes.map fun x => boxA x)] := rfl
  have hhd : ∀ h : 0 < o.who.length, (o.who.map fun x => AV.lit (ji x))[0]? = some (.lit (ji (o.who.getD 0 0))) := fun h => by
    rw [List.getElem?_map, List.getElem?_eq_getElem h, List.getD_eq_getElem?_getD, List.getElem?_eq_getElem h]; rfl
  obtain ⟨_, _, _, hw, o5, o6, _, _, _⟩ := ho
  unfold whoV
  generalize risV cmpN o.who = ris at *
  generalize (o.who.any fun n => !memB n) = any at *
  generalize (o.who.any fun x => decide (o.author = x)) = cin0 at *
  generalize o.who.getD 0 0 = w0 at *
  generalize (o.who.map fun x => AV.lit (ji x)) = T at *
  rw [hopA]
  generalize hau : o.author = au at *
  generalize hkd : o.kind = kd at *
  refine PCall.of h526 rfl ?_; show AC.wp _ fb526 (AS.init [.st [1, 1, 1, 1, 1, 32, 32, 1, 1] [.lit (ji au), .lit (wn o.seq), .sl 32 (klA o.parents), .lit (ji kd), .sl 1 T, keyA o.ofk, keyA o.check, .lit (tx o.text), .sl 36 (o.boxes.map fun x => boxA x)]] 1 42) (fun x s => match x with | .exit _ => False | _ => Fin [(.tmp 2)] s _); unfold fb526 AS.init
  refine wp_sg (areg_bx rfl (by simp [AS.ev, AV.sz]) fun l1 => areg_end (by simp [push_cast]; exact rfl) ?_)
  refine wp_seq' (wp_seq' (wp_rg ?_))
  refine areg_run 3 (by simp [push_cast, o5, o6]; exact rfl) ?_
  refine areg_ca (by simp [AS.ev, AS.coe, AS.put] <;> exact rfl) cr ?_
  cases ris with
  | false =>
    refine areg_run 2 (by simp [push_cast]; exact rfl) ?_
    refine areg_run 3 (by simp [push_cast]; exact rfl) ?_
    refine areg_end (by simp [push_cast]; exact rfl) ?_
    refine wp_cond_t (by simp [AS.ev]) (wp_sr (by simp [push_cast]; exact rfl) (wp_ret' ?_))
    exact fin_tmp (by simp [RVal, AS.ev, AS.coe]) (by simp)
  | true =>
    refine areg_run 4 (by simp [push_cast, o5, o6]; exact rfl) ?_
    refine areg_g (b := false) (by simp [AS.ev, AS.put]) (areg_xq (us := [.sl 1 T, fnL 62]) rfl (by simp only [tgtA, tgtB, Option.bind_some, hcC, if_true]) (cc _) ⟨_, _, rfl, rfl⟩ (fun r hp' _ t' ht' => by cases ht') ?_)
    rintro r H' ⟨rfl, rfl⟩
    refine areg_end (by simp [push_cast]; exact rfl) ?_
    cases any with
    | true =>
      refine wp_cond_t (by simp [AS.ev]) (wp_sr (by simp [push_cast]; exact rfl) (wp_ret' ?_))
      exact fin_tmp (by simp [RVal, AS.ev, AS.coe]) (by simp)
    | false =>
      refine wp_cond_f (by simp [AS.ev]) (wp_skip' ?_)
      simp only [Bool.not_true, Bool.or_self, Bool.false_eq_true, if_false]
      refine wp_seq' (wp_sr (by simp [push_cast, o5, o6]; exact rfl) (wp_block' ?_))
      by_cases k1 : kd = 1
      · refine wp_sr (by simp [push_cast, k1]; exact rfl) (wp_cond_t (by simp [AS.ev, k1]) ?_)
        refine wp_sg ?_
        refine areg_run 4 (by simp [push_cast, o5, o6]; exact rfl) ?_
        refine areg_lc (by simp [AS.ev, AS.lend, AS.lendF, AS.put, AOp.ro, AS.blk] <;> exact rfl) rfl cin ?_
        refine areg_end (by simp [push_cast]; exact rfl) (wp_ret' ?_)
        rw [if_pos k1]
        exact fin_tmp (by simp [RVal, AS.ev, AS.coe]) (by simp)
      · rw [if_neg k1]
        refine wp_sr (by simp [push_cast]; exact rfl) (wp_cond_f (by simp [AS.ev, k1]) ?_)
        have key : ∀ b : Bool, b = decide (kd = 2 ∨ kd = 3) → True := fun _ _ => trivial
        by_cases k23 : kd = 2 ∨ kd = 3
        · rw [if_pos k23]
          have hfin : ∀ (s : AS), s = s → True := fun _ _ => trivial
          have step : ∀ (b2 b3 : Bool), True := fun _ _ => trivial
          by_cases hl1 : o.who.length = 1
          · have h0 := hhd (by omega)
            have h0' : ∀ h, T[0]'h = .lit (ji w0) := fun h => by rw [List.getElem?_eq_getElem h] at h0; exact Option.some.inj h0
            rcases k23 with k2 | k3
            · refine wp_seq' (wp_seq' (wp_r (by simp [push_cast, k2]; exact rfl) (wp_cond_t (by simp [AS.ev, k2]) (wp_skip' ?_))))
              refine wp_cond_t (by simp [AS.ev]) ?_
              refine wp_sg ?_
              refine areg_run 5 (by simp [push_cast, hml, hl1, o5, o6]; exact rfl) ?_
              refine areg_end (by simp [push_cast, hml, hl1, o5, o6, h0, h0']; exact rfl) (wp_ret' ?_)
              exact fin_tmp (by simp [RVal, AS.ev, AS.coe, hl1]) (by simp)
            · have k2 : ¬ kd = 2 := by omega
              refine wp_seq' (wp_seq' (wp_r (by simp [push_cast, k2]; exact rfl) (wp_cond_f (by simp [AS.ev, k2]) (wp_r (by simp [push_cast, k3]; exact rfl) ?_))))
              refine wp_cond_t (by simp [AS.ev]) ?_
              refine wp_sg ?_
              refine areg_run 5 (by simp [push_cast, hml, hl1, o5, o6]; exact rfl) ?_
              refine areg_end (by simp [push_cast, hml, hl1, o5, o6, h0, h0']; exact rfl) (wp_ret' ?_)
              exact fin_tmp (by simp [RVal, AS.ev, AS.coe, hl1]) (by simp)
          · rcases k23 with k2 | k3
            · refine wp_seq' (wp_seq' (wp_r (by simp [push_cast, k2]; exact rfl) (wp_cond_t (by simp [AS.ev, k2]) (wp_skip' ?_))))
              refine wp_cond_t (by simp [AS.ev]) ?_
              refine wp_sg ?_
              refine areg_run 5 (by simp [push_cast, hml, hl1, o5, o6]; exact rfl) ?_
              refine areg_run 4 (by simp [push_cast]; exact rfl) ?_
              refine areg_end (by simp [push_cast]; exact rfl) (wp_ret' ?_)
              exact fin_tmp (by simp [RVal, AS.ev, AS.coe, hl1]) (by simp)
            · have k2 : ¬ kd = 2 := by omega
              refine wp_seq' (wp_seq' (wp_r (by simp [push_cast, k2]; exact rfl) (wp_cond_f (by simp [AS.ev, k2]) (wp_r (by simp [push_cast, k3]; exact rfl) ?_))))
              refine wp_cond_t (by simp [AS.ev]) ?_
              refine wp_sg ?_
              refine areg_run 5 (by simp [push_cast, hml, hl1, o5, o6]; exact rfl) ?_
              refine areg_run 4 (by simp [push_cast]; exact rfl) ?_
              refine areg_end (by simp [push_cast]; exact rfl) (wp_ret' ?_)
              exact fin_tmp (by simp [RVal, AS.ev, AS.coe, hl1]) (by simp)
        · have k2 : ¬ kd = 2 := fun h => k23 (.inl h)
          have k3 : ¬ kd = 3 := fun h => k23 (.inr h)
          rw [if_neg k23]
          refine wp_seq' (wp_seq' (wp_r (by simp [push_cast, k2]; exact rfl) (wp_cond_f (by simp [AS.ev, k2]) (wp_r (by simp [push_cast, k3]; exact rfl) ?_))))
          refine wp_cond_f (by simp [AS.ev, k3]) (wp_skip' ?_)
          refine wp_sr (by simp [push_cast, hml, o5, o6]; exact rfl) (wp_ret' ?_)
          exact fin_tmp (by simp [RVal, AS.ev, AS.coe]) (by simp)
end Go.Cab

/- Frame: Right; says. -/
-- TEXTS
-- KIT
namespace Go.Cab
open Classical
def fb520 : AC := (.seq (.reg [⟨(.some 1), .none, (.box 71 (.tmp 0)), [], .none⟩, ⟨(.some 2), .none, (.mov (.const (.bool .false))), [], .none⟩]) (.seq (.reg [⟨(.some 7), .none, (.build (.arr 1 (List.replicate 32 (.lit (bn 0)))) []), [], .none⟩, ⟨(.some 3), .none, (.alloc 32 (.arr 1 (List.replicate 32 (.lit (bn 0))))), [], .none⟩, ⟨.none, .none, (.store 32 (.tmp 3) (.tmp 7)), [], .none⟩]) (.seq (.reg [⟨(.some 8), .none, (.faddr 3 3 (.tmp 1)), [], .none⟩, ⟨(.some 9), .none, (.load .false 1 (.tmp 8)), [], .none⟩, ⟨(.some 10), .none, (.bin .eql (.tmp 9) (.const (jn 5))), [], .none⟩, ⟨(.some 11), .none, (.mov (.tmp 10)), [], .none⟩, ⟨(.some 12), (.some (11, .false)), (.faddr 3 3 (.tmp 1)), [], .none⟩, ⟨(.some 13), (.some (11, .false)), (.load .false 1 (.tmp 12)), [], .none⟩, ⟨(.some 14), (.some (11, .false)), (.bin .eql (.tmp 13) (.const (jn 6))), [], .none⟩, ⟨(.some 15), .none, (.pick (.tmp 11) (.const (.bool .true)) (.tmp 14)), [], .none⟩, ⟨(.some 16), .none, (.faddr 3 3 (.tmp 1)), [], .none⟩, ⟨(.some 17), .none, (.load .false 1 (.tmp 16)), [], .none⟩, ⟨(.some 18), .none, (.bin .eql (.tmp 17) (.const (jn 7))), [], .none⟩, ⟨(.some 19), .none, (.faddr 3 3 (.tmp 1)), [], .none⟩, ⟨(.some 20), .none, (.load .false 1 (.tmp 19)), [], .none⟩, ⟨(.some 21), .none, (.bin .eql (.tmp 20) (.const (jn 1))), [], .none⟩, ⟨(.some 4), .none, (.mov (.tmp 15)), [], .none⟩, ⟨(.some 5), .none, (.mov (.tmp 18)), [], .none⟩, ⟨(.some 6), .none, (.mov (.tmp 21)), [], .none⟩]) (.seq (.block 0 (.seq (.reg [⟨(.some 23), .none, (.faddr 0 0 (.tmp 1)), [], .none⟩, ⟨(.some 24), .none, (.load .false 1 (.tmp 23)), [], .none⟩, ⟨(.some 25), .none, (.call 40 [(.tmp 24)]), [], .none⟩, ⟨(.some 26), .none, (.un .not (.tmp 25)), [], .none⟩, ⟨(.some 27), .none, (.mov (.tmp 26)), [], .none⟩, ⟨(.some 28), (.some (27, .false)), (.faddr 1 1 (.tmp 1)), [], .none⟩, ⟨(.some 29), (.some (27, .false)), (.load .false 1 (.tmp 28)), [], .none⟩, ⟨(.some 30), (.some (27, .false)), (.bin .eql (.tmp 29) (.const (wn 0))), [], .none⟩, ⟨(.some 31), .none, (.pick (.tmp 27) (.const (.bool .true)) (.tmp 30)), [], .none⟩, ⟨(.some 32), .none, (.mov (.tmp 31)), [], .none⟩, ⟨(.some 33), (.some (32, .false)), (.faddr 3 3 (.tmp 1)), [], .none⟩, ⟨(.some 34), (.some (32, .false)), (.load .false 1 (.tmp 33)), [], .none⟩, ⟨(.some 35), (.some (32, .false)), (.bin .lss (.tmp 34) (.const (jn 1))), [], .none⟩, ⟨(.some 36), .none, (.pick (.tmp 32) (.const (.bool .true)) (.tmp 35)), [], .none⟩, ⟨(.some 37), .none, (.mov (.tmp 36)), [], .none⟩, ⟨(.some 38), (.some (37, .false)), (.faddr 3 3 (.tmp 1)), [], .none⟩, ⟨(.some 39), (.some (37, .false)), (.load .false 1 (.tmp 38)), [], .none⟩, ⟨(.some 40), (.some (37, .false)), (.bin .gtr (.tmp 39) (.const (jn 7))), [], .none⟩, ⟨(.some 41), .none, (.pick (.tmp 37) (.const (.bool .true)) (.tmp 40)), [], .none⟩, ⟨(.some 22), .none, (.mov (.tmp 41)), [], .none⟩]) (.cond (.tmp 22) (.seq (.reg [⟨(.some 2), .none, (.mov (.const (.bool .false))), [], .none⟩]) .ret) (.seq (.reg [⟨(.some 43), .none, (.faddr 2 2 (.tmp 1)), [], .none⟩, ⟨(.some 44), .none, (.load .false 1 (.tmp 43)), [], .none⟩, ⟨(.some 45), .none, (.len .false (.tmp 44)), [], .none⟩, ⟨(.some 46), .none, (.bin .gtr (.tmp 45) (.const (jn 8))), [], .none⟩, ⟨(.some 47), .none, (.mov (.tmp 46)), [], .none⟩, ⟨(.some 48), (.some (47, .false)), (.faddr 2 2 (.tmp 1)), [], .none⟩, ⟨(.some 49), (.some (47, .false)), (.load .false 1 (.tmp 48)), [], .none⟩, ⟨(.some 50), (.some (47, .false)), (.build (.st [1, 1] [(.lit (.slice .none 0 0)), (.lit .nilFunc)]) [(0, (.tmp 49)), (1, (.func 41))]), [], .none⟩, ⟨(.some 51), (.some (47, .false)), (.call 42 [(.tmp 50)]), [], .none⟩, ⟨(.some 52), (.some (47, .false)), (.un .not (.tmp 51)), [], .none⟩, ⟨(.some 53), .none, (.pick (.tmp 47) (.const (.bool .true)) (.tmp 52)), [], .none⟩, ⟨(.some 54), .none, (.mov (.tmp 53)), [], .none⟩, ⟨(.some 55), (.some (54, .false)), (.mov (.tmp 6)), [], .none⟩, ⟨(.some 56), (.some (54, .false)), (.faddr 2 2 (.tmp 1)), [], .none⟩, ⟨(.some 57), (.some (54, .false)), (.load .false 1 (.tmp 56)), [], .none⟩, ⟨(.some 58), (.some (54, .false)), (.len .false (.tmp 57)), [], .none⟩, ⟨(.some 59), (.some (54, .false)), (.bin .eql (.tmp 58) (.const (jn 0))), [], .none⟩, ⟨(.some 60), (.some (54, .false)), (.beq .true (.tmp 55) (.tmp 59)), [], .none⟩, ⟨(.some 61), .none, (.pick (.tmp 54) (.const (.bool .true)) (.tmp 60)), [], .none⟩, ⟨(.some 62), .none, (.mov (.tmp 61)), [], .none⟩, ⟨(.some 63), (.some (62, .false)), (.mov (.tmp 6)), [], .none⟩, ⟨(.some 64), (.some (62, .false)), (.mov (.tmp 63)), [], .none⟩, ⟨(.some 65), (.some (64, .true)), (.faddr 1 1 (.tmp 1)), [], .none⟩, ⟨(.some 66), (.some (64, .true)), (.load .false 1 (.tmp 65)), [], .none⟩, ⟨(.some 67), (.some (64, .true)), (.bin .neq (.tmp 66) (.const (wn 1))), [], .none⟩, ⟨(.some 68), (.some (62, .false)), (.pick (.tmp 64) (.tmp 67) (.const (.bool .false))), [], .none⟩, ⟨(.some 69), .none, (.pick (.tmp 62) (.const (.bool .true)) (.tmp 68)), [], .none⟩, ⟨(.some 42), .none, (.mov (.tmp 69)), [], .none⟩]) (.cond (.tmp 42) (.seq (.reg [⟨(.some 2), .none, (.mov (.const (.bool .false))), [], .none⟩]) .ret) (.seq (.reg [⟨(.some 71), .none, (.mov (.tmp 4)), [], .none⟩, ⟨(.some 72), .none, (.faddr 5 5 (.tmp 1)), [], .none⟩, ⟨(.some 73), .none, (.load .true 32 (.tmp 72)), [], .none⟩, ⟨(.some 74), .none, (.load .true 32 (.tmp 3)), [], .none⟩, ⟨(.some 75), .none, (.eqv 23 .true (.tmp 73) (.tmp 74)), [], .none⟩, ⟨(.some 76), .none, (.beq .true (.tmp 71) (.tmp 75)), [], .none⟩, ⟨(.some 77), .none, (.mov (.tmp 76)), [], .none⟩, ⟨(.some 78), (.some (77, .false)), (.mov (.tmp 5)), [], .none⟩, ⟨(.some 79), (.some (77, .false)), (.faddr 37 6 (.tmp 1)), [], .none⟩, ⟨(.some 80), (.some (77, .false)), (.load .true 32 (.tmp 79)), [], .none⟩, ⟨(.some 81), (.some (77, .false)), (.load .true 32 (.tmp 3)), [], .none⟩, ⟨(.some 82), (.some (77, .false)), (.eqv 23 .true (.tmp 80) (.tmp 81)), [], .none⟩, ⟨(.some 83), (.some (77, .false)), (.beq .false (.tmp 78) (.tmp 82)), [], .none⟩, ⟨(.some 84), .none, (.pick (.tmp 77) (.const (.bool .true)) (.tmp 83)), [], .none⟩, ⟨(.some 85), .none, (.mov (.tmp 84)), [], .none⟩, ⟨(.some 86), (.some (85, .false)), (.mov (.tmp 5)), [], .none⟩, ⟨(.some 87), (.some (85, .false)), (.faddr 69 7 (.tmp 1)), [], .none⟩, ⟨(.some 88), (.some (85, .false)), (.load .false 1 (.tmp 87)), [], .none⟩, ⟨(.some 89), (.some (85, .false)), (.len .true (.tmp 88)), [], .none⟩, ⟨(.some 90), (.some (85, .false)), (.bin .gtr (.tmp 89) (.const (jn 0))), [], .none⟩, ⟨(.some 91), (.some (85, .false)), (.beq .true (.tmp 86) (.tmp 90)), [], .none⟩, ⟨(.some 92), .none, (.pick (.tmp 85) (.const (.bool .true)) (.tmp 91)), [], .none⟩, ⟨(.some 93), .none, (.mov (.tmp 92)), [], .none⟩, ⟨(.some 94), (.some (93, .false)), (.faddr 69 7 (.tmp 1)), [], .none⟩, ⟨(.some 95), (.some (93, .false)), (.load .false 1 (.tmp 94)), [], .none⟩, ⟨(.some 96), (.some (93, .false)), (.len .true (.tmp 95)), [], .none⟩, ⟨(.some 97), (.some (93, .false)), (.bin .gtr (.tmp 96) (.const (jn 256))), [], .none⟩, ⟨(.some 98), .none, (.pick (.tmp 93) (.const (.bool .true)) (.tmp 97)), [], .none⟩, ⟨(.some 70), .none, (.mov (.tmp 98)), [], .none⟩]) (.cond (.tmp 70) (.seq (.reg [⟨(.some 2), .none, (.mov (.const (.bool .false))), [], .none⟩]) .ret) .skip))))))) (.seq (.reg [⟨(.some 99), .none, (.load .true 71 (.tmp 1)), [], .none⟩, ⟨(.some 100), .none, (.call 43 [(.tmp 99)]), [], .none⟩, ⟨(.some 101), .none, (.mov (.tmp 100)), [], .none⟩, ⟨(.some 102), (.some (101, .true)), (.load .true 71 (.tmp 1)), [], .none⟩, ⟨(.some 103), (.some (101, .true)), (.call 44 [(.tmp 102)]), [], .none⟩, ⟨(.some 104), .none, (.pick (.tmp 101) (.tmp 103) (.const (.bool .false))), [], .none⟩, ⟨(.some 2), .none, (.mov (.tmp 104)), [], .none⟩]) .ret)))))
def fc520 : FC := ⟨1, 105, [(.tmp 2)], fb520⟩
theorem fc520_eq : compF Go.Proofs.Tryd.prog 26 = some fc520 := by kernel_rfl

theorem bin_eqlw (a b : Nat) : binVal .eql (wn a) (wn b) = some (.bool (decide (a = b))) := by
  simp only [binVal, wn, ne_eq, not_true_eq_false, if_false, Option.some.injEq, Value.bool.injEq]; rw [Bool.eq_iff_iff]; simp; try omega
theorem bin_neqw (a b : Nat) : binVal .neq (wn a) (wn b) = some (.bool (decide (a ≠ b))) := by
  simp only [binVal, wn, ne_eq, not_true_eq_false, if_false, Option.some.injEq, Value.bool.injEq]; rw [Bool.eq_iff_iff]; simp; try omega
attribute [push_cast] bin_eqlw bin_neqw
/-- Whether an operation may be: what is wrong with it, test by test. -/
def c1V (o : OpV) : Bool := decide (memB o.author = false ∨ o.seq = 0 ∨ o.kind < 1 ∨ 7 < o.kind)
def c2V (o : OpV) : Bool := decide (8 < o.parents.length ∨ risV Go.Lib.compareBytes o.parents = false ∨ ¬ (o.kind = 1 ↔ o.parents.length = 0) ∨ (o.kind = 1 ∧ o.seq ≠ 1))
def c3V (o : OpV) : Bool := decide (¬ ((o.kind = 5 ∨ o.kind = 6) ↔ o.ofk ≠ zk) ∨ (o.kind = 7 ↔ o.check ≠ zk) ∨ ¬ (o.kind = 7 ↔ 0 < o.text.length) ∨ 256 < o.text.length)
def rightV (o : OpV) : Bool := !c1V o && !c2V o && !c3V o && (whoV o && boxesV o)
def rtS (A : AV) (l1 l3 : Nat × Nat) (y : Bool × Bool × Bool) : AS :=
  ⟨0, [A, .ptr 1 l1 0 [], .lit (.bool false), .ptr 3 l3 0 [], .lit (.bool y.1), .lit (.bool y.2.1), .lit (.bool y.2.2)] ++ List.replicate 98 .any, [none, some (.box l1 71 A), none, some (.box l3 32 (keyA zk))] ++ List.replicate 101 none⟩
def rtC (A : AV) (l1 l3 : Nat × Nat) (y : Bool × Bool × Bool) (i j : Nat) (c : Bool) : AS :=
  ⟨0, [A, .ptr 1 l1 0 [], .lit (.bool false), .ptr 3 l3 0 [], .lit (.bool y.1), .lit (.bool y.2.1), .lit (.bool y.2.2)] ++ List.replicate i .any ++ [.lit (.bool c)] ++ List.replicate j .any, [none, some (.box l1 71 A), none, some (.box l3 32 (keyA zk))] ++ List.replicate 101 none⟩
def opB (au : Int) (sq : Nat) (ps : List (List UInt8)) (kd : Int) (W : List AV) (ofk check text : List UInt8) (B : List AV) : AV := .st [1, 1, 1, 1, 1, 32, 32, 1, 1] [.lit (ji au), .lit (wn sq), .sl 32 (klA ps), .lit (ji kd), .sl 1 W, keyA ofk, keyA check, .lit (tx text), .sl 36 B]

section
variable {au kd : Int} {sq pn tl : Nat} {ps : List (List UInt8)} {W B : List AV} {ofk check text : List UInt8} {l1 l3 : Nat × Nat} {mem ris : Bool}


set_option maxHeartbeats 16000000 in
theorem chain1 {Q : AX → AS → Prop} {y : Bool × Bool × Bool} {b : AC} (o5 : ofk.length = 32) (o6 : check.length = 32) (cm : PCall Go.Proofs.Tryd.prog 40 [.lit (ji au)] (.val (.lit (.bool mem))))
    (k : ∀ c, c = decide (mem = false ∨ sq = 0 ∨ kd < 1 ∨ 7 < kd) → b.wp Go.Proofs.Tryd.prog (rtC (opB au sq ps kd W ofk check text B) l1 l3 y 15 82 c) Q) : (AC.seq (.reg [⟨(.some 23), .none, (.faddr 0 0 (.tmp 1)), [], .none⟩, ⟨(.some 24), .none, (.load .false 1 (.tmp 23)), [], .none⟩, ⟨(.some 25), .none, (.call 40 [(.tmp 24)]), [], .none⟩, ⟨(.some 26), .none, (.un .not (.tmp 25)), [], .none⟩, ⟨(.some 27), .none, (.mov (.tmp 26)), [], .none⟩, ⟨(.some 28), (.some (27, .false)), (.faddr 1 1 (.tmp 1)), [], .none⟩, ⟨(.some 29), (.some (27, .false)), (.load .false 1 (.tmp 28)), [], .none⟩, ⟨(.some 30), (.some (27, .false)), (.bin .eql (.tmp 29) (.const (wn 0))), [], .none⟩, ⟨(.some 31), .none, (.pick (.tmp 27) (.const (.bool .true)) (.tmp 30)), [], .none⟩, ⟨(.some 32), .none, (.mov (.tmp 31)), [], .none⟩, ⟨(.some 33), (.some (32, .false)), (.faddr 3 3 (.tmp 1)), [], .none⟩, ⟨(.some 34), (.some (32, .false)), (.load .false 1 (.tmp 33)), [], .none⟩, ⟨(.some 35), (.some (32, .false)), (.bin .lss (.tmp 34) (.const (jn 1))), [], .none⟩, ⟨(.some 36), .none, (.pick (.tmp 32) (.const (.bool .true)) (.tmp 35)), [], .none⟩, ⟨(.some 37), .none, (.mov (.tmp 36)), [], .none⟩, ⟨(.some 38), (.some (37, .false)), (.faddr 3 3 (.tmp 1)), [], .none⟩, ⟨(.some 39), (.some (37, .false)), (.load .false 1 (.tmp 38)), [], .none⟩, ⟨(.some 40), (.some (37, .false)), (.bin .gtr (.tmp 39) (.const (jn 7))), [], .none⟩, ⟨(.some 41), .none, (.pick (.tmp 37) (.const (.bool .true)) (.tmp 40)), [], .none⟩, ⟨(.some 22), .none, (.mov (.tmp 41)), [], .none⟩]) b).wp Go.Proofs.Tryd.prog (rtS (opB au sq ps kd W ofk check text B) l1 l3 y) Q := by
  refine wp_seqM (fun c => rtC (opB au sq ps kd W ofk check text B) l1 l3 y 15 82 c) (fun c => c = decide (mem = false ∨ sq = 0 ∨ kd < 1 ∨ 7 < kd)) k (wp_rg ?_)
  unfold rtS opB
  refine areg_run 2 (by simp [push_cast, o5, o6]; exact rfl) ?_
  refine areg_ca (by simp [AS.ev, AS.coe, AS.put] <;> exact rfl) cm ?_
  cases mem with
  | false =>
    refine areg_run 2 (by simp [push_cast]; exact rfl) ?_
    refine areg_run 5 (by simp [push_cast]; exact rfl) ?_
    refine areg_run 5 (by simp [push_cast]; exact rfl) ?_
    refine areg_end (by simp [push_cast]; exact rfl) ?_
    refine ⟨true, by simp, Le.mk rfl (by simp [rtC, leT, keyA, opB]) (by simp [rtC, leH, keyA, opB])⟩
  | true =>
  by_cases a2 : sq = 0
  · refine areg_run 6 (by simp [push_cast, o5, o6, a2]; exact rfl) ?_
    refine areg_run 5 (by simp [push_cast]; exact rfl) ?_
    refine areg_end (by simp [push_cast]; exact rfl) ?_
    refine ⟨true, by simp [a2], Le.mk rfl (by simp [rtC, leT, keyA, opB, a2]) (by simp [rtC, leH, keyA, opB, a2])⟩
  by_cases a3 : kd < 1
  · refine areg_run 6 (by simp [push_cast, o5, o6, a2]; exact rfl) ?_
    refine areg_run 6 (by simp [push_cast, o5, o6, a3]; exact rfl) ?_
    refine areg_end (by simp [push_cast]; exact rfl) ?_
    refine ⟨true, by simp [a3], Le.mk rfl (by simp [rtC, leT, keyA, opB]) (by simp [rtC, leH, keyA, opB])⟩
  by_cases a4 : 7 < kd
  · refine areg_run 6 (by simp [push_cast, o5, o6, a2]; exact rfl) ?_
    refine areg_run 6 (by simp [push_cast, o5, o6, a3]; exact rfl) ?_
    refine areg_end (by simp [push_cast, o5, o6, a4]; exact rfl) ?_
    refine ⟨true, by simp [a4], Le.mk rfl (by simp [rtC, leT, keyA, opB]) (by simp [rtC, leH, keyA, opB])⟩
  refine areg_run 6 (by simp [push_cast, o5, o6, a2]; exact rfl) ?_
  refine areg_run 6 (by simp [push_cast, o5, o6, a3]; exact rfl) ?_
  refine areg_end (by simp [push_cast, o5, o6, a4]; exact rfl) ?_
  refine ⟨false, by simp [a2, a3, a4], Le.mk rfl (by simp [rtC, leT, keyA, opB]) (by simp [rtC, leH, keyA, opB])⟩

set_option maxHeartbeats 16000000 in
theorem chain2 {Q : AX → AS → Prop} {b : AC} {ac sa : Bool} {c0 : Bool} (hpl : (klA ps).length = pn) (o5 : ofk.length = 32) (o6 : check.length = 32) (cr : PCall Go.Proofs.Tryd.prog 42 [.st [1, 1] [.sl 32 (klA ps), fnL 41]] (.val (.lit (.bool ris))))
    (k : ∀ c, c = decide (8 < pn ∨ ris = false ∨ ¬ (kd = 1 ↔ pn = 0) ∨ (kd = 1 ∧ sq ≠ 1)) → b.wp Go.Proofs.Tryd.prog (rtC (opB au sq ps kd W ofk check text B) l1 l3 (ac, sa, decide (kd = 1)) 35 62 c) Q) : (AC.seq (.reg [⟨(.some 43), .none, (.faddr 2 2 (.tmp 1)), [], .none⟩, ⟨(.some 44), .none, (.load .false 1 (.tmp 43)), [], .none⟩, ⟨(.some 45), .none, (.len .false (.tmp 44)), [], .none⟩, ⟨(.some 46), .none, (.bin .gtr (.tmp 45) (.const (jn 8))), [], .none⟩, ⟨(.some 47), .none, (.mov (.tmp 46)), [], .none⟩, ⟨(.some 48), (.some (47, .false)), (.faddr 2 2 (.tmp 1)), [], .none⟩, ⟨(.some 49), (.some (47, .false)), (.load .false 1 (.tmp 48)), [], .none⟩, ⟨(.some 50), (.some (47, .false)), (.build (.st [1, 1] [(.lit (.slice .none 0 0)), (.lit .nilFunc)]) [(0, (.tmp 49)), (1, (.func 41))]), [], .none⟩, ⟨(.some 51), (.some (47, .false)), (.call 42 [(.tmp 50)]), [], .none⟩, ⟨(.some 52), (.some (47, .false)), (.un .not (.tmp 51)), [], .none⟩, ⟨(.some 53), .none, (.pick (.tmp 47) (.const (.bool .true)) (.tmp 52)), [], .none⟩, ⟨(.some 54), .none, (.mov (.tmp 53)), [], .none⟩, ⟨(.some 55), (.some (54, .false)), (.mov (.tmp 6)), [], .none⟩, ⟨(.some 56), (.some (54, .false)), (.faddr 2 2 (.tmp 1)), [], .none⟩, ⟨(.some 57), (.some (54, .false)), (.load .false 1 (.tmp 56)), [], .none⟩, ⟨(.some 58), (.some (54, .false)), (.len .false (.tmp 57)), [], .none⟩, ⟨(.some 59), (.some (54, .false)), (.bin .eql (.tmp 58) (.const (jn 0))), [], .none⟩, ⟨(.some 60), (.some (54, .false)), (.beq .true (.tmp 55) (.tmp 59)), [], .none⟩, ⟨(.some 61), .none, (.pick (.tmp 54) (.const (.bool .true)) (.tmp 60)), [], .none⟩, ⟨(.some 62), .none, (.mov (.tmp 61)), [], .none⟩, ⟨(.some 63), (.some (62, .false)), (.mov (.tmp 6)), [], .none⟩, ⟨(.some 64), (.some (62, .false)), (.mov (.tmp 63)), [], .none⟩, ⟨(.some 65), (.some (64, .true)), (.faddr 1 1 (.tmp 1)), [], .none⟩, ⟨(.some 66), (.some (64, .true)), (.load .false 1 (.tmp 65)), [], .none⟩, ⟨(.some 67), (.some (64, .true)), (.bin .neq (.tmp 66) (.const (wn 1))), [], .none⟩, ⟨(.some 68), (.some (62, .false)), (.pick (.tmp 64) (.tmp 67) (.const (.bool .false))), [], .none⟩, ⟨(.some 69), .none, (.pick (.tmp 62) (.const (.bool .true)) (.tmp 68)), [], .none⟩, ⟨(.some 42), .none, (.mov (.tmp 69)), [], .none⟩]) b).wp Go.Proofs.Tryd.prog (rtC (opB au sq ps kd W ofk check text B) l1 l3 (ac, sa, decide (kd = 1)) 15 82 c0) Q := by
  refine wp_seqM (fun c => rtC (opB au sq ps kd W ofk check text B) l1 l3 (ac, sa, decide (kd = 1)) 35 62 c) (fun c => c = decide (8 < pn ∨ ris = false ∨ ¬ (kd = 1 ↔ pn = 0) ∨ (kd = 1 ∧ sq ≠ 1))) k (wp_rg ?_)
  simp only [rtC, opB]
  by_cases b1 : 8 < pn
  · refine areg_run 5 (by simp [push_cast, hpl, o5, o6, b1]; exact rfl) ?_
    refine areg_run 5 (by simp [push_cast]; exact rfl) ?_
    refine areg_run 5 (by simp [push_cast]; exact rfl) ?_
    refine areg_run 5 (by simp [push_cast]; exact rfl) ?_
    refine areg_run 5 (by simp [push_cast]; exact rfl) ?_
    refine areg_end (by simp [push_cast]; exact rfl) ?_
    refine ⟨true, by simp [b1], Le.mk rfl (by simp [rtC, leT, keyA, opB]) (by simp [rtC, leH, keyA, opB])⟩
  refine areg_run 8 (by simp [push_cast, hpl, o5, o6, b1]; exact rfl) ?_
  refine areg_g (b := false) (by simp [AS.ev, AS.put]) (areg_ca (by simp [AS.ev, AS.coe, AS.put] <;> exact rfl) cr ?_)
  cases ris with
  | false =>
    refine areg_run 3 (by simp [push_cast]; exact rfl) ?_
    refine areg_run 5 (by simp [push_cast]; exact rfl) ?_
    refine areg_run 5 (by simp [push_cast]; exact rfl) ?_
    refine areg_end (by simp [push_cast]; exact rfl) ?_
    refine ⟨true, by simp, Le.mk rfl (by simp [rtC, leT, keyA, opB]) (by simp [rtC, leH, keyA, opB])⟩
  | true =>
  by_cases b2 : kd = 1
  · subst b2
    by_cases b3 : pn = 0
    · by_cases b4 : sq = 1
      · subst b4
        refine areg_run 10 (by simp [push_cast, hpl, o5, o6, b3]; exact rfl) ?_
        refine areg_end (by simp [push_cast, o5, o6]; exact rfl) ?_
        refine ⟨false, by simp [b1, b3], Le.mk rfl (by simp [rtC, leT, keyA, opB]) (by simp [rtC, leH, keyA, opB])⟩
      · refine areg_run 10 (by simp [push_cast, hpl, o5, o6, b3]; exact rfl) ?_
        refine areg_end (by simp [push_cast, o5, o6, b4]; exact rfl) ?_
        refine ⟨true, by simp [b4], Le.mk rfl (by simp [rtC, leT, keyA, opB]) (by simp [rtC, leH, keyA, opB])⟩
    · refine areg_run 10 (by simp [push_cast, hpl, o5, o6, b3]; exact rfl) ?_
      refine areg_run 4 (by simp [push_cast]; exact rfl) ?_
      refine areg_end (by simp [push_cast]; exact rfl) ?_
      refine ⟨true, by simp [b3], Le.mk rfl (by simp [rtC, leT, keyA, opB]) (by simp [rtC, leH, keyA, opB])⟩
  · by_cases b3 : pn = 0
    · refine areg_run 10 (by simp [push_cast, hpl, o5, o6, b3, b2]; exact rfl) ?_
      refine areg_run 4 (by simp [push_cast]; exact rfl) ?_
      refine areg_end (by simp [push_cast]; exact rfl) ?_
      refine ⟨true, by simp [b3, b2], Le.mk rfl (by simp [rtC, leT, keyA, opB, b2]) (by simp [rtC, leH, keyA, opB, b2])⟩
    · refine areg_run 10 (by simp [push_cast, hpl, o5, o6, b3, b2]; exact rfl) ?_
      refine areg_run 4 (by simp [push_cast, b2]; exact rfl) ?_
      refine areg_end (by simp [push_cast]; exact rfl) ?_
      refine ⟨false, by simp [b3, b2, b1], Le.mk rfl (by simp [rtC, leT, keyA, opB, b2]) (by simp [rtC, leH, keyA, opB, b2])⟩

set_option maxHeartbeats 16000000 in
theorem chain3 {Q : AX → AS → Prop} {b : AC} {bg : Bool} {c0 ofz chz : Bool} (htl : text.length = tl) (o5 : ofk.length = 32) (o6 : check.length = 32) (eof : EqAV Go.Proofs.Tryd.prog 23 (keyA ofk) (keyA zk) (!ofz)) (ech : EqAV Go.Proofs.Tryd.prog 23 (keyA check) (keyA zk) (!chz))
    (k : ∀ c, c = decide (¬ ((kd = 5 ∨ kd = 6) ↔ ofz = true) ∨ (kd = 7 ↔ chz = true) ∨ ¬ (kd = 7 ↔ 0 < tl) ∨ 256 < tl) → b.wp Go.Proofs.Tryd.prog (rtC (opB au sq ps kd W ofk check text B) l1 l3 (decide (kd = 5 ∨ kd = 6), decide (kd = 7), bg) 63 34 c) Q) : (AC.seq (.reg [⟨(.some 71), .none, (.mov (.tmp 4)), [], .none⟩, ⟨(.some 72), .none, (.faddr 5 5 (.tmp 1)), [], .none⟩, ⟨(.some 73), .none, (.load .true 32 (.tmp 72)), [], .none⟩, ⟨(.some 74), .none, (.load .true 32 (.tmp 3)), [], .none⟩, ⟨(.some 75), .none, (.eqv 23 .true (.tmp 73) (.tmp 74)), [], .none⟩, ⟨(.some 76), .none, (.beq .true (.tmp 71) (.tmp 75)), [], .none⟩, ⟨(.some 77), .none, (.mov (.tmp 76)), [], .none⟩, ⟨(.some 78), (.some (77, .false)), (.mov (.tmp 5)), [], .none⟩, ⟨(.some 79), (.some (77, .false)), (.faddr 37 6 (.tmp 1)), [], .none⟩, ⟨(.some 80), (.some (77, .false)), (.load .true 32 (.tmp 79)), [], .none⟩, ⟨(.some 81), (.some (77, .false)), (.load .true 32 (.tmp 3)), [], .none⟩, ⟨(.some 82), (.some (77, .false)), (.eqv 23 .true (.tmp 80) (.tmp 81)), [], .none⟩, ⟨(.some 83), (.some (77, .false)), (.beq .false (.tmp 78) (.tmp 82)), [], .none⟩, ⟨(.some 84), .none, (.pick (.tmp 77) (.const (.bool .true)) (.tmp 83)), [], .none⟩, ⟨(.some 85), .none, (.mov (.tmp 84)), [], .none⟩, ⟨(.some 86), (.some (85, .false)), (.mov (.tmp 5)), [], .none⟩, ⟨(.some 87), (.some (85, .false)), (.faddr 69 7 (.tmp 1)), [], .none⟩, ⟨(.some 88), (.some (85, .false)), (.load .false 1 (.tmp 87)), [], .none⟩, ⟨(.some 89), (.some (85, .false)), (.len .true (.tmp 88)), [], .none⟩, ⟨(.some 90), (.some (85, .false)), (.bin .gtr (.tmp 89) (.const (jn 0))), [], .none⟩, ⟨(.some 91), (.some (85, .false)), (.beq .true (.tmp 86) (.tmp 90)), [], .none⟩, ⟨(.some 92), .none, (.pick (.tmp 85) (.const (.bool .true)) (.tmp 91)), [], .none⟩, ⟨(.some 93), .none, (.mov (.tmp 92)), [], .none⟩, ⟨(.some 94), (.some (93, .false)), (.faddr 69 7 (.tmp 1)), [], .none⟩, ⟨(.some 95), (.some (93, .false)), (.load .false 1 (.tmp 94)), [], .none⟩, ⟨(.some 96), (.some (93, .false)), (.len .true (.tmp 95)), [], .none⟩, ⟨(.some 97), (.some (93, .false)), (.bin .gtr (.tmp 96) (.const (jn 256))), [], .none⟩, ⟨(.some 98), .none, (.pick (.tmp 93) (.const (.bool .true)) (.tmp 97)), [], .none⟩, ⟨(.some 70), .none, (.mov (.tmp 98)), [], .none⟩]) b).wp Go.Proofs.Tryd.prog (rtC (opB au sq ps kd W ofk check text B) l1 l3 (decide (kd = 5 ∨ kd = 6), decide (kd = 7), bg) 35 62 c0) Q := by
  refine wp_seqM (fun c => rtC (opB au sq ps kd W ofk check text B) l1 l3 (decide (kd = 5 ∨ kd = 6), decide (kd = 7), bg) 63 34 c) (fun c => c = decide (¬ ((kd = 5 ∨ kd = 6) ↔ ofz = true) ∨ (kd = 7 ↔ chz = true) ∨ ¬ (kd = 7 ↔ 0 < tl) ∨ 256 < tl)) k (wp_rg ?_)
  clear k
  simp only [rtC, opB]
  obtain ⟨ac, hac⟩ : ∃ ac, ac = decide (kd = 5 ∨ kd = 6) := ⟨_, rfl⟩
  obtain ⟨sa, hsa⟩ : ∃ sa, sa = decide (kd = 7) := ⟨_, rfl⟩
  have hc : ∀ c, c = (decide (ac ≠ ofz) || decide (sa = chz) || decide (sa ≠ decide (0 < tl)) || decide (256 < tl)) → c = decide (¬ ((kd = 5 ∨ kd = 6) ↔ ofz = true) ∨ (kd = 7 ↔ chz = true) ∨ ¬ (kd = 7 ↔ 0 < tl) ∨ 256 < tl) := by
    rintro c rfl
    have h1 : ((kd = 5 ∨ kd = 6) ↔ ofz = true) ↔ ac = ofz := by rw [hac]; cases ofz <;> simp
    have h2 : (kd = 7 ↔ chz = true) ↔ sa = chz := by rw [hsa]; cases chz <;> simp
    have h3 : (kd = 7 ↔ 0 < tl) ↔ sa = decide (0 < tl) := by
      rw [hsa]
      exact ⟨fun h => decide_eq_decide.2 h, fun h => decide_eq_decide.1 h⟩
    rw [Bool.eq_iff_iff]
    simp only [Bool.or_eq_true, decide_eq_true_iff, h1, h2, h3]
    constructor
    · rintro (((h | h) | h) | h)
      · exact .inl h
      · exact .inr (.inl h)
      · exact .inr (.inr (.inl h))
      · exact .inr (.inr (.inr h))
    · rintro (h | h | h | h)
      · exact .inl (.inl (.inl h))
      · exact .inl (.inl (.inr h))
      · exact .inl (.inr h)
      · exact .inr h
  rw [← hac, ← hsa]
  clear hac hsa
  have htl2 : ∀ (s : AS) (ro : Nat → Bool), lenA s ro true (.lit (tx text)) = some (.lit (jn tl)) := fun s ro => by rw [lenA_tx, htl]
  refine areg_run 4 (by simp [push_cast, o5, o6]; exact rfl) ?_
  refine areg_eq (by simp [AS.ev, AS.put] <;> exact rfl) (by simp [AS.ev, AS.put] <;> exact rfl) eof rfl rfl ?_
  cases ac <;> cases ofz
  case false.true | true.false =>
    refine areg_run 2 (by simp [push_cast]; exact rfl) ?_
    refine areg_run 5 (by simp [push_cast]; exact rfl) ?_
    refine areg_run 5 (by simp [push_cast]; exact rfl) ?_
    refine areg_run 5 (by simp [push_cast]; exact rfl) ?_
    refine areg_end (by simp [push_cast]; exact rfl) ?_
    refine ⟨true, hc _ (by simp), Le.mk rfl (by simp [leT, keyA]) (by simp [leH, keyA])⟩
  all_goals
    refine areg_run 6 (by simp [push_cast, o5, o6]; exact rfl) ?_
    refine areg_g (b := false) (by simp [AS.ev, AS.put]) (areg_eq (by simp [AS.ev, AS.put] <;> exact rfl) (by simp [AS.ev, AS.put] <;> exact rfl) ech rfl rfl ?_)
    cases sa <;> cases chz
    case false.false | true.true =>
      refine areg_run 3 (by simp [push_cast]; exact rfl) ?_
      refine areg_run 5 (by simp [push_cast]; exact rfl) ?_
      refine areg_run 5 (by simp [push_cast]; exact rfl) ?_
      refine areg_end (by simp [push_cast]; exact rfl) ?_
      refine ⟨true, hc _ (by simp), Le.mk rfl (by simp [leT, keyA]) (by simp [leH, keyA])⟩
    all_goals
      by_cases t0 : 0 < tl <;> by_cases t2 : 256 < tl
      all_goals
        refine areg_run 4 (by simp [push_cast, o5, o6]; exact rfl) ?_
        refine areg_run 3 (by simp [push_cast, htl, t0]; exact rfl) ?_
        refine areg_run 3 (by simp [push_cast, htl, t0]; exact rfl) ?_
        refine areg_end (by simp [push_cast, o5, o6, htl, t2]; exact rfl) ?_
        exact ⟨_, hc _ rfl, Le.mk rfl (by simp [leT, keyA, t0, t2]) (by simp [leH, keyA])⟩

end

set_option maxHeartbeats 16000000 in
theorem right_call {o : OpV} (ho : OpOk o) (hbl : ∀ b ∈ o.boxes, b.body.length < 9223372036854775808) : PCall Go.Proofs.Tryd.prog 26 [opA o] (.val (.lit (.bool (rightV o)))) := by
  have h520 := fc520_eq
  have cm := member_call o.author
  have cr : PCall Go.Proofs.Tryd.prog 42 [.st [1, 1] [.sl 32 (klA o.parents), fnL 41]] _ := PCall.args (m := [.st [1, 1] [.sl 32 (klA o.parents), .fnv (.func 41) [] []]]) ⟨RelLe.rowF _ _ _, trivial⟩ (risK_call (fn := .fnv (.func 41) [] []) (g := 41) (cmp := Go.Lib.compareBytes) (l := o.parents) tgt_key rfl (fun a ha b hb => byKey_call (ho.p32 a ha) (ho.p32 b hb)) ho.parents ho.p32)
  have cw := who_call ho
  have cb := boxes_call ho hbl
  have eof : EqAV Go.Proofs.Tryd.prog 23 (keyA o.ofk) (keyA zk) (!decide (o.ofk ≠ zk)) := by simpa using eq_key ho.ofk zk_len
  have ech : EqAV Go.Proofs.Tryd.prog 23 (keyA o.check) (keyA zk) (!decide (o.check ≠ zk)) := by simpa using eq_key ho.check zk_len
  have hpl := klA_len o.parents
  have o5 := ho.ofk
  have o6 := ho.check
  have hfin : ∀ (b : Bool) (s : AS), b = rightV o → s.ev (.tmp 2) = .lit (.bool b) → Fin [.tmp 2] s (.val (.lit (.bool (rightV o)))) := fun b s e h => by
    rw [← e]
    exact fin_tmp (by simp [RVal, h, AS.coe]) (by simp)
  have hA : opA o = opB o.author o.seq o.parents o.kind (o.who.map fun x => AV.lit (ji x)) o.ofk o.check o.text (o.boxes.map fun x => boxA x) := rfl
  have hrv : rightV o = (!c1V o && !c2V o && !c3V o && (whoV o && boxesV o)) := rfl
  have hc1 : ∀ c, c = decide (memB o.author = false ∨ o.seq = 0 ∨ o.kind < 1 ∨ 7 < o.kind) → c = c1V o := fun _ h => h
  have hc2 : ∀ c, c = decide (8 < o.parents.length ∨ risV Go.Lib.compareBytes o.parents = false ∨ ¬ (o.kind = 1 ↔ o.parents.length = 0) ∨ (o.kind = 1 ∧ o.seq ≠ 1)) → c = c2V o := fun _ h => h
  have hc3 : ∀ c, c = decide (¬ ((o.kind = 5 ∨ o.kind = 6) ↔ decide (o.ofk ≠ zk) = true) ∨ (o.kind = 7 ↔ decide (o.check ≠ zk) = true) ∨ ¬ (o.kind = 7 ↔ 0 < o.text.length) ∨ 256 < o.text.length) → c = c3V o := fun c h => by
    rw [h]; unfold c3V; simp only [decide_eq_true_iff]
  rw [hA] at cw cb ⊢
  generalize hW : whoV o = wv at *
  generalize hB : boxesV o = bv at *
  generalize c1V o = v1 at *
  generalize c2V o = v2 at *
  generalize c3V o = v3 at *
  generalize rightV o = rv at *
  generalize (o.who.map fun x => AV.lit (ji x)) = W at *
  generalize (o.boxes.map fun x => boxA x) = B at *
  refine PCall.of h520 rfl ?_; show AC.wp _ fb520 (AS.init [opB o.author o.seq o.parents o.kind W o.ofk o.check o.text B] 1 105) (fun x s => match x with | .exit _ => False | _ => Fin [(.tmp 2)] s _); unfold fb520 AS.init
  refine wp_sg (areg_bx rfl (by simp [AS.ev, AV.sz, opB, keyA, o5, o6]) fun l1 => areg_end (by simp [push_cast]; exact rfl) ?_)
  refine wp_sg (areg_bz ?_)
  refine areg_al' zk_eq.symm fun l3 => areg_end (by simp [push_cast, opB]; exact rfl) ?_
  refine wp_seqM (fun y : Bool × Bool × Bool => rtS (opB o.author o.seq o.parents o.kind W o.ofk o.check o.text B) l1 l3 y) (fun y => y = (decide (o.kind = 5 ∨ o.kind = 6), decide (o.kind = 7), decide (o.kind = 1))) ?_ ?_
  rotate_left
  · by_cases k5 : o.kind = 5
    · refine wp_rg ?_
      refine areg_run 4 (by simp [push_cast, k5]; exact rfl) ?_
      refine areg_run 4 (by simp [push_cast]; exact rfl) ?_
      refine areg_end (by simp [push_cast]; exact rfl) ?_
      exact ⟨_, rfl, Le.mk rfl (by simp [rtS, leT, k5, keyA, opB]) (by simp [rtS, leH, k5, keyA, opB])⟩
    · refine wp_rg ?_
      refine areg_run 4 (by simp [push_cast, k5]; exact rfl) ?_
      refine areg_run 4 (by simp [push_cast]; exact rfl) ?_
      refine areg_end (by simp [push_cast]; exact rfl) ?_
      exact ⟨_, rfl, Le.mk rfl (by simp [rtS, leT, k5, keyA, opB]) (by simp [rtS, leH, k5, keyA, opB])⟩
  rintro y rfl
  refine wp_seq' (wp_block' ?_)
  refine chain1 o5 o6 cm fun c e1 => ?_
  have e1' := hc1 c e1
  subst e1'
  cases c with
  | true =>
    refine wp_cond_t rfl ?_
    unfold rtC
    refine wp_sr (by simp [push_cast]; exact rfl) (wp_ret' ?_)
    exact hfin false _ (by rw [hrv]; rfl) rfl
  | false =>
  refine wp_cond_f rfl ?_
  refine chain2 hpl o5 o6 cr fun c e2 => ?_
  have e2' := hc2 c e2
  subst e2'
  cases c with
  | true =>
    refine wp_cond_t rfl ?_
    unfold rtC
    refine wp_sr (by simp [push_cast]; exact rfl) (wp_ret' ?_)
    exact hfin false _ (by rw [hrv]; rfl) rfl
  | false =>
  refine wp_cond_f rfl ?_
  refine chain3 rfl o5 o6 eof ech fun c e3 => ?_
  have e3' := hc3 c e3
  subst e3'
  cases c with
  | true =>
    refine wp_cond_t rfl ?_
    unfold rtC
    refine wp_sr (by simp [push_cast]; exact rfl) (wp_ret' ?_)
    exact hfin false _ (by rw [hrv]; rfl) rfl
  | false =>
  refine wp_cond_f rfl (wp_skip' ?_)
  unfold rtC opB
  unfold opB keyA at cw cb
  refine wp_sg ?_
  refine areg_run 1 (by simp [push_cast, o5, o6]; exact rfl) ?_
  refine areg_ca (by simp [AS.ev, AS.coe, AS.put] <;> exact rfl) cw ?_
  cases wv with
  | false =>
    refine areg_run 1 (by simp [push_cast]; exact rfl) ?_
    refine areg_run 2 (by simp [push_cast]; exact rfl) ?_
    refine areg_end (by simp [push_cast]; exact rfl) (wp_ret' ?_)
    exact hfin false _ (by rw [hrv]; rfl) rfl
  | true =>
    refine areg_run 2 (by simp [push_cast, o5, o6]; exact rfl) ?_
    refine areg_g (b := true) (by simp [AS.ev, AS.put]) (areg_ca (by simp [AS.ev, AS.coe, AS.put] <;> exact rfl) cb ?_)
    refine areg_end (by simp [push_cast]; exact rfl) (wp_ret' ?_)
    exact hfin bv _ (by rw [hrv]; simp) rfl
end Go.Cab

/- Bundle: Answer. -/
-- TEXTS
-- KIT
namespace Go.Cab
open Classical

/-- What answering comes to. -/
structure Answered where
  s : Store
  secret : List UInt8
def pairsA (s : Store) (h : Hello) : List KK := [(s.pre, h.id), (s.id, h.eph), (s.pre, h.eph)]
/-- The pairs, what is left, the table; none: nothing is so named. -/
def answerP (ts : List Term) (s : Store) (h : Hello) : Option (List KK × List (List UInt8)) × List Term :=
  if h.one = zk then (some (pairsA s h, s.ones), ts) else match idxF h.one ts s.ones 0 with
    | (none, ts1) => (none, ts1)
    | (some i, ts1) => (some (pairsA s h ++ [(s.ones.getD i zk, h.eph)], s.ones.take i ++ s.ones.drop (i + 1)), ts1)
def answerT (ts : List Term) (s : Store) (h : Hello) : Sum Nat Answered × List Term :=
  match answerP ts s h with
  | (none, ts1) => (.inl 22, ts1)
  | (some x, ts1) => match agreedT ts1 x.1 with
    | (none, ts2) => (.inl 12, ts2)
    | (some k, ts2) => (.inr ⟨⟨s.id, s.pre, x.2⟩, k⟩, ts2)
def answeredA : Sum Nat Answered → AV
  | .inl e => .tup [zst, keyA zk, .lit (jn e)]
  | .inr x => .tup [storeA x.s, keyA x.secret, .lit (jn 0)]

def ansS (N : Nat) (H : List (Option Blk)) (t : Tb) (s : Store) (h : Hello) (l3 l4 l5 l6 l7 : Nat × Nat) (V : Value) (ts : List Term) (Vp : Value) (ps : List KK) (ones : List (List UInt8)) : AS :=
  ⟨N, [freeI t.b t.l, storeA s, helloA h, .ptr (N + 3) l3 0 [], .ptr (N + 4) l4 0 [], .ptr (N + 5) l5 0 [], .ptr (N + 6) l6 0 [], .ptr (N + 7) l7 0 [], .lit (jn 0), .own (N + 29) Vp, .sl 32 (klA ones)] ++ List.replicate 65 .any,
    tbOf H t V ts ++ ([none, none, none, some (.box l3 1 (freeI t.b t.l)), some (.box l4 65 (storeA s)), some (.box l5 96 (helloA h)), some (.box l6 65 zst), some (.box l7 32 (keyA zk))] ++ List.replicate 21 none ++ [some (.row 0 Vp 64 (ps.map pairA) 0)] ++ List.replicate 46 none)⟩

theorem idxF_ok {one : List UInt8} : ∀ {ks : List (List UInt8)} {ts : List Term} {i : Nat}, TsOk ts → (∀ k ∈ ks, k.length = 32) → ts.length + ks.length + 10 < 90000 →
    TsOk (idxF one ts ks i).2 ∧ ts.length ≤ (idxF one ts ks i).2.length ∧ (idxF one ts ks i).2.length ≤ ts.length + ks.length ∧ ∀ n, (idxF one ts ks i).1 = some n → i ≤ n ∧ n < i + ks.length
  | [], ts, i, h, _, hl => ⟨h, by simp [idxF], by simp [idxF], fun n hn => by simp [idxF] at hn⟩
  | k :: ks, ts, i, h, h32, hl => by
    have hk := h32 k (by simp)
    simp only [List.length_cons] at hl ⊢
    have hlen := putT_len ts (pubT k)
    have hp := h.putPub hk (by omega)
    rw [idxF]
    split
    · exact ⟨hp, by simp only; omega, by simp only; omega, fun n hn => by cases hn; omega⟩
    · obtain ⟨r1, r2, r3, r4⟩ := idxF_ok (one := one) (ks := ks) (i := i + 1) hp (fun x hx => h32 x (by simp [hx])) (by omega)
      exact ⟨r1, by omega, by omega, fun n hn => by have := r4 n hn; omega⟩
end Go.Cab

/- Laws by the free kit: the table's blocks are put ahead of all others; calls of the kit, in one form. -/
-- TEXTS
-- KIT
namespace Go.Cab
open Classical

theorem Le.genR {s s' : AS} (hl : s'.tm.length = s.tm.length) (ht : ∀ (t : Nat) (v' : AV), s'.tm[t]? = some v' → v' = .any ∨ ∃ v, s.tm[t]? = some v ∧ RelLe v v') (m : Nat → Nat)
    (hinj : ∀ k k' x y, (s'.hp[k]?).join = some x → (s'.hp[k']?).join = some y → m k = m k' → k = k')
    (hh : ∀ k x', (s'.hp[k]?).join = some x' → ∃ x, (s.hp[m k]?).join = some x ∧ BlkLe x x') : Le s s' := fun w0 wk regs St a w h => by
  obtain ⟨Imm, h1, h2, h3⟩ := h.ex
  refine ⟨h.defers, by rw [hl]; exact h.tsize, h.tab, h.frame, Imm, h1, fun t v hv => ?_, HpLe.gen m hinj hh w0 regs Imm w h3⟩
  rcases ht t v hv with rfl | ⟨u, hu, hle⟩
  · exact .inl rfl
  · exact hle _ _ _ (h2 t u hu)

/-- Temporaries, and blocks, under other names. -/
def leA : List AV → List AV → Prop
  | [], [] => True
  | v :: vs, u :: us => (u = .any ∨ RelLe v u) ∧ leA vs us
  | _, _ => False
def leB : List (Option Blk) → List (Option Blk) → Prop
  | [], [] => True
  | v :: vs, u :: us => (match u with | none => True | some y => match v with | some x => BlkLe x y | none => False) ∧ leB vs us
  | _, _ => False
theorem leA_get : ∀ {x y : List AV}, leA x y → y.length = x.length ∧ ∀ (t : Nat) (u : AV), y[t]? = some u → u = .any ∨ ∃ v, x[t]? = some v ∧ RelLe v u
  | [], [], _ => ⟨rfl, by simp⟩
  | v :: vs, u :: us, h => by
    obtain ⟨h1, h2⟩ := leA_get h.2
    refine ⟨by simp [h1], fun t w hw => ?_⟩
    cases t with
    | zero => simp only [List.getElem?_cons_zero, Option.some.injEq] at hw ⊢; subst hw; exact h.1.imp id fun e => ⟨v, rfl, e⟩
    | succ t => simpa using h2 t w (by simpa using hw)
  | [], _ :: _, h => h.elim
  | _ :: _, [], h => h.elim
theorem leB_get : ∀ {x y : List (Option Blk)}, leB x y → y.length = x.length ∧ ∀ (t : Nat) (u : Blk), (y[t]?).join = some u → ∃ v, (x[t]?).join = some v ∧ BlkLe v u
  | [], [], _ => ⟨rfl, by simp⟩
  | v :: vs, u :: us, h => by
    obtain ⟨h1, h2⟩ := leB_get h.2
    refine ⟨by simp [h1], fun t w hw => ?_⟩
    cases t with
    | zero =>
      simp only [List.getElem?_cons_zero, Option.join_some] at hw ⊢
      subst hw
      have := h.1
      cases v with
      | none => exact this.elim
      | some x => exact ⟨x, rfl, this⟩
    | succ t => simpa using h2 t w (by simpa using hw)
  | [], _ :: _, h => h.elim
  | _ :: _, [], h => h.elim
theorem BlkLe.cell {l : Nat × Nat} {n : Nat} {v v' : AV} (h : AVle v v') : BlkLe (.box l n v) (.box l n v') ↔ True := ⟨fun _ => trivial, fun _ => BlkLe.box h⟩
theorem BlkLe.refl' (x : Blk) : BlkLe x x ↔ True := ⟨fun _ => trivial, fun _ => BlkLe.refl x⟩
theorem RelLe.refl' (x : AV) : RelLe x x ↔ True := ⟨fun _ => trivial, fun _ => RelLe.refl x⟩
theorem RelLe.ptr' (b b' : Nat) (l : Nat × Nat) (off : Nat) (p : List Nat) : RelLe (.ptr b l off p) (.ptr b' l off p) ↔ True := ⟨fun _ => trivial, fun _ => RelLe.ptr _ _ _ _ _⟩
theorem AVle.freeS (b b' : Nat) (l : Nat × Nat) : AVle (freeS b l) (freeS b' l) := AVle.st1 (AVle.ptr _ _ _ _ _) AVle.st0
theorem BlkLe.freeS' (l0 : Nat × Nat) (b b' : Nat) (l : Nat × Nat) : BlkLe (.box l0 1 (freeS b l)) (.box l0 1 (freeS b' l)) ↔ True := ⟨fun _ => trivial, fun _ => BlkLe.box (AVle.freeS _ _ _)⟩

/-- The new table's blocks are put ahead of the call's own. -/
theorem Le.front {N : Nat} {tm tm' : List AV} {Lo Lo' : List (Option Blk)} {l : Nat × Nat} {r : Nat} (hN : Lo.length = N) (ht : leA tm tm') (hb : leB Lo Lo') : Le ⟨0, tm, Lo ++ newL N l r⟩ ⟨3, tm', newL 0 l r ++ Lo'⟩ := by
  obtain ⟨a1, a2⟩ := leA_get ht
  obtain ⟨b1, b2⟩ := leB_get hb
  have hlt : ∀ (k : Nat) (x : Blk), ((newL 0 l r ++ Lo')[k]?).join = some x → k < N + 3 := fun k x hx => by
    by_cases h : k < N + 3
    · exact h
    · rw [List.getElem?_eq_none (by simp [newL]; omega)] at hx; cases hx
  refine Le.genR a1 a2 (fun k => if k < 3 then N + k else k - 3) (fun k k' x y hx hy e => ?_) (fun k x hx => ?_)
  · have h1 := hlt k x hx
    have h2 := hlt k' y hy
    try simp only at e
    split at e <;> split at e <;> omega
  · have h1 := hlt k x hx
    simp only at hx ⊢
    by_cases h : k < 3
    · rw [if_pos h, cat1 N Lo _ k hN]
      rw [List.getElem?_append_left (by simp [newL]; omega)] at hx
      match k, hx with
      | 0, hx =>
        simp only [newL, List.getElem?_cons_zero, Option.join_some, Option.some.injEq] at hx
        subst hx
        exact ⟨_, rfl, BlkLe.box (AVle.st1 (AVle.own _ _ _) (AVle.st1 (AVle.own _ _ _) AVle.st0))⟩
      | 1, hx =>
        simp only [newL, List.getElem?_cons_succ, List.getElem?_cons_zero, Option.join_some, Option.some.injEq] at hx
        subst hx
        exact ⟨_, rfl, BlkLe.refl _⟩
      | 2, hx =>
        simp only [newL, List.getElem?_cons_succ, List.getElem?_cons_zero, Option.join_some, Option.some.injEq] at hx
        subst hx
        exact ⟨_, rfl, BlkLe.refl _⟩
      | k + 3, _ => omega
    · rw [if_neg h]
      obtain ⟨i, rfl⟩ : ∃ i, k = 3 + i := ⟨k - 3, by omega⟩
      rw [cat1 3 (newL 0 l r) _ i rfl] at hx
      obtain ⟨v, hv, hle⟩ := b2 i x hx
      have hi : i < Lo.length := by
        by_cases h : i < Lo.length
        · exact h
        · rw [List.getElem?_eq_none (by omega)] at hv; cases hv
      exact ⟨v, by rw [show 3 + i - 3 = i by omega, List.getElem?_append_left hi]; exact hv, hle⟩

/-- A call of the kit, upon a caller's blocks with the table among them. -/
def KC (P : Program) (f : FuncId) (vs : List AV) (H : List (Option Blk)) (t : Tb) (ts : List Term) (r : AV) (ts' : List Term) : Prop :=
  ∀ V L, XCall P f vs (tbOf H t V ts ++ L) fun r' H' => r' = r ∧ ∃ V', H' = tbOf H t V' ts' ++ L
theorem KC.of {P : Program} {f : FuncId} {vs : List AV} {H : List (Option Blk)} {t : Tb} {V0 : Value} {ts0 ts ts' : List Term} {r : AV} (hh : TbOk H t V0 ts0)
    (h : ∀ H V, TbOk H t V ts → XCall P f vs H fun r' H' => r' = r ∧ ∃ V', H' = tbOf H t V' ts') : KC P f vs H t ts r ts' := fun V L => by
  refine XCall.mono (h _ V (hh.at V ts L)) ?_
  rintro r' H' ⟨h1, V', h2⟩
  exact ⟨h1, V', by rw [h2, hh.at_of]⟩
theorem KC.xf {P : Program} {f : FuncId} {vs : List AV} {H : List (Option Blk)} {t : Tb} {ts ts' : List Term} {r : AV} (h : KC P f vs H t ts r ts') (V : Value) (L : List (Option Blk)) (E : List (Tmp × Blk)) :
    XCall P f vs (setE H.length (tbOf H t V ts ++ L) E) fun r' H' => ∃ hp', (r' = r ∧ ∃ V', hp' = tbOf H t V' ts' ++ L) ∧ H' = setE H.length hp' E := by
  refine XCall.mono (xf_of (tbOf_len H t V ts) (KG := fun r' G => r' = r ∧ ∃ V', G = tbOf H t V' ts') (fun L => XCall.mono (h V L) ?_) (fun r' G' hG => ?_) E) ?_
  · rintro r' H' ⟨h1, V', h2⟩
    exact ⟨_, ⟨h1, V', rfl⟩, h2⟩
  · obtain ⟨_, V', rfl⟩ := hG
    exact tbOf_len _ _ _ _
  · rintro r' H' ⟨hp', ⟨G', ⟨h1, V', rfl⟩, rfl⟩, h3⟩
    exact ⟨_, ⟨h1, V', rfl⟩, h3⟩

theorem areg_k {P : Program} {N : Nat} {tm : List AV} {L H : List (Option Blk)} {t : Tb} {V : Value} {ts ts' : List Term} {r : AV} {K : AS → Prop} {xs : List AOp} {d : Option Tmp} {g : XT} {ys : List Operand} {keep fresh : List Tmp} {fo : List Tmp} {ow : Option Tmp} {vs : List AV} {f : FuncId}
    (us : List AV) (hN : H.length = N) (ha : (ys.map fun x => AS.ev ⟨N, tm, tbOf H t V ts ++ L⟩ x) = us) (ht : tgtA P g us = some (f, vs)) (hc : KC P f vs H t ts r ts') (hlt : ∀ t' ∈ fresh, t' < L.length)
    (hk : ∀ t' ∈ keep, ∀ b, (AS.ev ⟨N, tm, tbOf H t V ts ++ L⟩ (.tmp t')).place = some b → N ≤ b)
    (h : ∀ V', AReg P xs { AS.put ⟨N, tm, tbOf H t V ts ++ L⟩ d r with hp := tbOf H t V' ts' ++ L } K) : AReg P (⟨d, none, .xc g ys keep fresh, fo, ow⟩ :: xs) ⟨N, tm, tbOf H t V ts ++ L⟩ K := by
  subst hN
  refine areg_xf (us := us) (K' := fun r' H' => r' = r ∧ ∃ V', H' = tbOf H t V' ts' ++ L) ha ht (fun E _ => hc.xf V L E) ⟨_, _, rfl, .slice none 0 0, rfl⟩ (fun t' ht' => by simp [tbOf_len]; exact hlt t' ht') (fun r' hp' hK => ?_) ?_
  · obtain ⟨_, V', rfl⟩ := hK
    refine ⟨fun t' ht' b hb => ?_, by simp [tbOf_len]⟩
    have hge := hk t' ht' b hb
    simp only
    rw [List.getElem?_append_right (by rw [tbOf_len]; exact hge), List.getElem?_append_right (by rw [tbOf_len]; exact hge), tbOf_len, tbOf_len]
  · rintro r' hp' ⟨rfl, V', rfl⟩
    exact h V'

/-- A new kit's table, put ahead of all. -/
theorem wp_kit {P : Program} {b : AC} {Q : AX → AS → Prop} {n : Nat} {tm : List AV} {Lo : List (Option Blk)} {l : Nat × Nat} {r : Nat} (tm' : Nat → Tb → List AV) (Lo' : Nat → Tb → List (Option Blk)) (hN : Lo.length = n) (ht : leA tm (tm' 3 (tbNew 0 l r))) (hb : leB Lo (Lo' 3 (tbNew 0 l r)))
    (k : ∀ N H t V, TbOk H t V [] → H.length = N → b.wp P ⟨N, tm' N t, tbOf H t V [] ++ Lo' N t⟩ Q) : ∃ s0, Le ⟨0, tm, Lo ++ newL n l r⟩ s0 ∧ b.wp P s0 Q := by
  have hok : TbOk (newL 0 l r) (tbNew 0 l r) (.slice none 0 0) [] := new_ok [] l r
  refine ⟨_, Le.front hN ht hb, ?_⟩
  have := k 3 (newL 0 l r) (tbNew 0 l r) (.slice none 0 0) hok rfl
  rw [hok.self] at this
  exact this
theorem TsOk.nil : TsOk [] := ⟨by simp, by simp, by simp, by simp⟩

section
variable {H : List (Option Blk)} {t : Tb} {V0 : Value} {ts0 ts : List Term}
theorem draw_k (hh : TbOk H t V0 ts0) (hn : ts.length < 100000) {s : List UInt8} (hs : s.length < 100000) : KC Go.Proofs.Tryd.prog 11 [.ptr t.b t.l 0 [], .lit (tx s)] H t ts (keyA (nameK (putN ts (drawT s)))) (putT ts (drawT s)) :=
  KC.of hh fun H V h => draw_call h hn s hs
end
end Go.Cab

/- Frame and kit: a new list upon the caller's blocks; numbers' texts; label, By; Two. -/
-- TEXTS
-- KIT
namespace Go.Cab
open Go.RowKit
open Classical
def fb543 : AC := (.seq (.reg [⟨(.some 2), .none, (.mov (.const (tx []))), [], .none⟩]) (.seq (.seq (.reg [⟨(.some 3), .none, (.mov (.tmp 0)), [], .none⟩, ⟨(.some 4), .none, (.bin .lss (.tmp 3) (.const (jn 10))), [], .none⟩]) (.cond (.tmp 4) (.seq (.reg [⟨(.some 5), .none, (.mov (.tmp 0)), [], .none⟩, ⟨(.some 6), .none, (.mov (.tmp 0)), [], .none⟩, ⟨(.some 7), .none, (.bin .add (.tmp 6) (.const (jn 1))), [], .none⟩, ⟨(.some 8), .none, (.prim (.ssub .true .true) [(.const (tx [48, 49, 50, 51, 52, 53, 54, 55, 56, 57, 97, 98, 99, 100, 101, 102, 103, 104, 105, 106, 107, 108, 109, 110, 111, 112, 113, 114, 115, 116, 117, 118, 119, 120, 121, 122])), (.tmp 5), (.tmp 7)]), [], .none⟩, ⟨(.some 2), .none, (.mov (.tmp 8)), [], .none⟩]) .ret) .skip)) (.seq (.reg [⟨(.some 9), .none, (.mov (.tmp 0)), [], .none⟩, ⟨(.some 10), .none, (.bin .mul (.tmp 9) (.const (jn 2))), [], .none⟩, ⟨(.some 11), .none, (.mov (.tmp 0)), [], .none⟩, ⟨(.some 12), .none, (.bin .mul (.tmp 11) (.const (jn 2))), [], .none⟩, ⟨(.some 13), .none, (.bin .add (.tmp 12) (.const (jn 2))), [], .none⟩, ⟨(.some 14), .none, (.prim (.ssub .true .true) [(.const (tx [48, 48, 48, 49, 48, 50, 48, 51, 48, 52, 48, 53, 48, 54, 48, 55, 48, 56, 48, 57, 49, 48, 49, 49, 49, 50, 49, 51, 49, 52, 49, 53, 49, 54, 49, 55, 49, 56, 49, 57, 50, 48, 50, 49, 50, 50, 50, 51, 50, 52, 50, 53, 50, 54, 50, 55, 50, 56, 50, 57, 51, 48, 51, 49, 51, 50, 51, 51, 51, 52, 51, 53, 51, 54, 51, 55, 51, 56, 51, 57, 52, 48, 52, 49, 52, 50, 52, 51, 52, 52, 52, 53, 52, 54, 52, 55, 52, 56, 52, 57, 53, 48, 53, 49, 53, 50, 53, 51, 53, 52, 53, 53, 53, 54, 53, 55, 53, 56, 53, 57, 54, 48, 54, 49, 54, 50, 54, 51, 54, 52, 54, 53, 54, 54, 54, 55, 54, 56, 54, 57, 55, 48, 55, 49, 55, 50, 55, 51, 55, 52, 55, 53, 55, 54, 55, 55, 55, 56, 55, 57, 56, 48, 56, 49, 56, 50, 56, 51, 56, 52, 56, 53, 56, 54, 56, 55, 56, 56, 56, 57, 57, 48, 57, 49, 57, 50, 57, 51, 57, 52, 57, 53, 57, 54, 57, 55, 57, 56, 57, 57])), (.tmp 10), (.tmp 13)]), [], .none⟩, ⟨(.some 2), .none, (.mov (.tmp 14)), [], .none⟩]) .ret)))
def fc543 : FC := ⟨1, 15, [(.tmp 2)], fb543⟩
theorem fc543_eq : compF Go.Proofs.Tryd.prog 82 = some fc543 := by kernel_rfl
def fb542 : AC := (.seq (.reg [⟨(.some 4), .none, (.mov (.const (tx []))), [], .none⟩]) (.seq (.seq (.reg [⟨(.some 10), .none, (.mov (.tmp 1)), [], .none⟩, ⟨(.some 11), .none, (.bin .eql (.tmp 10) (.const (jn 10))), [], .none⟩]) (.cond (.tmp 11) (.seq (.seq (.reg [⟨(.some 12), .none, (.mov (.tmp 0)), [], .none⟩, ⟨(.some 13), .none, (.bin .leq (.const (jn 0)) (.tmp 12)), [], .none⟩, ⟨(.some 14), .none, (.mov (.tmp 13)), [], .none⟩, ⟨(.some 15), (.some (14, .true)), (.mov (.tmp 0)), [], .none⟩, ⟨(.some 16), (.some (14, .true)), (.bin .lss (.tmp 15) (.const (jn 100))), [], .none⟩, ⟨(.some 17), .none, (.pick (.tmp 14) (.tmp 16) (.const (.bool .false))), [], .none⟩]) (.cond (.tmp 17) (.seq (.reg [⟨(.some 18), .none, (.mov (.tmp 0)), [], .none⟩, ⟨(.some 19), .none, (.call 82 [(.tmp 18)]), [], .none⟩, ⟨(.some 4), .none, (.mov (.tmp 19)), [], .none⟩]) .ret) .skip)) (.seq (.reg [⟨(.some 5), .none, (.alloc 24 (.arr 1 (List.replicate 24 (.lit (bn 0))))), [], .none⟩]) (.seq (.reg [⟨(.some 20), .none, (.mov (.tmp 0)), [], .none⟩, ⟨(.some 21), .none, (.cvt .u64 (.tmp 20)), [], .none⟩, ⟨(.some 6), .none, (.mov (.tmp 21)), [], .none⟩]) (.seq (.seq (.reg [⟨(.some 22), .none, (.mov (.tmp 0)), [], .none⟩, ⟨(.some 23), .none, (.bin .lss (.tmp 22) (.const (jn 0))), [], .none⟩]) (.cond (.tmp 23) (.reg [⟨(.some 24), .none, (.mov (.tmp 6)), [], .none⟩, ⟨(.some 25), .none, (.un .neg (.tmp 24)), [], .none⟩, ⟨(.some 6), .none, (.mov (.tmp 25)), [], .none⟩]) .skip)) (.seq (.reg [⟨(.some 26), .none, (.mov (.tmp 6)), [], .none⟩, ⟨(.some 27), .none, (.call 83 [(.tmp 26)]), [], .none⟩, ⟨(.some 7), .none, (.mov (.tmp 27)), [], .none⟩]) (.seq (.reg [⟨(.some 28), .none, (.mov (.tmp 7)), [], .none⟩, ⟨(.some 29), .none, (.bin .add (.const (jn 1)) (.tmp 28)), [], .none⟩, ⟨(.some 30), .none, (.rdp (.vslice 1 24 .true .true) [(.tmp 5), (.const (jn 1)), (.tmp 29)]), [], .none⟩, ⟨(.some 31), .none, (.mov (.tmp 6)), [], .none⟩, ⟨(.some 32), .none, (.xc (.dir 84) [(.tmp 30), (.tmp 31)] [] []), [], .none⟩]) (.seq (.seq (.reg [⟨(.some 33), .none, (.mov (.tmp 0)), [], .none⟩, ⟨(.some 34), .none, (.bin .lss (.tmp 33) (.const (jn 0))), [], .none⟩]) (.cond (.tmp 34) (.seq (.reg [⟨(.some 35), .none, (.iaddrA 24 1 (.tmp 5) (.const (jn 0))), [], .none⟩, ⟨.none, .none, (.store 1 (.tmp 35) (.const (bn 45))), [], .none⟩]) (.seq (.reg [⟨(.some 36), .none, (.mov (.tmp 7)), [], .none⟩, ⟨(.some 37), .none, (.bin .add (.const (jn 1)) (.tmp 36)), [], .none⟩, ⟨(.some 38), .none, (.rdp (.vslice 1 24 .false .true) [(.tmp 5), (.tmp 37)]), [], .none⟩, ⟨(.some 39), .none, (.rd .b2sv [(.tmp 38)]), [], .none⟩, ⟨(.some 4), .none, (.mov (.tmp 39)), [], .none⟩]) .ret)) .skip)) (.seq (.reg [⟨(.some 40), .none, (.mov (.tmp 7)), [], .none⟩, ⟨(.some 41), .none, (.bin .add (.const (jn 1)) (.tmp 40)), [], .none⟩, ⟨(.some 42), .none, (.rdp (.vslice 1 24 .true .true) [(.tmp 5), (.const (jn 1)), (.tmp 41)]), [], .none⟩, ⟨(.some 43), .none, (.rd .b2sv [(.tmp 42)]), [], .none⟩, ⟨(.some 4), .none, (.mov (.tmp 43)), [], .none⟩]) .ret)))))))) .skip)) (.seq (.reg [⟨(.some 45), .none, (.mov (.tmp 0)), [], .none⟩, ⟨(.some 46), .none, (.cvt .u64 (.tmp 45)), [], .none⟩, ⟨(.some 47), .none, (.mov (.tmp 1)), [], .none⟩, ⟨(.some 48), .none, (.mov (.tmp 0)), [], .none⟩, ⟨(.some 49), .none, (.bin .lss (.tmp 48) (.const (jn 0))), [], .none⟩, ⟨(.some 50), .none, (.call 85 [(.const (.slice .none 0 0)), (.tmp 46), (.tmp 47), (.tmp 49), (.const (.bool .false))]), [], .none⟩, ⟨(.some 44), .none, (.mov (.tmp 50)), [], .none⟩, ⟨(.some 51), .none, (.ext (.tmp 44) 0), [], .none⟩, ⟨(.some 52), .none, (.ext (.tmp 44) 1), [], .none⟩, ⟨(.some 8), .none, (.mov (.tmp 51)), [], .none⟩, ⟨(.some 9), .none, (.mov (.tmp 52)), [], .none⟩]) (.seq (.reg [⟨(.some 53), .none, (.mov (.tmp 9)), [], .none⟩, ⟨(.some 4), .none, (.mov (.tmp 53)), [], .none⟩]) .ret))))
def fc542 : FC := ⟨2, 54, [(.tmp 4)], fb542⟩
theorem fc542_eq : compF Go.Proofs.Tryd.prog 81 = some fc542 := by kernel_rfl
def fb538 : AC := (.seq (.reg [⟨(.some 2), .none, (.mov (.const (tx []))), [], .none⟩]) (.seq (.reg [⟨(.some 3), .none, (.mov (.tmp 0)), [], .none⟩, ⟨(.some 4), .none, (.call 81 [(.tmp 3), (.const (jn 10))]), [], .none⟩, ⟨(.some 2), .none, (.mov (.tmp 4)), [], .none⟩]) .ret))
def fc538 : FC := ⟨1, 5, [(.tmp 2)], fb538⟩
theorem fc538_eq : compF Go.Proofs.Tryd.prog 80 = some fc538 := by kernel_rfl
def fb528 : AC := (.seq (.reg [⟨(.some 2), .none, (.mov (.const (tx []))), [], .none⟩]) (.seq (.reg [⟨(.some 3), .none, (.mov (.tmp 0)), [], .none⟩, ⟨(.some 4), .none, (.call 80 [(.tmp 3)]), [], .none⟩, ⟨(.some 2), .none, (.mov (.tmp 4)), [], .none⟩]) .ret))
def fc528 : FC := ⟨1, 5, [(.tmp 2)], fb528⟩
theorem fc528_eq : compF Go.Proofs.Tryd.prog 77 = some fc528 := by kernel_rfl
def fb515 : AC := (.seq (.reg [⟨(.some 6), .none, (.alloc 32 (.arr 1 (List.replicate 32 (.lit (bn 0))))), [], .none⟩, ⟨(.some 7), .none, (.alloc 32 (.arr 1 (List.replicate 32 (.lit (bn 0))))), [], .none⟩]) (.seq (.reg [⟨(.some 8), .none, (.mov (.tmp 0)), [], .none⟩, ⟨(.some 9), .none, (.mov (.tmp 1)), [], .none⟩, ⟨(.some 10), .none, (.bin .add (.tmp 9) (.const (tx [47, 49]))), [], .none⟩, ⟨(.some 11), .none, (.mov (.tmp 2)), [], .none⟩, ⟨(.some 12), .none, (.xc (.inv "Hash") [(.tmp 8), (.tmp 10), (.tmp 11)] [] []), [], .none⟩, ⟨(.some 13), .none, (.mov (.tmp 0)), [], .none⟩, ⟨(.some 14), .none, (.mov (.tmp 1)), [], .none⟩, ⟨(.some 15), .none, (.bin .add (.tmp 14) (.const (tx [47, 50]))), [], .none⟩, ⟨(.some 16), .none, (.mov (.tmp 2)), [], .none⟩, ⟨(.some 17), .none, (.xc (.inv "Hash") [(.tmp 13), (.tmp 15), (.tmp 16)] [] []), [], .none⟩, ⟨.none, .none, (.store 32 (.tmp 6) (.tmp 12)), [], .none⟩, ⟨.none, .none, (.store 32 (.tmp 7) (.tmp 17)), [], .none⟩]) .ret))
def fc515 : FC := ⟨3, 18, [(.cell 6 .true 32), (.cell 7 .true 32)], fb515⟩
theorem fc515_eq : compF Go.Proofs.Tryd.prog 78 = some fc515 := by kernel_rfl

/-- A new list is laid behind the caller's blocks. -/
theorem PCall.xrow {P : Program} {f : FuncId} {args : List AV} {e esz : Nat} {els : List AV} (H : List (Option Blk)) (h : PCall P f args (.row e esz els)) : XCall P f args H fun r H' => ∃ V, r = .own H.length V ∧ H' = H ++ [some (.row e V esz els 0)] := by
  intro w0 w regs Imm0 Vs hfr hth hheap hargs
  refine Calls.mono (h w Imm0 Vs ⟨hth.there, (hth.tab.go hfr).none⟩ hargs) ?_
  rintro e' w' ⟨V, Imm, he, hfr', hI, hsc, cs, hR, hown, hm⟩
  have hg : ∀ g, V.ownBlock = some g → w.heap.size ≤ g ∧ g < w'.heap.size := fun g hg => hown.lt g hg
  have hH := hheap.grow hfr' hI.sub hI.old hth.there
  have hget : ∀ (k : Nat) (x : Blk), ((H ++ [none])[k]?).join = some x → (H[k]?).join = some x := fun k x hx => by
    by_cases hk : k < H.length
    · rwa [List.getElem?_append_left hk] at hx
    · rw [List.getElem?_append_right (by omega)] at hx
      cases hk' : k - H.length with
      | zero => rw [hk'] at hx; simp at hx
      | succ n => rw [hk'] at hx; simp at hx
  have hH' : HeapOk w0 regs Imm (H ++ [none]) w' := ⟨fun k x hx => hH.ok k x (hget k x hx), fun k k' x y hne hx hy => hH.apart k k' x y hne (hget k x hx) (hget k' y hy)⟩
  refine ⟨V, .own H.length V, H ++ [some (.row e V esz els 0)], Imm, he, ⟨V, rfl, rfl⟩, hfr.trans (hfr'.any _), ⟨hI.sub, fun b o hb hlt => hI.old b o hb (Nat.lt_of_lt_of_le hlt hfr.size), hI.there, hI.val⟩, .inr ⟨_, .own _ V hsc, rfl⟩, by simp, ?_⟩
  have e1 : H ++ [some (Blk.row e V esz els 0)] = (H ++ [none]).set H.length (some (.row e V esz els 0)) := by simp
  rw [e1]
  refine hH'.lay (Blk.rowOk hR (ownsRow_base hown (fun _ _ => Nat.zero_le _)) hsc (Nat.zero_le _) fun g hg' o _ => hm g hg' o) (fun b o hf => ⟨(hg b hf).2, Nat.le_trans hfr.size (hg b hf).1⟩) fun k y _ hy b o hf hfy => ?_
  have := ((hheap.ok k y (hget k y hy)).2 b o hfy).1
  have := (hg b hf).1
  omega

theorem argsOk_of {Imm : Nat → Nat → Prop} {w : World} : ∀ {vs : List AV} {Vs : List Value}, vs.length = Vs.length → (∀ (t : Nat) (v : AV), vs[t]? = some v → Rel Imm w v (Vs.toArray.getD t undef)) → ArgsOk Imm w vs Vs
  | [], [], _, _ => trivial
  | v :: vs, V :: Vs, h, k => ⟨by simpa using k 0 v rfl, argsOk_of (by simpa using h) fun t u hu => by simpa using k (t + 1) u (by simpa using hu)⟩
  | [], _ :: _, h, _ => by simp at h
  | _ :: _, [], h, _ => by simp at h
/-- A call upon blocks that may be taken for others. -/
theorem XCall.ofLe {P : Program} {f : FuncId} {vs vs' : List AV} {H H2 : List (Option Blk)} {K : AV → List (Option Blk) → Prop} (hle : Le ⟨0, vs, H⟩ ⟨0, vs', H2⟩) (hl : vs'.length = vs.length) (h : XCall P f vs' H2 K) : XCall P f vs H K := by
  intro w0 w regs Imm0 Vs hfr hth hheap hargs
  obtain ⟨hlen, hget⟩ := argsOk_len hargs
  have hS : SRel w0 w regs Imm0 ⟨0, vs, H⟩ { tmps := Vs.toArray, defers := [] } w := by
    refine ⟨rfl, by simp [hlen], hth.tab, hfr, Imm0, ⟨fun _ _ h => h, fun _ _ h _ => h, hth.there, fun _ _ _ => rfl⟩, fun t v hv => ?_, hheap⟩
    obtain ⟨V, hV, hr⟩ := hget t v hv
    have : Vs.toArray.getD t undef = V := by
      obtain ⟨h1, h2⟩ := List.getElem?_eq_some_iff.1 hV
      simp [Array.getD, h1, h2]
    rw [this]; exact hr
  obtain ⟨Imm, i1, i2, i3⟩ := (hle _ _ _ _ _ _ hS).ex
  have hargs' : ArgsOk Imm w vs' Vs := argsOk_of (by rw [hl, hlen]) fun t v hv => i2 t v hv
  refine Calls.mono (h w0 w regs Imm Vs hfr ⟨i1.there, hth.tab⟩ i3 hargs') ?_
  rintro e w' ⟨V, r, hp', Imm', he, hk, g1, g2, g3, g4, g5⟩
  exact ⟨V, r, hp', Imm', he, hk, g1, ⟨fun b o hb => g2.sub b o (i1.sub b o hb), fun b o hb hlt => i1.old b o (g2.old b o hb hlt) hlt, g2.there, fun b o hb => g2.val b o (i1.sub b o hb)⟩, g3, g4, g5⟩

/-! ### Numbers' texts -/
def dec2 (n : Nat) : List UInt8 := if n < 10 then [dig8 n] else [dig8 (n / 10), dig8 (n % 10)]
theorem dec2_len (n : Nat) : (dec2 n).length ≤ 2 := by unfold dec2; split <;> simp
set_option maxRecDepth 20000 in
theorem small_call (n : Nat) (hn : n < 100) : PCall Go.Proofs.Tryd.prog 82 [.lit (jn n)] (.val (.lit (tx (dec2 n)))) := by
  have h543 := fc543_eq
  refine PCall.of h543 rfl ?_; show AC.wp _ fb543 (AS.init [.lit (jn n)] 1 15) (fun x s => match x with | .exit _ => False | _ => Fin [(.tmp 2)] s _); unfold fb543 AS.init
  refine wp_sr (by simp [push_cast]; exact rfl) ?_
  by_cases h10 : n < 10
  · refine wp_seq' (wp_seq' (wp_r (by simp [push_cast, h10]; exact rfl) (wp_cond_t rfl ?_)))
    have q1 : n + 1 < 9223372036854775808 := by omega
    have hd : ∀ n, n < 10 → (([48, 49, 50, 51, 52, 53, 54, 55, 56, 57, 97, 98, 99, 100, 101, 102, 103, 104, 105, 106, 107, 108, 109, 110, 111, 112, 113, 114, 115, 116, 117, 118, 119, 120, 121, 122] : List UInt8).take (n + 1)).drop n = dec2 n := by decide
    have hp := hd n h10
    have hsub : primVal (.ssub true true) [tx [48, 49, 50, 51, 52, 53, 54, 55, 56, 57, 97, 98, 99, 100, 101, 102, 103, 104, 105, 106, 107, 108, 109, 110, 111, 112, 113, 114, 115, 116, 117, 118, 119, 120, 121, 122], jn n, jn (n + 1)] = some (tx (dec2 n)) := by
      rw [prim_sub2, if_pos ⟨by simp only [List.length_cons, List.length_nil]; omega, by omega⟩, hp]
    generalize ([48, 49, 50, 51, 52, 53, 54, 55, 56, 57, 97, 98, 99, 100, 101, 102, 103, 104, 105, 106, 107, 108, 109, 110, 111, 112, 113, 114, 115, 116, 117, 118, 119, 120, 121, 122] : List UInt8) = dl at *
    refine wp_sg ?_
    refine areg_run 3 (by simp [push_cast, q1]; exact rfl) ?_
    refine AOp.ex_go (s' := _) (by simp only [AOp.ex, AOp.ex0, AOp.mineB, ex_prim, AS.lits, List.map_cons, List.map_nil, AS.ev, AS.put]; simp [primA_some, hsub]; exact rfl) ?_
    refine areg_end (by simp [push_cast]; exact rfl) (wp_ret' ?_)
    exact fin_tmp (by simp [RVal, AS.ev, AS.coe]) (by simp)
  · refine wp_seq' (wp_seq' (wp_r (by simp [push_cast, h10]; exact rfl) (wp_cond_f rfl (wp_skip' ?_))))
    have q1 : n * 2 < 9223372036854775808 := by omega
    have q2 : n * 2 + 2 < 9223372036854775808 := by omega
    have hd : ∀ n, n < 100 → ¬ n < 10 → (([48, 48, 48, 49, 48, 50, 48, 51, 48, 52, 48, 53, 48, 54, 48, 55, 48, 56, 48, 57, 49, 48, 49, 49, 49, 50, 49, 51, 49, 52, 49, 53, 49, 54, 49, 55, 49, 56, 49, 57, 50, 48, 50, 49, 50, 50, 50, 51, 50, 52, 50, 53, 50, 54, 50, 55, 50, 56, 50, 57, 51, 48, 51, 49, 51, 50, 51, 51, 51, 52, 51, 53, 51, 54, 51, 55, 51, 56, 51, 57, 52, 48, 52, 49, 52, 50, 52, 51, 52, 52, 52, 53, 52, 54, 52, 55, 52, 56, 52, 57, 53, 48, 53, 49, 53, 50, 53, 51, 53, 52, 53, 53, 53, 54, 53, 55, 53, 56, 53, 57, 54, 48, 54, 49, 54, 50, 54, 51, 54, 52, 54, 53, 54, 54, 54, 55, 54, 56, 54, 57, 55, 48, 55, 49, 55, 50, 55, 51, 55, 52, 55, 53, 55, 54, 55, 55, 55, 56, 55, 57, 56, 48, 56, 49, 56, 50, 56, 51, 56, 52, 56, 53, 56, 54, 56, 55, 56, 56, 56, 57, 57, 48, 57, 49, 57, 50, 57, 51, 57, 52, 57, 53, 57, 54, 57, 55, 57, 56, 57, 57] : List UInt8).take (n * 2 + 2)).drop (n * 2) = dec2 n := by decide
    have hp := hd n hn h10
    have hsub : primVal (.ssub true true) [tx [48, 48, 48, 49, 48, 50, 48, 51, 48, 52, 48, 53, 48, 54, 48, 55, 48, 56, 48, 57, 49, 48, 49, 49, 49, 50, 49, 51, 49, 52, 49, 53, 49, 54, 49, 55, 49, 56, 49, 57, 50, 48, 50, 49, 50, 50, 50, 51, 50, 52, 50, 53, 50, 54, 50, 55, 50, 56, 50, 57, 51, 48, 51, 49, 51, 50, 51, 51, 51, 52, 51, 53, 51, 54, 51, 55, 51, 56, 51, 57, 52, 48, 52, 49, 52, 50, 52, 51, 52, 52, 52, 53, 52, 54, 52, 55, 52, 56, 52, 57, 53, 48, 53, 49, 53, 50, 53, 51, 53, 52, 53, 53, 53, 54, 53, 55, 53, 56, 53, 57, 54, 48, 54, 49, 54, 50, 54, 51, 54, 52, 54, 53, 54, 54, 54, 55, 54, 56, 54, 57, 55, 48, 55, 49, 55, 50, 55, 51, 55, 52, 55, 53, 55, 54, 55, 55, 55, 56, 55, 57, 56, 48, 56, 49, 56, 50, 56, 51, 56, 52, 56, 53, 56, 54, 56, 55, 56, 56, 56, 57, 57, 48, 57, 49, 57, 50, 57, 51, 57, 52, 57, 53, 57, 54, 57, 55, 57, 56, 57, 57], jn (n * 2), jn (n * 2 + 2)] = some (tx (dec2 n)) := by
      rw [prim_sub2, if_pos ⟨by simp only [List.length_cons, List.length_nil]; omega, by omega⟩, hp]
    generalize ([48, 48, 48, 49, 48, 50, 48, 51, 48, 52, 48, 53, 48, 54, 48, 55, 48, 56, 48, 57, 49, 48, 49, 49, 49, 50, 49, 51, 49, 52, 49, 53, 49, 54, 49, 55, 49, 56, 49, 57, 50, 48, 50, 49, 50, 50, 50, 51, 50, 52, 50, 53, 50, 54, 50, 55, 50, 56, 50, 57, 51, 48, 51, 49, 51, 50, 51, 51, 51, 52, 51, 53, 51, 54, 51, 55, 51, 56, 51, 57, 52, 48, 52, 49, 52, 50, 52, 51, 52, 52, 52, 53, 52, 54, 52, 55, 52, 56, 52, 57, 53, 48, 53, 49, 53, 50, 53, 51, 53, 52, 53, 53, 53, 54, 53, 55, 53, 56, 53, 57, 54, 48, 54, 49, 54, 50, 54, 51, 54, 52, 54, 53, 54, 54, 54, 55, 54, 56, 54, 57, 55, 48, 55, 49, 55, 50, 55, 51, 55, 52, 55, 53, 55, 54, 55, 55, 55, 56, 55, 57, 56, 48, 56, 49, 56, 50, 56, 51, 56, 52, 56, 53, 56, 54, 56, 55, 56, 56, 56, 57, 57, 48, 57, 49, 57, 50, 57, 51, 57, 52, 57, 53, 57, 54, 57, 55, 57, 56, 57, 57] : List UInt8) = dl at *
    refine wp_sg ?_
    refine areg_run 5 (by simp [push_cast, q1, q2]; exact rfl) ?_
    refine AOp.ex_go (s' := _) (by simp only [AOp.ex, AOp.ex0, AOp.mineB, ex_prim, AS.lits, List.map_cons, List.map_nil, AS.ev, AS.put]; simp [primA_some, hsub]; exact rfl) ?_
    refine areg_end (by simp [push_cast]; exact rfl) (wp_ret' ?_)
    exact fin_tmp (by simp [RVal, AS.ev, AS.coe]) (by simp)
theorem bin_leqji (a : Nat) (b : Nat) : binVal .leq (jn a) (jn b) = some (.bool (decide (a ≤ b))) := bin_leqj a b
theorem format_call (n : Nat) (hn : n < 100) : PCall Go.Proofs.Tryd.prog 81 [.lit (jn n), .lit (jn 10)] (.val (.lit (tx (dec2 n)))) := by
  have h542 := fc542_eq
  have c := small_call n hn
  refine PCall.of h542 rfl ?_; show AC.wp _ fb542 (AS.init [.lit (jn n), .lit (jn 10)] 2 54) (fun x s => match x with | .exit _ => False | _ => Fin [(.tmp 4)] s _); unfold fb542 AS.init
  refine wp_sr (by simp [push_cast]; exact rfl) ?_
  refine wp_seq' (wp_seq' (wp_r (by simp [push_cast]; exact rfl) (wp_cond_t rfl ?_)))
  refine wp_seq' (wp_seq' (wp_r (by simp [push_cast, hn]; exact rfl) (wp_cond_t (by simp [AS.ev]) ?_)))
  refine wp_sg ?_
  refine areg_run 1 (by simp [push_cast]; exact rfl) ?_
  refine areg_ca (by simp [AS.ev, AS.coe, AS.put] <;> exact rfl) c ?_
  refine areg_end (by simp [push_cast]; exact rfl) (wp_ret' ?_)
  exact fin_tmp (by simp [RVal, AS.ev, AS.coe]) (by simp)
theorem itoa0_call (n : Nat) (hn : n < 100) : PCall Go.Proofs.Tryd.prog 80 [.lit (jn n)] (.val (.lit (tx (dec2 n)))) := by
  have h538 := fc538_eq
  have c := format_call n hn
  refine PCall.of h538 rfl ?_; show AC.wp _ fb538 (AS.init [.lit (jn n)] 1 5) (fun x s => match x with | .exit _ => False | _ => Fin [(.tmp 2)] s _); unfold fb538 AS.init
  refine wp_sr (by simp [push_cast]; exact rfl) (wp_sg ?_)
  refine areg_run 1 (by simp [push_cast]; exact rfl) ?_
  refine areg_ca (by simp [AS.ev, AS.coe, AS.put] <;> exact rfl) c ?_
  refine areg_end (by simp [push_cast]; exact rfl) (wp_ret' ?_)
  exact fin_tmp (by simp [RVal, AS.ev, AS.coe]) (by simp)
theorem itoa_call (n : Nat) (hn : n < 100) : PCall Go.Proofs.Tryd.prog 77 [.lit (jn n)] (.val (.lit (tx (dec2 n)))) := by
  have h528 := fc528_eq
  have c := itoa0_call n hn
  refine PCall.of h528 rfl ?_; show AC.wp _ fb528 (AS.init [.lit (jn n)] 1 5) (fun x s => match x with | .exit _ => False | _ => Fin [(.tmp 2)] s _); unfold fb528 AS.init
  refine wp_sr (by simp [push_cast]; exact rfl) (wp_sg ?_)
  refine areg_run 1 (by simp [push_cast]; exact rfl) ?_
  refine areg_ca (by simp [AS.ev, AS.coe, AS.put] <;> exact rfl) c ?_
  refine areg_end (by simp [push_cast]; exact rfl) (wp_ret' ?_)
  exact fin_tmp (by simp [RVal, AS.ev, AS.coe]) (by simp)

/-! ### The text of an operation's name -/
def numsV (o : OpV) : List Int := o.kind :: o.author :: (o.seq : Int) :: o.who
def labelG (it : Int → List UInt8) (ns : List Int) : List UInt8 := (ns.map fun n => 32 :: it n).flatten
def labT (it : Int → List UInt8) (ns : List Int) : List UInt8 := [111, 112] ++ labelG it ns
def labelT (it : Int → List UInt8) (o : OpV) : List UInt8 := labT it (numsV o)
theorem cvt_wj (n : Nat) (h : n < 4294967296) : cvtA .i64 (.lit (wn n)) = some (.lit (jn n)) := by
  simp only [cvtA, wn, wrap_i64 (Int.le_trans (by decide) (Int.natCast_nonneg n)) (by omega)]
  rfl
theorem labelG_len {it : Int → List UInt8} : ∀ {ns : List Int}, (∀ n ∈ ns, (it n).length ≤ 30) → (labelG it ns).length ≤ 31 * ns.length
  | [], _ => by simp [labelG]
  | n :: ns, h => by
    have := labelG_len (ns := ns) fun m hm => h m (by simp [hm])
    have := h n (by simp)
    simp only [labelG, List.map_cons, List.flatten_cons, List.length_append, List.length_cons] at *
    omega

/-- A call of the kit that is handed a list of the caller's own: it is sealed first. -/
theorem KC.seal {P : Program} {f : FuncId} {vs : List AV} {H : List (Option Blk)} {t : Tb} {ts ts' : List Term} {r : AV} {c i e esz sl : Nat} {els : List AV} {V : Value} (h : KC P f (vs.set i (.sl esz els)) H t ts r ts') {V0 : Value} {L : List (Option Blk)} (hi : vs[i]? = some (.own (H.length + c) V)) (hc : L[c]? = some (some (.row e V esz els sl))) :
    XCall P f vs (tbOf H t V0 ts ++ L) fun r' H' => r' = r ∧ ∃ V', H' = tbOf H t V' ts' ++ L.set c none := by
  have g1 := cat1 H.length (tbOf H t V0 ts) L c (tbOf_len _ _ _ _)
  have g2 := cat2 H.length (tbOf H t V0 ts) L c (none : Option Blk) (tbOf_len _ _ _ _)
  have hle := Le.sealed (s := ⟨0, vs, tbOf H t V0 ts ++ L⟩) (t := i) (b := H.length + c) (e := e) (V := V) (esz := esz) (els := els) (sl := sl) hi (by simp only [AS.blk, g1, hc]; rfl)
  simp only [g2] at hle
  exact XCall.ofLe hle (by simp) (h V0 (L.set c none))

/-! ### By -/
def byT (it : Int → List UInt8) (o : OpV) : Term := ⟨2, labelT it o, o.parents ++ [o.ofk, zk]⟩
/-- What a message's box is bound to. -/
def byV (it : Int → List UInt8) (ts : List Term) (o : OpV) : List UInt8 × List Term := if rightV o then (nameK (putN ts (byT it o)), putT ts (byT it o)) else (zk, ts)
theorem labelT_len {it : Int → List UInt8} {o : OpV} (ho : OpOk o) (hil : ∀ n ∈ numsV o, (it n).length ≤ 30) (hw : o.who.length < 1000) : (labelT it o).length < 100000 := by
  have := labelG_len hil
  have e : (numsV o).length = o.who.length + 3 := rfl
  unfold labelT labT
  simp only [List.length_append, List.length_cons, List.length_nil]
  omega
theorem tgt_hashI (b : Nat) (l : Nat × Nat) (x y : AV) : tgtA Go.Proofs.Tryd.prog (.inv "Hash") [freeI b l, x, y] = some (108, [.ptr b l 0 [], x, y]) := by kernel_rfl
theorem nilv_hash (b : Nat) (l : Nat × Nat) : rdA Go.Proofs.Tryd.prog (fun _ => none) .nilv [.fnv (.method "Hash") [freeI b l] []] = some (.fnv (.method "Hash") [freeI b l] []) := by kernel_rfl
theorem hash_k {H : List (Option Blk)} {t : Tb} {V0 : Value} {ts0 ts : List Term} (hh : TbOk H t V0 ts0) (hn : ts.length < 100000) {s : List UInt8} (hs : s.length < 100000) {ks : List (List UInt8)} (hk : ks.length < 100000) (h32 : ∀ k ∈ ks, k.length = 32) : KC Go.Proofs.Tryd.prog 108 [.ptr t.b t.l 0 [], .lit (tx s), .sl 32 (klA ks)] H t ts (keyA (nameK (putN ts ⟨2, s, ks⟩))) (putT ts ⟨2, s, ks⟩) :=
  KC.of hh fun H V h => hash_call h hn s hs ks hk h32

/-! ### Two -/
def twoV (ts : List Term) (s : List UInt8) (ks : List (List UInt8)) : (List UInt8 × List UInt8) × List Term :=
  ((nameK (putN ts ⟨2, s ++ [47, 49], ks⟩), nameK (putN (putT ts ⟨2, s ++ [47, 49], ks⟩) ⟨2, s ++ [47, 50], ks⟩)), putT (putT ts ⟨2, s ++ [47, 49], ks⟩) ⟨2, s ++ [47, 50], ks⟩)
set_option maxHeartbeats 8000000 in
theorem two_call {H : List (Option Blk)} {t : Tb} {V : Value} {ts : List Term} (hh : TbOk H t V ts) (hn : ts.length + 1 < 100000) {s : List UInt8} (hs : s.length < 90000) {ks : List (List UInt8)} (hk : ks.length < 100000) (h32 : ∀ k ∈ ks, k.length = 32) :
    XCall Go.Proofs.Tryd.prog 78 [freeI t.b t.l, .lit (tx s), .sl 32 (klA ks)] H fun r H' => r = .tup [keyA (twoV ts s ks).1.1, keyA (twoV ts s ks).1.2] ∧ ∃ V', H' = tbOf H t V' (twoV ts s ks).2 := by
  have h515 := fc515_eq
  refine XCall.le ?_
  have hself := hh.self
  have G1 : ∀ V' ts', (tbOf H t V' ts').length = H.length := fun V' ts' => tbOf_len _ _ _ _
  have g1 : ∀ V' ts' L k, (tbOf H t V' ts' ++ L)[H.length + k]? = L[k]? := fun V' ts' L k => cat1 _ _ _ _ (G1 _ _)
  have g2 : ∀ V' ts' L k x, (tbOf H t V' ts' ++ L).set (H.length + k) x = tbOf H t V' ts' ++ L.set k x := fun V' ts' L k x => cat2 _ _ _ _ _ (G1 _ _)
  have hb1 : binVal .add (tx s) (tx [47, 49]) = some (tx (s ++ [47, 49])) := bin_adds _ _ (by simp only [List.length_cons, List.length_nil]; omega)
  have hb2 : binVal .add (tx s) (tx [47, 50]) = some (tx (s ++ [47, 50])) := bin_adds _ _ (by simp only [List.length_cons, List.length_nil]; omega)
  have l1 : (s ++ [47, 49]).length < 100000 := by simp; omega
  have l2 : (s ++ [47, 50]).length < 100000 := by simp; omega
  have hln := putT_len ts ⟨2, s ++ [47, 49], ks⟩
  have hk1 := hash_k hh (ts := ts) (by omega) l1 hk h32
  have hk2 := hash_k hh (ts := putT ts ⟨2, s ++ [47, 49], ks⟩) (by omega) l2 hk h32
  have n1 := nameK_len (putN ts ⟨2, s ++ [47, 49], ks⟩)
  have n2 := nameK_len (putN (putT ts ⟨2, s ++ [47, 49], ks⟩) ⟨2, s ++ [47, 50], ks⟩)
  unfold twoV
  simp only
  generalize nameK (putN ts ⟨2, s ++ [47, 49], ks⟩) = k1 at *
  generalize nameK (putN (putT ts ⟨2, s ++ [47, 49], ks⟩) ⟨2, s ++ [47, 50], ks⟩) = k2 at *
  generalize putT (putT ts ⟨2, s ++ [47, 49], ks⟩) ⟨2, s ++ [47, 50], ks⟩ = ts3 at *
  generalize putT ts ⟨2, s ++ [47, 49], ks⟩ = ts2 at *
  generalize s ++ [47, 49] = sa at *
  generalize s ++ [47, 50] = sb at *
  refine XCall.of h515 rfl ?_; show AC.wp _ fb515 ⟨H.length, [freeI t.b t.l, .lit (tx s), .sl 32 (klA ks)] ++ List.replicate (18 - 3) .any, H ++ List.replicate 18 none⟩ (fun x s => match x with | .exit _ => False | _ => ∃ s1, Le s s1 ∧ FinX [(.cell 6 .true 32), (.cell 7 .true 32)] s1 _); unfold fb515
  rw [← hself]
  rw [tbOf_len]
  generalize hN : H.length = N at *
  refine wp_sg (areg_al' zk_eq.symm fun l6 => areg_al' zk_eq.symm fun l7 => areg_end (by simp [push_cast, g2]; exact rfl) ?_)
  refine wp_sg ?_
  refine areg_run 4 (by simp [push_cast, hb1]; exact rfl) ?_
  refine areg_k [freeI t.b t.l, .lit (tx sa), .sl 32 (klA ks)] hN rfl (tgt_hashI _ _ _ _) hk1 (by simp) (by simp) fun V2 => ?_
  refine areg_run 4 (by simp [push_cast, hb2]; exact rfl) ?_
  refine areg_k [freeI t.b t.l, .lit (tx sb), .sl 32 (klA ks)] hN rfl (tgt_hashI _ _ _ _) hk2 (by simp) (by simp) fun V3 => ?_
  refine areg_end (by simp [push_cast, g1, g2, n1, n2]; exact rfl) (wp_ret' ?_)
  exact ⟨_, Le.refl _, [], _, ⟨_, rfl, by simp [AS.seals, RVals, RVal, AS.ev, AS.peek, AS.blk, g1, Blk.loc, Blk.cont, Blk.n, AV.nav, AV.isAgg, AV.isTup, AS.coe]; rfl, by simp [keyA]⟩, .tup [keyA k1, keyA k2], _, RelLe.refl _, by simp, HpLe.trim _ _, rfl, V3, (hh.of_of _ _ _ _).symm⟩
end Go.Cab

/- Free kit, plain: tables grow; which term a name is; what two agree on, in either order. -/
-- TEXTS
-- KIT
namespace Go.Cab
open Classical

/-! ### Bytes compared -/
theorem cmp_neg : ∀ (a b : List UInt8), Go.Lib.compareBytes b a = - Go.Lib.compareBytes a b
  | [], [] => rfl
  | [], _ :: _ => rfl
  | _ :: _, [] => rfl
  | a :: xa, b :: bs => by
    unfold Go.Lib.compareBytes
    have h : ¬ (a < b ∧ b < a) := fun ⟨h, k⟩ => by have := UInt8.lt_iff_toNat_lt.1 h; have := UInt8.lt_iff_toNat_lt.1 k; omega
    by_cases h1 : a < b
    · have h2 : ¬ b < a := fun k => h ⟨h1, k⟩
      simp [h1, h2]
    · by_cases h2 : b < a
      · simp [h1, h2]
      · simp only [h1, h2, if_false]; exact cmp_neg xa bs
theorem cmp_zero : ∀ (a b : List UInt8), Go.Lib.compareBytes a b = 0 → a = b
  | [], [], _ => rfl
  | [], _ :: _, h => by simp [Go.Lib.compareBytes] at h
  | _ :: _, [], h => by simp [Go.Lib.compareBytes] at h
  | a :: xa, b :: bs, h => by
    unfold Go.Lib.compareBytes at h
    split at h
    · omega
    · split at h
      · omega
      · rename_i h1 h2
        have : a = b := by
          apply UInt8.toNat_inj.1
          have h1' : ¬ a.toNat < b.toNat := fun k => h1 (UInt8.lt_iff_toNat_lt.2 k)
          have h2' : ¬ b.toNat < a.toNat := fun k => h2 (UInt8.lt_iff_toNat_lt.2 k)
          omega
        rw [this, cmp_zero xa bs h]

/-- What two agree on. -/
def agr (a k : List UInt8) : Term := if 0 < Go.Lib.compareBytes a k then ⟨4, [], [k, a]⟩ else ⟨4, [], [a, k]⟩
theorem agr_comm (a k : List UInt8) : agr a k = agr k a := by
  unfold agr
  have h := cmp_neg a k
  by_cases h1 : 0 < Go.Lib.compareBytes a k
  · rw [if_pos h1, if_neg (by omega)]
  · rw [if_neg h1]
    by_cases h2 : 0 < Go.Lib.compareBytes k a
    · rw [if_pos h2]
    · rw [if_neg h2, cmp_zero a k (by omega)]
theorem agr_kind (a k : List UInt8) : (agr a k).kind = 4 := by unfold agr; split <;> rfl
theorem agr_wf (a k : List UInt8) : WfT (agr a k) := by unfold agr; split <;> exact ⟨by simp, by simp⟩
theorem agr_ok {a k : List UInt8} (ha : a.length = 32) (hk : k.length = 32) : TermOk (agr a k) := by
  unfold agr
  split <;> exact ⟨by simp, by simp, by simp, by simp [ha, hk]⟩

/-! ### Names -/
theorem ofNat_mod (n : Nat) : (UInt8.ofNat n).toNat = n % 256 := by simp
theorem be32_name {n : Nat} (h : n < 4294967296) : be32 (nameK n) = n := by
  have e : be32 (nameK n) = (UInt8.ofNat (n / 16777216)).toNat * 16777216 + (UInt8.ofNat (n / 65536)).toNat * 65536 + (UInt8.ofNat (n / 256)).toNat * 256 + (UInt8.ofNat n).toNat := rfl
  rw [e, ofNat_mod, ofNat_mod, ofNat_mod, ofNat_mod]
  omega
theorem name_inj {n m : Nat} (hn : n < 4294967296) (hm : m < 4294967296) (h : nameK n = nameK m) : n = m := by
  rw [← be32_name hn, ← be32_name hm, h]
theorem name_nz (n : Nat) : nameK n ≠ zk := fun h => by
  have := congrArg (fun l => l.getD 0 0) h
  simp [nameK, zk] at this
theorem four_inj {n m : Nat} (hn : n < 4294967296) (hm : m < 4294967296) (h : four n = four m) : n = m := by
  simp only [four, List.cons.injEq, and_true] at h
  obtain ⟨h1, h2, h3, h4⟩ := h
  have k1 := congrArg UInt8.toNat h1; have k2 := congrArg UInt8.toNat h2; have k3 := congrArg UInt8.toNat h3; have k4 := congrArg UInt8.toNat h4
  rw [ofNat_mod, ofNat_mod] at k1 k2 k3 k4
  omega

/-! ### Shapes -/
theorem flat_inj : ∀ {a b : List (List UInt8)}, (∀ k ∈ a, k.length = 32) → (∀ k ∈ b, k.length = 32) → a.flatten = b.flatten → a = b
  | [], [], _, _, _ => rfl
  | [], y :: b, _, hb, h => by
    have := congrArg List.length h
    simp only [List.flatten_nil, List.flatten_cons, List.length_append, hb y (by simp), List.length_nil] at this
    omega
  | x :: a, [], ha, _, h => by
    have := congrArg List.length h
    simp only [List.flatten_nil, List.flatten_cons, List.length_append, ha x (by simp), List.length_nil] at this
    omega
  | x :: a, y :: b, ha, hb, h => by
    simp only [List.flatten_cons] at h
    obtain ⟨h1, h2⟩ := List.append_inj h (by rw [ha x (by simp), hb y (by simp)])
    rw [h1, flat_inj (fun k hk => ha k (by simp [hk])) (fun k hk => hb k (by simp [hk])) h2]
theorem shape_inj {x y : Term} (hx : TermOk x) (hy : TermOk y) (h : shapeT x = shapeT y) : x = y := by
  obtain ⟨kx, tx', ksx⟩ := x
  obtain ⟨ky, ty, ksy⟩ := y
  obtain ⟨x1, x2, x3, x4⟩ := hx
  obtain ⟨y1, y2, y3, y4⟩ := hy
  simp only [shapeT] at h x1 x2 x3 x4 y1 y2 y3 y4
  simp only [List.append_assoc] at h
  obtain ⟨h1, h⟩ := List.append_inj h (by simp)
  obtain ⟨h2, h⟩ := List.append_inj h (by simp [four])
  have e2 := four_inj (by omega) (by omega) h2
  obtain ⟨h3, h4⟩ := List.append_inj h e2
  have e1 : kx = ky := by
    simp only [List.cons.injEq, and_true] at h1
    have := congrArg UInt8.toNat h1
    rw [ofNat_mod, ofNat_mod] at this
    omega
  rw [e1, h3, flat_inj x4 y4 h4]

/-! ### What stands in a table -/
/-- The term stands there, at that number. -/
def In (ts : List Term) (x : Term) (n : Nat) : Prop := findT (shapeT x) ts 0 = some n
theorem findT_app {s : List UInt8} : ∀ {ts : List Term} {i n : Nat} (us : List Term), findT s ts i = some n → findT s (ts ++ us) i = some n
  | [], _, _, _, h => by cases h
  | x :: xs, i, n, us, h => by
    unfold findT at h
    rw [List.cons_append, findT]
    split at h
    · rename_i e; rw [if_pos e]; exact h
    · rename_i e; rw [if_neg e]; exact findT_app us h
theorem findT_get {s : List UInt8} : ∀ {ts : List Term} {i n : Nat}, findT s ts i = some n → ∃ x, ts[n - i]? = some x ∧ s = shapeT x
  | [], _, _, h => by cases h
  | x :: xs, i, n, h => by
    have hl := findT_lt h
    unfold findT at h
    split at h
    · rename_i e; cases h; exact ⟨x, by simp, e⟩
    · have hl2 := findT_lt h
      obtain ⟨y, h1, h2⟩ := findT_get h
      refine ⟨y, ?_, h2⟩
      rw [show n - i = (n - (i + 1)) + 1 by omega]
      simpa using h1
theorem findT_snoc {x : Term} : ∀ {ts : List Term} {i : Nat}, findT (shapeT x) ts i = none → findT (shapeT x) (ts ++ [x]) i = some (i + ts.length)
  | [], i, _ => by simp [findT]
  | y :: ys, i, h => by
    unfold findT at h
    split at h
    · cases h
    · rename_i e
      rw [List.cons_append, findT, if_neg e, findT_snoc h]
      simp only [List.length_cons]; congr 1; omega
theorem In.put (ts : List Term) (x : Term) : In (putT ts x) x (putN ts x) := by
  unfold In putT putN
  cases h : findT (shapeT x) ts 0 with
  | some n => exact h
  | none => rw [findT_snoc h]; simp
theorem put_pre (ts : List Term) (x : Term) : ts <+: putT ts x := by
  unfold putT
  cases findT (shapeT x) ts 0 with
  | some n => exact List.prefix_refl _
  | none => exact List.prefix_append _ _
theorem In.mono {ts us : List Term} {x : Term} {n : Nat} (h : In ts x n) (k : ts <+: us) : In us x n := by
  obtain ⟨vs, rfl⟩ := k
  exact findT_app vs h
theorem In.putT {ts : List Term} {x : Term} {n : Nat} (h : In ts x n) : putT ts x = ts := by
  unfold In at h
  unfold Cab.putT
  rw [h]
theorem In.putN {ts : List Term} {x : Term} {n : Nat} (h : In ts x n) : putN ts x = n := by
  unfold In at h
  unfold Cab.putN
  rw [h]
theorem In.lt {ts : List Term} {x : Term} {n : Nat} (h : In ts x n) : n < ts.length := by have := findT_lt h; omega
theorem In.get {ts : List Term} {x : Term} {n : Nat} (h : In ts x n) (hts : TsOk ts) (hx : TermOk x) : ts[n]? = some x := by
  obtain ⟨y, h1, h2⟩ := findT_get h
  rw [Nat.sub_zero] at h1
  rw [h1, shape_inj (hts.ok y (List.mem_of_getElem? h1)) hx h2.symm]
theorem In.inj {ts : List Term} {x y : Term} {n : Nat} (h : In ts x n) (k : In ts y n) (hts : TsOk ts) (hx : TermOk x) (hy : TermOk y) : x = y := by
  have := h.get hts hx
  rw [k.get hts hy] at this
  exact (Option.some.inj this).symm

/-- A key that is the name of a term that stands there. -/
def Nm (ts : List Term) (x : Term) (k : List UInt8) : Prop := ∃ n, k = nameK n ∧ In ts x n
theorem Nm.put (ts : List Term) (x : Term) : Nm (putT ts x) x (nameK (putN ts x)) := ⟨_, rfl, In.put ts x⟩
theorem Nm.mono {ts us : List Term} {x : Term} {k : List UInt8} (h : Nm ts x k) (p : ts <+: us) : Nm us x k := by
  obtain ⟨n, h1, h2⟩ := h
  exact ⟨n, h1, h2.mono p⟩
theorem Nm.putT {ts : List Term} {x : Term} {k : List UInt8} (h : Nm ts x k) : putT ts x = ts := by obtain ⟨n, _, h2⟩ := h; exact h2.putT
theorem Nm.putN {ts : List Term} {x : Term} {k : List UInt8} (h : Nm ts x k) : nameK (putN ts x) = k := by obtain ⟨n, h1, h2⟩ := h; rw [h2.putN, h1]
theorem Nm.len {ts : List Term} {x : Term} {k : List UInt8} (h : Nm ts x k) : k.length = 32 := by obtain ⟨n, rfl, _⟩ := h; exact nameK_len n
theorem Nm.nz {ts : List Term} {x : Term} {k : List UInt8} (h : Nm ts x k) : k ≠ zk := by obtain ⟨n, rfl, _⟩ := h; exact name_nz n
theorem Nm.inj {ts : List Term} {x y : Term} {k : List UInt8} (h : Nm ts x k) (g : Nm ts y k) (hts : TsOk ts) (hx : TermOk x) (hy : TermOk y) : x = y := by
  obtain ⟨n, h1, h2⟩ := h
  obtain ⟨m, g1, g2⟩ := g
  have hl := hts.len
  have a1 := h2.lt
  have a2 := g2.lt
  have : n = m := name_inj (by omega) (by omega) (by rw [← h1, g1])
  subst this
  exact h2.inj g2 hts hx hy
theorem Nm.fun {ts : List Term} {x : Term} {k k' : List UInt8} (h : Nm ts x k) (g : Nm ts x k') : k = k' := by rw [← h.putN, g.putN]

/-- What agreeing on a public key comes to. -/
theorem agreeX_pub {ts : List Term} (hts : TsOk ts) {a k p : List UInt8} (hk : k.length = 32) (h : Nm ts (pubT k) p) : agreeX ts a p = some (agr a k) := by
  have hnz := h.nz
  obtain ⟨n, rfl, hn⟩ := h
  have hl := hts.len
  have hlt := hn.lt
  unfold agreeX
  rw [if_neg hnz, be32_name (by omega), if_neg (by simp; omega), hn.get hts (pubT_ok hk)]
  simp only [pubT, if_true, List.getD_cons_zero]
  rw [agr]
  split <;> rfl

/-! ### All pairs -/
/-- What pairs of secrets come to. -/
def goG : List Term → List (List UInt8) → List KK → List (List UInt8) × List Term
  | ts, acc, [] => (acc, ts)
  | ts, acc, q :: qs => goG (putT ts (agr q.1 q.2)) (acc ++ [nameK (putN ts (agr q.1 q.2))]) qs
/-- The second ones' public keys. -/
def PubsOf (ts : List Term) : List KK → List KK → Prop
  | [], [] => True
  | p :: ps, q :: qs => p.1 = q.1 ∧ q.1.length = 32 ∧ q.2.length = 32 ∧ Nm ts (pubT q.2) p.2 ∧ PubsOf ts ps qs
  | _, _ => False
theorem PubsOf.mono {ts us : List Term} (k : ts <+: us) : ∀ {ps qs : List KK}, PubsOf ts ps qs → PubsOf us ps qs
  | [], [], _ => trivial
  | _ :: _, _ :: _, ⟨h1, h2, h3, h4, h5⟩ => ⟨h1, h2, h3, h4.mono k, h5.mono k⟩
  | [], _ :: _, h => h.elim
  | _ :: _, [], h => h.elim
theorem agreedG_go : ∀ (ps qs : List KK) (ts : List Term) (acc : List (List UInt8)), TsOk ts → ts.length + ps.length + 10 < 90000 → PubsOf ts ps qs → agreedG ts acc ps = (some (goG ts acc qs).1, (goG ts acc qs).2)
  | [], [], _, _, _, _, _ => rfl
  | p :: ps, q :: qs, ts, acc, hts, hl, ⟨h1, h2, h3, h4, h5⟩ => by
    simp only [List.length_cons] at hl
    have hlen := putT_len ts (agr q.1 q.2)
    rw [agreedG, agreeX_pub hts h3 h4, h1]
    exact agreedG_go ps qs _ _ (hts.put (agr_ok h2 h3) (agr_wf _ _) (by omega)) (by omega) (h5.mono (put_pre _ _))
  | [], _ :: _, _, _, _, _, h => h.elim
  | _ :: _, [], _, _, _, _, h => h.elim
theorem goG_pre : ∀ (qs : List KK) (ts : List Term) (acc : List (List UInt8)), ts <+: (goG ts acc qs).2
  | [], _, _ => List.prefix_refl _
  | q :: qs, ts, acc => (put_pre ts (agr q.1 q.2)).trans (goG_pre qs _ _)
/-- Once reckoned, it is there. -/
theorem goG_again : ∀ (qs qs' : List KK) (ts us : List Term) (acc : List (List UInt8)), (qs.map fun q => agr q.1 q.2) = (qs'.map fun q => agr q.1 q.2) → (goG ts acc qs).2 <+: us → goG us acc qs' = ((goG ts acc qs).1, us)
  | [], [], _, _, _, _, _ => rfl
  | q :: qs, q' :: qs', ts, us, acc, h, k => by
    simp only [List.map_cons, List.cons.injEq] at h
    have hn : Nm us (agr q.1 q.2) (nameK (putN ts (agr q.1 q.2))) := (Nm.put ts _).mono ((goG_pre qs _ _).trans k)
    rw [goG, goG, ← h.1, hn.putT, hn.putN]
    exact goG_again qs qs' _ us _ h.2 k
  | [], _ :: _, _, _, _, h, _ => by simp at h
  | _ :: _, [], _, _, _, h, _ => by simp at h
theorem agreedT_go {ts : List Term} (hts : TsOk ts) {ps qs : List KK} (hl : ts.length + ps.length + 10 < 90000) (h : PubsOf ts ps qs) :
    agreedT ts ps = (some (nameK (putN (goG ts [] qs).2 ⟨2, hello, (goG ts [] qs).1⟩)), putT (goG ts [] qs).2 ⟨2, hello, (goG ts [] qs).1⟩) := by
  unfold agreedT
  rw [agreedG_go ps qs ts [] hts hl h]
theorem agreedT_pre {ts : List Term} {ps qs : List KK} (hts : TsOk ts) (hl : ts.length + ps.length + 10 < 90000) (h : PubsOf ts ps qs) : ts <+: (agreedT ts ps).2 := by
  rw [agreedT_go hts hl h]
  exact (goG_pre _ _ _).trans (put_pre _ _)
/-- The others come to the same. -/
theorem agreedT_again {ts us : List Term} (hts : TsOk ts) (hus : TsOk us) {ps qs ps' qs' : List KK} (hl : ts.length + ps.length + 10 < 90000) (hl' : us.length + ps'.length + 10 < 90000) (h : PubsOf ts ps qs) (h' : PubsOf us ps' qs')
    (he : (qs.map fun q => agr q.1 q.2) = (qs'.map fun q => agr q.1 q.2)) (hpre : (agreedT ts ps).2 <+: us) : agreedT us ps' = ((agreedT ts ps).1, us) := by
  rw [agreedT_go hts hl h] at hpre ⊢
  have hg := goG_again qs qs' ts us [] he ((put_pre _ _).trans hpre)
  have hn := (Nm.put (goG ts [] qs).2 ⟨2, hello, (goG ts [] qs).1⟩).mono hpre
  rw [agreedT_go hus hl' h', hg]
  simp only
  rw [hn.putT, hn.putN]
end Go.Cab

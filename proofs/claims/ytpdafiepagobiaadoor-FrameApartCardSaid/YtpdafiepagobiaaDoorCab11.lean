/- Part 11 of what the proof stands on: Q10, Q8, Q11, Q17, Q12. -/
import Derived.Test.YtpdafiepagobiaaDoorCab10
set_option linter.unusedSimpArgs false
set_option linter.unnecessarySimpa false
set_option linter.unusedVariables false
set_option linter.unusedSectionVars false
namespace Go.Cab
open Go.RowKit
open Classical
attribute [local irreducible] AReg
theorem bin_eqlii (a b : Int) : binVal .eql (ji a) (ji b) = some (.bool (decide (a = b))) := by
  simp only [binVal, ji, ne_eq, not_true_eq_false, if_false, Option.some.injEq, Value.bool.injEq]
  rw [Bool.eq_iff_iff]
  simp
theorem op_ext {a b : OpV} (h1 : a.author = b.author) (h2 : a.seq = b.seq) (h3 : a.parents = b.parents) (h4 : a.kind = b.kind) (h5 : a.who = b.who) (h6 : a.ofk = b.ofk) (h7 : a.check = b.check) (h8 : a.text = b.text) (h9 : a.boxes = b.boxes) : a = b := by
  cases a; cases b; simp only at *; subst h1 h2 h3 h4 h5 h6 h7 h8 h9; rfl
structure OpL (o : OpV) : Prop where
  p32 : ∀ k ∈ o.parents, k.length = 32
  pl : o.parents.length < 9223372036854775807
  wl : o.who.length < 9223372036854775807
  bl : o.boxes.length < 9223372036854775807
  ofk : o.ofk.length = 32
  check : o.check.length = 32
set_option maxRecDepth 20000 in
set_option maxHeartbeats 16000000 in
theorem sameO_call {a b : OpV} (ha : OpL a) (hb : OpL b) (hx : a.boxes = b.boxes ∨ a.boxes.length ≠ b.boxes.length) (hW : ∀ x ∈ a.boxes, BoxW x ∨ a.boxes.length ≠ b.boxes.length) :
    PCall Go.Proofs.Tryd.prog 35 [opA a, opA b] (.val (.lit (.bool (decide (a = b))))) := by
  have h815 := fc815_eq
  have a5 := ha.ofk; have a6 := ha.check; have b5 := hb.ofk; have b6 := hb.check
  have cP := eqKeys_call a.parents b.parents ha.p32 hb.p32 ha.pl
  have cI := eqInts_call a.who b.who ha.wl
  have cB := eqBoxes_call a.boxes b.boxes hx hW ha.bl
  have e5 := eq_key a5 b5
  have e6 := eq_key a6 b6
  have q1 : a.author ≠ b.author → a ≠ b := fun h e => h (by rw [e])
  have q2 : a.seq ≠ b.seq → a ≠ b := fun h e => h (by rw [e])
  have q3 : a.kind ≠ b.kind → a ≠ b := fun h e => h (by rw [e])
  have q4 : a.ofk ≠ b.ofk → a ≠ b := fun h e => h (by rw [e])
  have q5 : a.check ≠ b.check → a ≠ b := fun h e => h (by rw [e])
  have q6 : a.text ≠ b.text → a ≠ b := fun h e => h (by rw [e])
  have q7 : a.parents ≠ b.parents → a ≠ b := fun h e => h (by rw [e])
  have q8 : a.who ≠ b.who → a ≠ b := fun h e => h (by rw [e])
  have q9 : a.boxes ≠ b.boxes → a ≠ b := fun h e => h (by rw [e])
  have hA : opA a = .st [1, 1, 1, 1, 1, 32, 32, 1, 1] [.lit (ji a.author), .lit (wn a.seq), .sl 32 (a.parents.map fun x => keyA x), .lit (ji a.kind), .sl 1 (a.who.map fun x => AV.lit (ji x)), keyA a.ofk, keyA a.check, .lit (tx a.text), .sl 36 (a.boxes.map fun x => boxA x)] := rfl
  have hB : opA b = .st [1, 1, 1, 1, 1, 32, 32, 1, 1] [.lit (ji b.author), .lit (wn b.seq), .sl 32 (b.parents.map fun x => keyA x), .lit (ji b.kind), .sl 1 (b.who.map fun x => AV.lit (ji x)), keyA b.ofk, keyA b.check, .lit (tx b.text), .sl 36 (b.boxes.map fun x => boxA x)] := rfl
  rw [hA, hB]
  generalize (a.parents.map fun x => keyA x) = T1 at *
  generalize (b.parents.map fun x => keyA x) = T2 at *
  generalize (a.who.map fun x => AV.lit (ji x)) = W1 at *
  generalize (b.who.map fun x => AV.lit (ji x)) = W2 at *
  generalize (a.boxes.map fun x => boxA x) = X1 at *
  generalize (b.boxes.map fun x => boxA x) = X2 at *
  refine PCall.of h815 rfl ?_; show AC.wp _ fb815 (AS.init [.st [1, 1, 1, 1, 1, 32, 32, 1, 1] [.lit (ji a.author), .lit (wn a.seq), .sl 32 T1, .lit (ji a.kind), .sl 1 W1, keyA a.ofk, keyA a.check, .lit (tx a.text), .sl 36 X1], .st [1, 1, 1, 1, 1, 32, 32, 1, 1] [.lit (ji b.author), .lit (wn b.seq), .sl 32 T2, .lit (ji b.kind), .sl 1 W2, keyA b.ofk, keyA b.check, .lit (tx b.text), .sl 36 X2]] 2 66) (fun x s => match x with | .exit _ => False | _ => Fin [(.tmp 4)] s _); unfold fb815 AS.init
  refine wp_sg (areg_bx rfl (by simp [AS.ev, AV.sz, keyA, bl_len, a5, a6]) fun l2 => areg_bx rfl (by simp [AS.ev, AS.put, AV.sz, keyA, bl_len, b5, b6]) fun l3 => areg_end (by simp [push_cast]; exact rfl) ?_)
  refine wp_sg ?_
  by_cases n1 : a.author ≠ b.author
  · refine areg_run 6 (by simp [push_cast, bin_eqlii, n1, a5, a6, b5, b6]; exact rfl) ?_
    refine areg_ng (by simp [AS.ev, AS.put]) (?_)
    (repeat (first | (with_reducible apply areg_ng); focus (simp [AS.ev, AS.put]; done) | (with_reducible apply areg_nt); focus (simp [AS.ev, AS.put]; done) | (with_reducible apply areg_g); focus (simp [AS.ev, AS.put]; done) | with_reducible apply areg_mv | (with_reducible apply areg_pkT); focus (simp [AS.ev, AS.put]; done) | (with_reducible apply areg_pkF); focus (simp [AS.ev, AS.put]; done) | (with_reducible apply areg_op); focus (simp [push_cast]; exact rfl)))
    refine areg_nil (wp_ret' ?_)
    exact fin_tmp (by simp [RVal, AS.ev, AS.coe, AS.put, q1 n1]) (by simp)
  have h1 : a.author = b.author := Classical.not_not.1 n1
  refine areg_run 6 (by simp [push_cast, bin_eqlii, h1, a5, a6, b5, b6]; exact rfl) ?_
  by_cases n2 : a.seq ≠ b.seq
  · refine areg_run 7 (by simp [push_cast, bin_eqlw, n2, a5, a6, b5, b6]; exact rfl) ?_
    refine areg_ng (by simp [AS.ev, AS.put]) (?_)
    (repeat (first | (with_reducible apply areg_ng); focus (simp [AS.ev, AS.put]; done) | (with_reducible apply areg_nt); focus (simp [AS.ev, AS.put]; done) | (with_reducible apply areg_g); focus (simp [AS.ev, AS.put]; done) | with_reducible apply areg_mv | (with_reducible apply areg_pkT); focus (simp [AS.ev, AS.put]; done) | (with_reducible apply areg_pkF); focus (simp [AS.ev, AS.put]; done) | (with_reducible apply areg_op); focus (simp [push_cast]; exact rfl)))
    refine areg_nil (wp_ret' ?_)
    exact fin_tmp (by simp [RVal, AS.ev, AS.coe, AS.put, q2 n2]) (by simp)
  have h2 : a.seq = b.seq := Classical.not_not.1 n2
  refine areg_run 7 (by simp [push_cast, bin_eqlw, h2, a5, a6, b5, b6]; exact rfl) ?_
  by_cases n3 : a.kind ≠ b.kind
  · refine areg_run 7 (by simp [push_cast, bin_eqlii, n3, a5, a6, b5, b6]; exact rfl) ?_
    refine areg_ng (by simp [AS.ev, AS.put]) (?_)
    (repeat (first | (with_reducible apply areg_ng); focus (simp [AS.ev, AS.put]; done) | (with_reducible apply areg_nt); focus (simp [AS.ev, AS.put]; done) | (with_reducible apply areg_g); focus (simp [AS.ev, AS.put]; done) | with_reducible apply areg_mv | (with_reducible apply areg_pkT); focus (simp [AS.ev, AS.put]; done) | (with_reducible apply areg_pkF); focus (simp [AS.ev, AS.put]; done) | (with_reducible apply areg_op); focus (simp [push_cast]; exact rfl)))
    refine areg_nil (wp_ret' ?_)
    exact fin_tmp (by simp [RVal, AS.ev, AS.coe, AS.put, q3 n3]) (by simp)
  have h3 : a.kind = b.kind := Classical.not_not.1 n3
  refine areg_run 7 (by simp [push_cast, bin_eqlii, h3, a5, a6, b5, b6]; exact rfl) ?_
  refine areg_run 4 (by simp [push_cast, a5, a6, b5, b6]; exact rfl) ?_
  refine areg_g (by simp [AS.ev, AS.put]) (areg_eq (by simp [AS.ev, AS.put] <;> exact rfl) (by simp [AS.ev, AS.put] <;> exact rfl) e5 rfl rfl ?_)
  by_cases n4 : a.ofk ≠ b.ofk
  · refine areg_run 2 (by simp [push_cast, n4]; exact rfl) ?_
    refine areg_ng (by simp [AS.ev, AS.put]) (?_)
    (repeat (first | (with_reducible apply areg_ng); focus (simp [AS.ev, AS.put]; done) | (with_reducible apply areg_nt); focus (simp [AS.ev, AS.put]; done) | (with_reducible apply areg_g); focus (simp [AS.ev, AS.put]; done) | with_reducible apply areg_mv | (with_reducible apply areg_pkT); focus (simp [AS.ev, AS.put]; done) | (with_reducible apply areg_pkF); focus (simp [AS.ev, AS.put]; done) | (with_reducible apply areg_op); focus (simp [push_cast]; exact rfl)))
    refine areg_nil (wp_ret' ?_)
    exact fin_tmp (by simp [RVal, AS.ev, AS.coe, AS.put, q4 n4]) (by simp)
  have h4 : a.ofk = b.ofk := Classical.not_not.1 n4
  refine areg_run 2 (by simp [push_cast, h4]; exact rfl) ?_
  refine areg_run 4 (by simp [push_cast, a5, a6, b5, b6]; exact rfl) ?_
  refine areg_g (by simp [AS.ev, AS.put]) (areg_eq (by simp [AS.ev, AS.put] <;> exact rfl) (by simp [AS.ev, AS.put] <;> exact rfl) e6 rfl rfl ?_)
  by_cases n5 : a.check ≠ b.check
  · refine areg_run 2 (by simp [push_cast, n5]; exact rfl) ?_
    refine areg_ng (by simp [AS.ev, AS.put]) (?_)
    (repeat (first | (with_reducible apply areg_ng); focus (simp [AS.ev, AS.put]; done) | (with_reducible apply areg_nt); focus (simp [AS.ev, AS.put]; done) | (with_reducible apply areg_g); focus (simp [AS.ev, AS.put]; done) | with_reducible apply areg_mv | (with_reducible apply areg_pkT); focus (simp [AS.ev, AS.put]; done) | (with_reducible apply areg_pkF); focus (simp [AS.ev, AS.put]; done) | (with_reducible apply areg_op); focus (simp [push_cast]; exact rfl)))
    refine areg_nil (wp_ret' ?_)
    exact fin_tmp (by simp [RVal, AS.ev, AS.coe, AS.put, q5 n5]) (by simp)
  have h5 : a.check = b.check := Classical.not_not.1 n5
  refine areg_run 2 (by simp [push_cast, h5]; exact rfl) ?_
  by_cases n6 : a.text ≠ b.text
  · refine areg_run 7 (by simp [push_cast, n6, a5, a6, b5, b6]; exact rfl) ?_
    refine areg_ng (by simp [AS.ev, AS.put]) (?_)
    (repeat (first | (with_reducible apply areg_ng); focus (simp [AS.ev, AS.put]; done) | (with_reducible apply areg_nt); focus (simp [AS.ev, AS.put]; done) | (with_reducible apply areg_g); focus (simp [AS.ev, AS.put]; done) | with_reducible apply areg_mv | (with_reducible apply areg_pkT); focus (simp [AS.ev, AS.put]; done) | (with_reducible apply areg_pkF); focus (simp [AS.ev, AS.put]; done) | (with_reducible apply areg_op); focus (simp [push_cast]; exact rfl)))
    refine areg_nil (wp_ret' ?_)
    exact fin_tmp (by simp [RVal, AS.ev, AS.coe, AS.put, q6 n6]) (by simp)
  have h6 : a.text = b.text := Classical.not_not.1 n6
  refine areg_run 7 (by simp [push_cast, h6, a5, a6, b5, b6]; exact rfl) ?_
  refine areg_run 4 (by simp [push_cast, a5, a6, b5, b6]; exact rfl) ?_
  refine areg_g (by simp [AS.ev, AS.put]) (areg_lc (by simp [AS.ev, AS.lend, AS.lendF, AS.put, AOp.ro, AS.blk] <;> exact rfl) rfl cP ?_)
  by_cases n7 : a.parents ≠ b.parents
  · refine areg_run 2 (by simp [push_cast, n7]; exact rfl) ?_
    refine areg_ng (by simp [AS.ev, AS.put]) (?_)
    (repeat (first | (with_reducible apply areg_ng); focus (simp [AS.ev, AS.put]; done) | (with_reducible apply areg_nt); focus (simp [AS.ev, AS.put]; done) | (with_reducible apply areg_g); focus (simp [AS.ev, AS.put]; done) | with_reducible apply areg_mv | (with_reducible apply areg_pkT); focus (simp [AS.ev, AS.put]; done) | (with_reducible apply areg_pkF); focus (simp [AS.ev, AS.put]; done) | (with_reducible apply areg_op); focus (simp [push_cast]; exact rfl)))
    refine areg_nil (wp_ret' ?_)
    exact fin_tmp (by simp [RVal, AS.ev, AS.coe, AS.put, q7 n7]) (by simp)
  have h7 : a.parents = b.parents := Classical.not_not.1 n7
  refine areg_run 2 (by simp [push_cast, h7]; exact rfl) ?_
  refine areg_run 4 (by simp [push_cast, a5, a6, b5, b6]; exact rfl) ?_
  refine areg_g (by simp [AS.ev, AS.put]) (areg_lc (by simp [AS.ev, AS.lend, AS.lendF, AS.put, AOp.ro, AS.blk] <;> exact rfl) rfl cI ?_)
  by_cases n8 : a.who ≠ b.who
  · refine areg_run 2 (by simp [push_cast, n8]; exact rfl) ?_
    refine areg_ng (by simp [AS.ev, AS.put]) (?_)
    (repeat (first | (with_reducible apply areg_ng); focus (simp [AS.ev, AS.put]; done) | (with_reducible apply areg_nt); focus (simp [AS.ev, AS.put]; done) | (with_reducible apply areg_g); focus (simp [AS.ev, AS.put]; done) | with_reducible apply areg_mv | (with_reducible apply areg_pkT); focus (simp [AS.ev, AS.put]; done) | (with_reducible apply areg_pkF); focus (simp [AS.ev, AS.put]; done) | (with_reducible apply areg_op); focus (simp [push_cast]; exact rfl)))
    refine areg_nil (wp_ret' ?_)
    exact fin_tmp (by simp [RVal, AS.ev, AS.coe, AS.put, q8 n8]) (by simp)
  have h8 : a.who = b.who := Classical.not_not.1 n8
  refine areg_run 2 (by simp [push_cast, h8]; exact rfl) ?_
  refine areg_run 4 (by simp [push_cast, a5, a6, b5, b6]; exact rfl) ?_
  refine areg_g (by simp [AS.ev, AS.put]) (areg_lc (by simp [AS.ev, AS.lend, AS.lendF, AS.put, AOp.ro, AS.blk] <;> exact rfl) rfl cB ?_)
  by_cases n9 : a.boxes ≠ b.boxes
  · refine areg_end (by simp [push_cast, n9]; exact rfl) (wp_ret' ?_)
    exact fin_tmp (by simp [RVal, AS.ev, AS.coe, q9 n9]) (by simp)
  have h9 : a.boxes = b.boxes := Classical.not_not.1 n9
  have hab := op_ext h1 h2 h7 h3 h8 h4 h5 h6 h9
  refine areg_end (by simp [push_cast, h9]; exact rfl) (wp_ret' ?_)
  exact fin_tmp (by simp [RVal, AS.ev, AS.coe, hab]) (by simp)
end Go.Cab
namespace Go.Cab
open Go.RowKit
open Classical
attribute [local irreducible] AReg
theorem flatKs_len {ks : List (List UInt8)} (h : ∀ k ∈ ks, k.length = 32) : (ks.flatMap fun k => k).length = 32 * ks.length := by
  induction ks with
  | nil => simp
  | cons a l ih =>
    have h1 := h a (by simp)
    have h2 := ih fun k hk => h k (List.mem_cons_of_mem _ hk)
    simp only [List.flatMap_cons, List.length_append, List.length_cons]
    omega
theorem flatNs_len (l : List Nat) : (l.flatMap numB).length ≤ 5 * l.length := by
  induction l with
  | nil => simp
  | cons a l ih => have := (numB_len (n := a)).2; simp only [List.flatMap_cons, List.length_append, List.length_cons]; omega
theorem encRest_len {b : BoxV} (h : BoxW b) : (encRest (restOf b)).length ≤ 303 := by
  have h1 := (numB_len (n := b.n)).2
  have h2 := (numB_len (n := b.prev)).2
  have h3 := (numB_len (n := b.body.length)).2
  have h4 := h.pub
  have h5 := h.body
  simp only [encRest, restOf, List.length_append]
  omega
theorem flatBs_len {l : List BoxV} (h : ∀ b ∈ l, BoxW b) : (l.flatMap fun b => encRest (restOf b)).length ≤ 303 * l.length := by
  induction l with
  | nil => simp
  | cons a l ih =>
    have h1 := encRest_len (h a (by simp))
    have h2 := ih fun k hk => h k (List.mem_cons_of_mem _ hk)
    simp only [List.flatMap_cons, List.length_append, List.length_cons]
    omega
def wpt (w : Wr) : AV := .ptr w.b w.l 0 [0]
def opM (N : Nat) (w : Wr) (l3 : Nat × Nat) (t7 : AV) : List AV :=
  [.ptr w.b w.l 0 [], .any, .any, .ptr (N + 3) l3 0 [], .fnv (.func 25) [wpt w] [], .fnv (.func 49) [wpt w] [], .fnv (.func 50) [wpt w] [], t7]
def opM0 (N : Nat) (w : Wr) : List AV :=
  [.any, .any, .any, .any, .fnv (.func 25) [wpt w] [], .fnv (.func 49) [wpt w] [], .fnv (.func 50) [wpt w] [], .any]
def opL (l3 : Nat × Nat) (A : AV) : List (Option Blk) := [none, none, none, some (.box l3 71 A)]
def u32s (l : List Int) : List AV := (l.map Int.toNat).map fun n => .lit (wn n)
theorem u32s_snoc (l : List Int) (n : Int) : u32s (l ++ [n]) = u32s l ++ [.lit (wn n.toNat)] := by simp [u32s]
set_option maxRecDepth 20000 in
set_option maxHeartbeats 16000000 in
theorem opW_call {H : List (Option Blk)} {w : Wr} {V : Value} {bs : List UInt8} (hh : WrOk H w V bs) {o : OpV} (hW : OpW o) (hl : bs.length < 100) :
    XCall Go.Proofs.Tryd.prog 27 [.ptr w.b w.l 0 [], opA o] H fun r H' => r = .tup [] ∧ ∃ V', H' = wF H w (bs ++ encOp o) V' := by
  have h818 := fc818_eq
  refine XCall.le ?_
  have hself := hh.self
  have hc25 : callable Go.Proofs.Tryd.prog 25 = true := by kernel_rfl
  have hc49 : callable Go.Proofs.Tryd.prog 49 = true := by kernel_rfl
  have hc50 : callable Go.Proofs.Tryd.prog 50 = true := by kernel_rfl
  have hc28 : callable Go.Proofs.Tryd.prog 28 = true := by kernel_rfl
  have o5 := hW.ofk; have o6 := hW.check
  obtain ⟨k0, k1⟩ := hW.kind
  obtain ⟨a0, a1⟩ := hW.author
  obtain ⟨p1, p32⟩ := hW.parents
  obtain ⟨w1, wm⟩ := hW.who
  obtain ⟨b1, bm⟩ := hW.boxes
  have t1 := hW.text
  have sq := hW.seq
  have c1 := number_call' k0 (by omega)
  have c2 := number_call' a0 (by omega)
  have cN := numbers_gk hh (bs := bs) [o.kind.toNat, o.author.toNat, o.seq] (by simp; omega) (by simp; omega)
  have n1 := flatNs_len [o.kind.toNat, o.author.toNat, o.seq]
  obtain ⟨B1, hB1⟩ : ∃ B1, B1 = bs ++ [o.kind.toNat, o.author.toNat, o.seq].flatMap numB := ⟨_, rfl⟩
  have l1 : B1.length ≤ 115 := by rw [hB1, List.length_append]; simp only [List.length_cons, List.length_nil] at n1; omega
  rw [← hB1] at cN
  have cK := klistW_gk hh (bs := B1) o.parents p32 (by omega)
  have n2 := flatKs_len p32
  have n2' := (numB_len (n := o.parents.length)).2
  obtain ⟨B2, hB2⟩ : ∃ B2, B2 = B1 ++ (numB o.parents.length ++ o.parents.flatMap fun k => k) := ⟨_, rfl⟩
  have l2 : B2.length ≤ 400 := by rw [hB2, List.length_append, List.length_append]; omega
  rw [← hB2] at cK
  have hwlt : ∀ n ∈ o.who.map Int.toNat, n < 4294967296 := fun n hn => by
    obtain ⟨x, hx, rfl⟩ := List.mem_map.1 hn
    have := wm x hx
    unfold memN at this
    omega
  have cW := nlistW_gk hh (bs := B2) (o.who.map Int.toNat) hwlt (by simp; omega)
  have n3 := encNs_len (ns := o.who.map Int.toNat)
  obtain ⟨B3, hB3⟩ : ∃ B3, B3 = B2 ++ encNs (o.who.map Int.toNat) := ⟨_, rfl⟩
  have l3' : B3.length ≤ 500 := by rw [hB3, List.length_append]; rw [List.length_map] at n3; omega
  have e3 : B2 ++ (numB (o.who.map Int.toNat).length ++ (o.who.map Int.toNat).flatMap numB) = B3 := hB3.symm
  rw [e3] at cW
  have cKK := keysW_gk hh (bs := B3) [o.ofk, o.check] (by simp [o5, o6]) (by simp; omega)
  obtain ⟨B4, hB4⟩ : ∃ B4, B4 = B3 ++ [o.ofk, o.check].flatMap fun k => k := ⟨_, rfl⟩
  have l4 : B4.length ≤ 600 := by rw [hB4]; simp only [List.flatMap_cons, List.flatMap_nil, List.length_append, List.length_nil]; omega
  rw [← hB4] at cKK
  have n5 := (numB_len (n := o.text.length)).2
  obtain ⟨B5, hB5⟩ : ∃ B5, B5 = B4 ++ [o.text].flatMap encT := ⟨_, rfl⟩
  have l5 : B5.length ≤ 900 := by rw [hB5]; simp only [List.flatMap_cons, List.flatMap_nil, List.length_append, List.length_nil, encT]; omega
  have cT := texts_gk hh (bs := B4) [o.text] (by rw [← hB5]; omega)
  rw [← hB5] at cT
  obtain ⟨TO, hTO⟩ : ∃ TO : List Int, TO = o.boxes.map (fun b : BoxV => b.to) := ⟨_, rfl⟩
  have hTOl : TO.length = o.boxes.length := by rw [hTO, List.length_map]
  have hTOg : ∀ (i : Nat) (b : BoxV), o.boxes[i]? = some b → TO[i]? = some b.to := fun i b h => by rw [hTO, List.getElem?_map, h]; rfl
  have hblt : ∀ n ∈ TO.map Int.toNat, n < 4294967296 := fun n hn => by
    obtain ⟨x, hx, rfl⟩ := List.mem_map.1 hn
    rw [hTO] at hx
    obtain ⟨b, hb, rfl⟩ := List.mem_map.1 hx
    have := (bm b hb).to
    unfold memN at this
    omega
  have cB := nlistW_gk hh (bs := B5) (TO.map Int.toNat) hblt (by rw [List.length_map, hTOl]; omega)
  have n6 := encNs_len (ns := TO.map Int.toNat)
  obtain ⟨B6, hB6⟩ : ∃ B6, B6 = B5 ++ encNs (TO.map Int.toNat) := ⟨_, rfl⟩
  have l6 : B6.length ≤ 1000 := by rw [hB6, List.length_append]; simp only [List.length_map, hTOl] at n6; omega
  have e6 : B5 ++ (numB (TO.map Int.toNat).length ++ (TO.map Int.toNat).flatMap numB) = B6 := hB6.symm
  rw [e6] at cB
  have hall : bs ++ encOp o = B6 ++ o.boxes.flatMap fun b => encRest (restOf b) := by
    rw [hB6, hB5, hB4, hB3, hB2, hB1]
    simp [hTO, encOp, encBs, encKs, encT, List.append_assoc]
    rfl
  rw [hall]
  have hA1 : opA o = .st [1, 1, 1, 1, 1, 32, 32, 1, 1] [.lit (ji o.author), .lit (wn o.seq), .sl 32 (klA o.parents), .lit (ji o.kind), .sl 1 (o.who.map fun x => AV.lit (ji x)), keyA o.ofk, keyA o.check, .lit (tx o.text), .sl 36 (o.boxes.map fun x => boxA x)] := rfl
  have hTl : (o.who.map fun x => AV.lit (ji x)).length = o.who.length := List.length_map _
  have hTg : ∀ i a, o.who[i]? = some a → (o.who.map fun x => AV.lit (ji x))[i]? = some (AV.lit (ji a)) := fun i a h => by rw [List.getElem?_map, h]; rfl
  have hBl : (o.boxes.map fun x => boxA x).length = o.boxes.length := List.length_map _
  have hBg : ∀ i a, o.boxes[i]? = some a → (o.boxes.map fun x => boxA x)[i]? = some (boxA a) := fun i a h => by rw [List.getElem?_map, h]; rfl
  rw [hA1]
  generalize (o.who.map fun x => AV.lit (ji x)) = T at *
  generalize (o.boxes.map fun x => boxA x) = TB at *
  have G1 : ∀ i x, (wF H w i x).length = H.length := fun i x => wF_len i x
  refine XCall.of h818 rfl ?_; show AC.wp _ fb818 ⟨H.length, [.ptr w.b w.l 0 [], .st [1, 1, 1, 1, 1, 32, 32, 1, 1] [.lit (ji o.author), .lit (wn o.seq), .sl 32 (klA o.parents), .lit (ji o.kind), .sl 1 T, keyA o.ofk, keyA o.check, .lit (tx o.text), .sl 36 TB]] ++ List.replicate (120 - 2) .any, H ++ List.replicate 120 none⟩ (fun x s => match x with | .exit _ => False | _ => ∃ s1, Le s s1 ∧ FinX [] s1 _); unfold fb818
  have hst : ∀ L, H ++ L = wF H w bs V ++ L := fun L => by rw [hself]
  rw [hst]
  generalize hN : H.length = N at *
  have g1 : ∀ i y L k, (wF H w i y ++ L)[N + k]? = L[k]? := fun i y L k => cat1 N _ L k (G1 i y)
  have g2 : ∀ i y L k z, (wF H w i y ++ L).set (N + k) z = wF H w i y ++ L.set k z := fun i y L k z => cat2 N _ L k z (G1 i y)
  refine wp_sg (areg_bx rfl (by simp [AS.ev, AV.sz, keyA, bl_len, o5, o6]) fun l3 => areg_end (by simp [push_cast, g2]; exact rfl) ?_)
  refine wp_sg ?_
  refine areg_run 14 (by simp [push_cast]; exact rfl) ?_
  refine areg_end (by simp [push_cast]; exact rfl) ?_
  refine wp_sg ?_
  refine areg_run 3 (by simp [push_cast, g1, o5, o6]; exact rfl) ?_
  refine areg_cv (by simp [AS.ev, AS.coe, AS.put] <;> exact rfl) c1 ?_ (by intro p hp b V; simp at hp; subst hp; simp [AS.ev, AS.put])
  refine areg_run 2 (by simp [push_cast, g1, o5, o6]; exact rfl) ?_
  refine areg_cv (by simp [AS.ev, AS.coe, AS.put] <;> exact rfl) c2 ?_ (by first | trivial | (intro p hp b V; simp at hp; subst hp; simp [AS.ev, AS.put]))
  refine areg_run 3 (by simp [push_cast, g1, o5, o6]; exact rfl) ?_
  refine areg_gk [.fnv (.func 25) [.ptr w.b w.l 0 [0]] [], .sl 1 ([o.kind.toNat, o.author.toNat, o.seq].map fun n => .lit (wn n))] G1 (by simp [AS.ev, AS.put]) (tgt_val hc25 _ _) cN (by simp) (by simp) fun V1 => ?_
  refine areg_end (by simp [push_cast]; exact rfl) ?_
  refine wp_sg ?_
  refine areg_run 5 (by simp [push_cast, g1, o5, o6]; exact rfl) ?_
  refine areg_gk [.ptr w.b w.l 0 [0], .sl 32 (klA o.parents)] G1 (by simp [AS.ev, AS.put]) (tgt_dir hc28 _) cK (by simp) (by simp) fun V2 => ?_
  refine areg_end (by simp [push_cast]; exact rfl) ?_
  refine wp_sr (by simp [push_cast]; exact rfl) ?_
  obtain ⟨A, hA⟩ : ∃ A, A = AV.st [1, 1, 1, 1, 1, 32, 32, 1, 1] [.lit (ji o.author), .lit (wn o.seq), .sl 32 (klA o.parents), .lit (ji o.kind), .sl 1 T, keyA o.ofk, keyA o.check, .lit (tx o.text), .sl 36 TB] := ⟨_, rfl⟩
  refine wp_seqM (fun V3 : Value => ⟨N, opM N w l3 (.sl 1 (u32s o.who)) ++ List.replicate 112 .any, wF H w B2 V3 ++ (opL l3 A ++ List.replicate 116 none)⟩) (fun _ => True) (fun V3 _ => ?_) ?_
  · unfold opM opL wpt
    rw [hA]
    refine wp_sg ?_
    refine areg_run 4 (by simp [push_cast]; exact rfl) ?_
    refine areg_gi cW (by simp [AS.ev, AS.put, u32s]) fun V4 => ?_
    refine areg_end (by simp [push_cast]; exact rfl) ?_
    refine wp_sg ?_
    refine areg_run 5 (by simp [push_cast, g1, o5, o6]; exact rfl) ?_
    refine areg_bsl (k := 32) (els := klA [o.ofk, o.check]) (fill_ar rfl rfl rfl (by simp [AV.sz, AS.ev, AS.put, o5, bl_len]) (fill_ar rfl rfl rfl (by simp [AV.sz, AS.ev, AS.put, o6, bl_len]) rfl)) ?_
    refine areg_gk [.fnv (.func 49) [.ptr w.b w.l 0 [0]] [], .sl 32 (klA [o.ofk, o.check])] G1 (by simp [AS.ev, AS.put]) (tgt_val hc49 _ _) cKK (by simp) (by simp) fun V5 => ?_
    refine areg_end (by simp [push_cast]; exact rfl) ?_
    refine wp_sg ?_
    refine areg_run 4 (by simp [push_cast, g1, o5, o6]; exact rfl) ?_
    refine areg_gk [.fnv (.func 50) [.ptr w.b w.l 0 [0]] [], .sl 1 ([o.text].map fun t => .lit (tx t))] G1 (by simp [AS.ev, AS.put]) (tgt_val hc50 _ _) cT (by simp) (by simp) fun V6 => ?_
    refine areg_end (by simp [push_cast]; exact rfl) ?_
    refine wp_sr (by simp [push_cast]; exact rfl) ?_
    obtain ⟨A, hA⟩ : ∃ A, A = AV.st [1, 1, 1, 1, 1, 32, 32, 1, 1] [.lit (ji o.author), .lit (wn o.seq), .sl 32 (klA o.parents), .lit (ji o.kind), .sl 1 T, keyA o.ofk, keyA o.check, .lit (tx o.text), .sl 36 TB] := ⟨_, rfl⟩
    refine wp_seqM (fun V3 : Value => ⟨N, opM N w l3 (.sl 1 (u32s TO)) ++ List.replicate 112 .any, wF H w B5 V3 ++ (opL l3 A ++ List.replicate 116 none)⟩) (fun _ => True) (fun V3 _ => ?_) ?_
    · unfold opM opL wpt
      rw [hA]
      refine wp_sg ?_
      refine areg_run 4 (by simp [push_cast]; exact rfl) ?_
      refine areg_gi cB (by simp [AS.ev, AS.put, u32s]) fun V4 => ?_
      refine areg_end (by simp [push_cast]; exact rfl) ?_
      refine wp_seq' (wp_r (by simp [push_cast, g1, o5, o6, hBl]; exact rfl) ?_)
      refine wp_block' (wp_loop_m (fun x : Nat × Value => ⟨N, opM0 N w ++ (List.replicate 85 .any ++ ([.sl 36 TB, .lit (jn o.boxes.length), .lit (jn x.1)] ++ List.replicate 24 .any)), wF H w (B6 ++ (o.boxes.take x.1).flatMap fun b => encRest (restOf b)) x.2 ++ List.replicate 120 none⟩) (fun x => o.boxes.length - x.1) (fun x => x.1 ≤ o.boxes.length) (0, V4) ?_ (by simp) ?_)
      · simp only [List.take_zero, List.flatMap_nil, List.append_nil]
        exact Le.cat (by simp [opM0, wpt, leT]) (by simp [leH])
      rintro ⟨i, V7⟩ hi
      simp only at hi ⊢
      by_cases hlt : i < o.boxes.length
      · obtain ⟨b, hn⟩ : ∃ n, o.boxes[i]? = some n := ⟨_, List.getElem?_eq_getElem hlt⟩
        have hbm := bm b (List.mem_of_getElem? hn)
        have hbp := hbm.pub
        have e1 := hBg i b hn
        have e2 : ∀ h, TB[i]'h = boxA b := fun h => by rw [List.getElem?_eq_getElem h] at e1; exact Option.some.inj e1
        have q1 : i + 1 < 9223372036854775808 := by omega
        have hfl := flatBs_len (l := o.boxes.take i) (fun b hb => bm b (List.mem_of_mem_take hb))
        rw [List.length_take] at hfl
        have htk : ((o.boxes.take (i + 1)).flatMap fun b => encRest (restOf b)) = ((o.boxes.take i).flatMap fun b => encRest (restOf b)) ++ encRest (restOf b) := by rw [List.take_add_one, hn]; simp
        have hC : (B6 ++ (o.boxes.take i).flatMap fun b => encRest (restOf b)).length ≤ 4000 := by rw [List.length_append]; omega
        generalize hCe : (B6 ++ (o.boxes.take i).flatMap fun b => encRest (restOf b)) = C at *
        have d1 := keysW_gk hh (bs := C) [b.pub] (by simp [hbp]) (by simp; omega)
        obtain ⟨C1, hC1⟩ : ∃ C1, C1 = C ++ [b.pub].flatMap fun k => k := ⟨_, rfl⟩
        rw [← hC1] at d1
        have c1l : C1.length ≤ 4032 := by rw [hC1]; simp [hbp]; omega
        have d2 := numbers_gk hh (bs := C1) [b.n, b.prev] (by have := hbm.n; have := hbm.prev; simp; omega) (by simp; omega)
        have m2 := flatNs_len [b.n, b.prev]
        obtain ⟨C2, hC2⟩ : ∃ C2, C2 = C1 ++ [b.n, b.prev].flatMap numB := ⟨_, rfl⟩
        rw [← hC2] at d2
        have c2l : C2.length ≤ 4042 := by rw [hC2, List.length_append]; simp only [List.length_cons, List.length_nil] at m2; omega
        have m3 := (numB_len (n := b.body.length)).2
        have m4 := hbm.body
        have d3 := texts_gk hh (bs := C2) [b.body] (by
          simp only [List.length_append, List.flatMap_cons, List.flatMap_nil, List.length_nil, encT]
          omega)
        have hCn : C2 ++ [b.body].flatMap encT = C ++ encRest (restOf b) := by rw [hC2, hC1]; simp [encRest, restOf, encT, List.append_assoc]
        rw [hCn] at d3
        unfold opM0 wpt
        unfold boxA at e1 e2
        refine wp_seq' (wp_r (by simp [push_cast, hlt]; exact rfl) ?_)
        refine wp_seq' (wp_cond_t (by simp [AS.ev]) (wp_skip' ?_))
        refine wp_seq' (wp_block' (wp_sg ?_))
        refine areg_run 2 (by simp [push_cast, hBl, hlt, e1, e2, hbp]; exact rfl) ?_
        refine areg_al' (z' := .st [1, 34, 1] [.lit (jn 0), .st [32, 1, 1] [keyA zk, .lit (wn 0), .lit (wn 0)], .lit (tx [])]) rfl fun l13 => areg_end (by simp [push_cast, g1, g2, hbp, zk_len]; exact rfl) ?_
        refine wp_sg ?_
        refine areg_run 4 (by simp [push_cast, g1, hbp]; exact rfl) ?_
        refine areg_bsl (k := 32) (els := klA [b.pub]) (fill_ar rfl rfl rfl (by simp [AV.sz, AS.ev, AS.put, hbp, bl_len]) rfl) ?_
        refine areg_gk [.fnv (.func 49) [.ptr w.b w.l 0 [0]] [], .sl 32 (klA [b.pub])] G1 (by simp [AS.ev, AS.put]) (tgt_val hc49 _ _) d1 (by simp) (by simp) fun V5 => ?_
        refine areg_end (by simp [push_cast]; exact rfl) ?_
        refine wp_sg ?_
        refine areg_run 8 (by simp [push_cast, g1, hbp]; exact rfl) ?_
        refine areg_gk [.fnv (.func 25) [.ptr w.b w.l 0 [0]] [], .sl 1 ([b.n, b.prev].map fun n => .lit (wn n))] G1 (by simp [AS.ev, AS.put]) (tgt_val hc25 _ _) d2 (by simp) (by simp) fun V6 => ?_
        refine areg_end (by simp [push_cast]; exact rfl) ?_
        refine wp_rg ?_
        refine areg_run 4 (by simp [push_cast, g1, hbp]; exact rfl) ?_
        refine areg_gk [.fnv (.func 50) [.ptr w.b w.l 0 [0]] [], .sl 1 ([b.body].map fun t => .lit (tx t))] G1 (by simp [AS.ev, AS.put]) (tgt_val hc50 _ _) d3 (by simp) (by simp) fun V8 => ?_
        refine areg_end (by simp [push_cast]; exact rfl) ?_
        refine wp_r (by simp [push_cast, q1]; exact rfl) ?_
        exact ⟨(i + 1, V8), by simp only; omega, by simp only; omega, by simp only [htk, ← List.append_assoc, hCe]; exact Le.cat (by simp [leT, wpt]) (by simp [leH, keyA])⟩
      · have : i = o.boxes.length := by omega
        subst this
        unfold opM0
        refine wp_seq' (wp_r (by simp [push_cast]; exact rfl) ?_)
        refine wp_seq' (wp_cond_f (by simp [AS.ev]) (wp_exit' (if_hit rfl ?_)))
        exact ⟨_, Le.refl _, [], .tup [], ⟨[], rfl, rfl, by simp⟩, .tup [], _, RelLe.refl _, by simp, HpLe.trim _ _, rfl, V7, rfl⟩
    refine wp_seq' (wp_r (by simp [push_cast, g1, o5, o6, hBl]; exact rfl) ?_)
    refine wp_block' (wp_loop_m (fun x : Nat × Value => ⟨N, opM N w l3 (.own (N + 85) x.2) ++ (List.replicate 66 .any ++ ([.sl 36 TB, .lit (jn o.boxes.length), .lit (jn x.1)] ++ List.replicate 43 .any)), wF H w B5 V6 ++ (opL l3 A ++ (List.replicate 81 none ++ ([some (.row 22 x.2 1 (u32s (TO.take x.1)) 0)] ++ List.replicate 34 none)))⟩) (fun x => o.boxes.length - x.1) (fun x => x.1 ≤ o.boxes.length) (0, .slice none 0 0) ?_ (by simp) ?_)
    · refine Le.trans (Le.nilRow (t := 7) (b := N + 85) rfl (by simp only [AS.blk, g1]; rfl) 22 1) ?_
      simp only [g2]
      exact Le.cat (by simp [opM, wpt, leT]) (by simp [opL, hA, leH, keyA, u32s])
    rintro ⟨i, V7⟩ hi
    simp only at hi ⊢
    by_cases hlt : i < o.boxes.length
    · obtain ⟨b, hn⟩ : ∃ n, o.boxes[i]? = some n := ⟨_, List.getElem?_eq_getElem hlt⟩
      have hbm := bm b (List.mem_of_getElem? hn)
      have hm := hbm.to
      unfold memN at hm
      have hbp := hbm.pub
      have e1 := hBg i b hn
      have e2 : ∀ h, TB[i]'h = boxA b := fun h => by rw [List.getElem?_eq_getElem h] at e1; exact Option.some.inj e1
      have cn := number_call' hm.1 (by omega)
      have q1 : i + 1 < 9223372036854775808 := by omega
      have hul : (u32s (TO.take i)).length ≤ 8 := by simp [u32s, hTOl]; omega
      have hsn : u32s (TO.take (i + 1)) = u32s (TO.take i) ++ [.lit (wn b.to.toNat)] := by rw [List.take_add_one, hTOg i b hn]; exact u32s_snoc _ _
      unfold opM opL
      rw [hA]
      unfold boxA at e1 e2
      refine wp_seq' (wp_r (by simp [push_cast, hlt]; exact rfl) ?_)
      refine wp_seq' (wp_cond_t (by simp [AS.ev]) (wp_skip' ?_))
      refine wp_seq' (wp_block' (wp_seq' ?_))
      refine wp_rg ?_
      refine areg_run 2 (by simp [push_cast, hBl, hlt, e1, e2, hbp]; exact rfl) ?_
      refine areg_al' (z' := .st [1, 34, 1] [.lit (jn 0), .st [32, 1, 1] [keyA zk, .lit (wn 0), .lit (wn 0)], .lit (tx [])]) rfl fun l11 => areg_end (by simp [push_cast, g1, g2, hbp, zk_len]; exact rfl) ?_
      refine wp_rg ?_
      refine areg_run 3 (by simp [push_cast, g1, hbp]; exact rfl) ?_
      refine areg_ca (by simp [AS.ev, AS.coe, AS.put] <;> exact rfl) cn ?_
      refine areg_run 1 (by simp [push_cast]; exact rfl) ?_
      refine areg_ap (b := N + 85) (V := V7) (ys := [.lit (wn b.to.toNat)]) rfl (by simp only [AS.blk, g1]; rfl) (by simp [AS.ev, AS.coe]) (by simp [maxLen]; omega) (by simp; omega) (fun V8 => ?_) (by intro t' ht' b hb; cases ht')
      rw [← hsn]
      refine areg_end (by simp [push_cast, g2]; exact rfl) ?_
      refine wp_r (by simp [push_cast, q1]; exact rfl) ?_
      exact ⟨(i + 1, V8), by simp only; omega, by simp only; omega, Le.cat (by simp [leT, wpt]) (by simp [leH, keyA])⟩
    · have : i = o.boxes.length := by omega
      subst this
      unfold opM opL
      refine wp_seq' (wp_r (by simp [push_cast]; exact rfl) ?_)
      refine wp_seq' (wp_cond_f (by simp [AS.ev]) (wp_exit' (if_hit rfl ?_)))
      rw [List.take_of_length_le (by omega)]
      refine ⟨V6, trivial, Le.trans (Le.sealed (t := 7) (b := N + 85) (V := V7) (els := u32s TO) rfl (by simp only [AS.blk, g1]; rfl)) ?_⟩
      simp only [g2]
      exact Le.cat (by simp [leT, wpt]) (by simp [leH])
  refine wp_seq' (wp_r (by simp [push_cast, g1, o5, o6, hTl]; exact rfl) ?_)
  refine wp_block' (wp_loop_m (fun x : Nat × Value => ⟨N, opM N w l3 (.own (N + 54) x.2) ++ (List.replicate 36 .any ++ ([.sl 1 T, .lit (jn o.who.length), .lit (jn x.1)] ++ List.replicate 73 .any)), wF H w B2 V2 ++ (opL l3 A ++ (List.replicate 50 none ++ ([some (.row 22 x.2 1 (u32s (o.who.take x.1)) 0)] ++ List.replicate 65 none)))⟩) (fun x => o.who.length - x.1) (fun x => x.1 ≤ o.who.length) (0, .slice none 0 0) ?_ (by simp) ?_)
  · refine Le.trans (Le.nilRow (t := 7) (b := N + 54) rfl (by simp only [AS.blk, g1]; rfl) 22 1) ?_
    simp only [g2]
    exact Le.cat (by simp [opM, wpt, leT]) (by simp [opL, hA, leH, keyA, u32s])
  rintro ⟨i, V7⟩ hi
  simp only at hi ⊢
  by_cases hlt : i < o.who.length
  · obtain ⟨n, hn⟩ : ∃ n, o.who[i]? = some n := ⟨_, List.getElem?_eq_getElem hlt⟩
    have hm := wm n (List.mem_of_getElem? hn)
    unfold memN at hm
    have e1 := hTg i n hn
    have e2 : ∀ h, T[i]'h = .lit (ji n) := fun h => by rw [List.getElem?_eq_getElem h] at e1; exact Option.some.inj e1
    have cn := number_call' hm.1 (by omega)
    have q1 : i + 1 < 9223372036854775808 := by omega
    have hul : (u32s (o.who.take i)).length ≤ 8 := by simp [u32s]; omega
    have hsn : u32s (o.who.take (i + 1)) = u32s (o.who.take i) ++ [.lit (wn n.toNat)] := by rw [List.take_add_one, hn]; exact u32s_snoc _ _
    unfold opM opL
    rw [hA]
    refine wp_seq' (wp_r (by simp [push_cast, hlt]; exact rfl) ?_)
    refine wp_seq' (wp_cond_t (by simp [AS.ev]) (wp_skip' ?_))
    refine wp_seq' (wp_block' (wp_seq' (wp_r (by simp [push_cast, hTl, hlt, e1, e2]; exact rfl) ?_)))
    refine wp_rg ?_
    refine areg_run 2 (by simp [push_cast]; exact rfl) ?_
    refine areg_ca (by simp [AS.ev, AS.coe, AS.put] <;> exact rfl) cn ?_
    refine areg_run 1 (by simp [push_cast]; exact rfl) ?_
    refine areg_ap (b := N + 54) (V := V7) (ys := [.lit (wn n.toNat)]) rfl (by simp only [AS.blk, g1]; rfl) (by simp [AS.ev, AS.coe]) (by simp [maxLen]; omega) (by simp; omega) (fun V8 => ?_) (by intro t' ht' b hb; cases ht')
    rw [← hsn]
    refine areg_end (by simp [push_cast, g2]; exact rfl) ?_
    refine wp_r (by simp [push_cast, q1]; exact rfl) ?_
    exact ⟨(i + 1, V8), by simp only; omega, by simp only; omega, Le.cat (by simp [leT, wpt]) (by simp [leH, keyA])⟩
  · have : i = o.who.length := by omega
    subst this
    unfold opM opL
    refine wp_seq' (wp_r (by simp [push_cast]; exact rfl) ?_)
    refine wp_seq' (wp_cond_f (by simp [AS.ev]) (wp_exit' (if_hit rfl ?_)))
    refine ⟨V2, trivial, Le.trans (Le.sealed (t := 7) (b := N + 54) (V := V7) (els := u32s o.who) rfl (by simp only [AS.blk, g1]; rfl)) ?_⟩
    simp only [g2]
    exact Le.cat (by simp [leT, wpt]) (by simp [leH])
end Go.Cab
namespace Go.Cab
open Go.RowKit
open Classical
attribute [local irreducible] AReg
def z0A : AV := .st [1, 1, 1, 1, 1, 32, 32, 1, 1] [.lit (jn 0), .lit (wn 0), .lit (.slice none 0 0), .lit (jn 0), .lit (.slice none 0 0), keyA zk, keyA zk, .lit (tx []), .lit (.slice none 0 0)]
theorem z0_le : AVle z0A (opA op0) :=
  AVle.st1 (AVle.refl _) (AVle.st1 (AVle.refl _) (AVle.st1 (AVle.nilS 32) (AVle.st1 (AVle.refl _) (AVle.st1 (AVle.nilS 1) (AVle.st1 (AVle.refl _) (AVle.st1 (AVle.refl _) (AVle.st1 (AVle.refl _) (AVle.st1 (AVle.nilS 36) AVle.st0))))))))
theorem op0_l : OpL op0 := ⟨by simp [op0], by simp [op0], by simp [op0], by simp [op0], zk_len, zk_len⟩
theorem same0 {o : OpV} (ho : OpL o) : PCall Go.Proofs.Tryd.prog 35 [opA o, opA op0] (.val (.lit (.bool (decide (o = op0))))) := by
  by_cases hb : o.boxes = []
  · exact sameO_call ho op0_l (.inl hb) (by rw [hb]; simp)
  · have : o.boxes.length ≠ op0.boxes.length := fun h => hb (List.eq_nil_of_length_eq_zero h)
    exact sameO_call ho op0_l (.inr this) (fun _ _ => .inr this)
set_option maxHeartbeats 4000000 in
theorem empty_call {o : OpV} (ho : OpL o) : PCall Go.Proofs.Tryd.prog 48 [opA o] (.val (.lit (.bool (decide (o = op0))))) := by
  have h814 := fc814_eq
  have c := PCall.args (l := [opA o, z0A]) (m := [opA o, opA op0]) ⟨RelLe.refl _, RelLe.st z0_le, trivial⟩ (same0 ho)
  have o5 := ho.ofk; have o6 := ho.check
  have hA : opA o = .st [1, 1, 1, 1, 1, 32, 32, 1, 1] [.lit (ji o.author), .lit (wn o.seq), .sl 32 (klA o.parents), .lit (ji o.kind), .sl 1 (o.who.map fun x => AV.lit (ji x)), keyA o.ofk, keyA o.check, .lit (tx o.text), .sl 36 (o.boxes.map fun x => boxA x)] := rfl
  rw [hA] at c ⊢
  generalize (o.who.map fun x => AV.lit (ji x)) = T at *
  generalize (o.boxes.map fun x => boxA x) = TB at *
  refine PCall.of h814 rfl ?_; show AC.wp _ fb814 (AS.init [.st [1, 1, 1, 1, 1, 32, 32, 1, 1] [.lit (ji o.author), .lit (wn o.seq), .sl 32 (klA o.parents), .lit (ji o.kind), .sl 1 T, keyA o.ofk, keyA o.check, .lit (tx o.text), .sl 36 TB]] 1 6) (fun x s => match x with | .exit _ => False | _ => Fin [(.tmp 2)] s _); unfold fb814 AS.init
  refine wp_sg (areg_bx rfl (by simp [AS.ev, AV.sz, keyA, bl_len, o5, o6]) fun l1 => areg_end (by simp [push_cast]; exact rfl) ?_)
  refine wp_sg ?_
  refine areg_run 1 (by simp [push_cast, o5, o6]; exact rfl) ?_
  refine areg_bd (z' := z0A) rfl ?_
  refine areg_ca (by simp [AS.ev, AS.coe, AS.put, keyA] <;> exact rfl) c ?_
  refine areg_end (by simp [push_cast]; exact rfl) (wp_ret' ?_)
  exact fin_tmp (by simp [RVal, AS.ev, AS.coe]) (by simp)
def frameA (f : FrameV) : AV := .st [1, 1, 71, 1] [.lit (ji f.kind), .lit (ji f.from_), opA f.op, .sl 32 (klA f.ids)]
theorem opA_sz {o : OpV} : (opA o).sz = 71 := by simp [opA, AV.sz]
theorem opA_agg {o : OpV} : (opA o).isAgg = true := rfl
theorem opA_tup {o : OpV} : (opA o).isTup = false := rfl
structure FrL (f : FrameV) : Prop where
  op : OpL f.op
  ids : ∀ k ∈ f.ids, k.length = 32
  il : f.ids.length < 9223372036854775807
theorem frame_ext {a b : FrameV} (h1 : a.kind = b.kind) (h2 : a.from_ = b.from_) (h3 : a.op = b.op) (h4 : a.ids = b.ids) : a = b := by
  cases a; cases b; simp only at *; subst h1 h2 h3 h4; rfl
set_option maxHeartbeats 8000000 in
theorem sameF_call {a b : FrameV} (ha : FrL a) (hb : FrL b) (hx : a.op.boxes = b.op.boxes ∨ a.op.boxes.length ≠ b.op.boxes.length) (hW : ∀ x ∈ a.op.boxes, BoxW x ∨ a.op.boxes.length ≠ b.op.boxes.length) :
    PCall Go.Proofs.Tryd.prog 13 [frameA a, frameA b] (.val (.lit (.bool (decide (a = b))))) := by
  have h816 := fc816_eq
  have cO := sameO_call ha.op hb.op hx hW
  have cK := eqKeys_call a.ids b.ids ha.ids hb.ids ha.il
  have q1 : a.kind ≠ b.kind → a ≠ b := fun h e => h (by rw [e])
  have q2 : a.from_ ≠ b.from_ → a ≠ b := fun h e => h (by rw [e])
  have q3 : a.op ≠ b.op → a ≠ b := fun h e => h (by rw [e])
  have q4 : a.ids ≠ b.ids → a ≠ b := fun h e => h (by rw [e])
  have a5 := ha.op.ofk; have a6 := ha.op.check; have b5 := hb.op.ofk; have b6 := hb.op.check
  unfold frameA
  have e1 : (a.ids.map fun x => keyA x) = klA a.ids := rfl
  have e2 : (b.ids.map fun x => keyA x) = klA b.ids := rfl
  rw [e1, e2] at cK
  have eA : opA a.op = AV.st [1, 1, 1, 1, 1, 32, 32, 1, 1] [.lit (ji a.op.author), .lit (wn a.op.seq), .sl 32 (klA a.op.parents), .lit (ji a.op.kind), .sl 1 (a.op.who.map fun x => AV.lit (ji x)), keyA a.op.ofk, keyA a.op.check, .lit (tx a.op.text), .sl 36 (a.op.boxes.map fun x => boxA x)] := rfl
  have eB : opA b.op = AV.st [1, 1, 1, 1, 1, 32, 32, 1, 1] [.lit (ji b.op.author), .lit (wn b.op.seq), .sl 32 (klA b.op.parents), .lit (ji b.op.kind), .sl 1 (b.op.who.map fun x => AV.lit (ji x)), keyA b.op.ofk, keyA b.op.check, .lit (tx b.op.text), .sl 36 (b.op.boxes.map fun x => boxA x)] := rfl
  rw [eA, eB] at cO ⊢
  generalize klA a.ids = I1 at *
  generalize klA b.ids = I2 at *
  generalize klA a.op.parents = Pa at *
  generalize (a.op.who.map fun x => AV.lit (ji x)) = Wa at *
  generalize (a.op.boxes.map fun x => boxA x) = Xa at *
  generalize klA b.op.parents = Pb at *
  generalize (b.op.who.map fun x => AV.lit (ji x)) = Wb at *
  generalize (b.op.boxes.map fun x => boxA x) = Xb at *
  refine PCall.of h816 rfl ?_; show AC.wp _ fb816 (AS.init [.st [1, 1, 71, 1] [.lit (ji a.kind), .lit (ji a.from_), .st [1, 1, 1, 1, 1, 32, 32, 1, 1] [.lit (ji a.op.author), .lit (wn a.op.seq), .sl 32 Pa, .lit (ji a.op.kind), .sl 1 Wa, keyA a.op.ofk, keyA a.op.check, .lit (tx a.op.text), .sl 36 Xa], .sl 32 I1], .st [1, 1, 71, 1] [.lit (ji b.kind), .lit (ji b.from_), .st [1, 1, 1, 1, 1, 32, 32, 1, 1] [.lit (ji b.op.author), .lit (wn b.op.seq), .sl 32 Pb, .lit (ji b.op.kind), .sl 1 Wb, keyA b.op.ofk, keyA b.op.check, .lit (tx b.op.text), .sl 36 Xb], .sl 32 I2]] 2 31) (fun x s => match x with | .exit _ => False | _ => Fin [(.tmp 4)] s _); unfold fb816 AS.init
  refine wp_sg (areg_bx rfl (by simp [AS.ev, AV.sz]) fun l2 => areg_bx rfl (by simp [AS.ev, AS.put, AV.sz]) fun l3 => areg_end (by simp [push_cast]; exact rfl) ?_)
  refine wp_sg ?_
  by_cases n1 : a.kind ≠ b.kind
  · refine areg_run 6 (by simp [push_cast, bin_eqlii, n1, a5, a6, b5, b6]; exact rfl) ?_
    refine areg_ng (by simp [AS.ev, AS.put]) (?_)
    (repeat (first | (with_reducible apply areg_ng); focus (simp [AS.ev, AS.put]; done) | (with_reducible apply areg_nt); focus (simp [AS.ev, AS.put]; done) | (with_reducible apply areg_g); focus (simp [AS.ev, AS.put]; done) | with_reducible apply areg_mv | (with_reducible apply areg_pkT); focus (simp [AS.ev, AS.put]; done) | (with_reducible apply areg_pkF); focus (simp [AS.ev, AS.put]; done) | (with_reducible apply areg_op); focus (simp [push_cast]; exact rfl)))
    refine areg_nil (wp_ret' ?_)
    exact fin_tmp (by simp [RVal, AS.ev, AS.coe, AS.put, q1 n1]) (by simp)
  have h1 : a.kind = b.kind := Classical.not_not.1 n1
  refine areg_run 6 (by simp [push_cast, bin_eqlii, h1, a5, a6, b5, b6]; exact rfl) ?_
  by_cases n2 : a.from_ ≠ b.from_
  · refine areg_run 7 (by simp [push_cast, bin_eqlii, n2, a5, a6, b5, b6]; exact rfl) ?_
    refine areg_ng (by simp [AS.ev, AS.put]) (?_)
    (repeat (first | (with_reducible apply areg_ng); focus (simp [AS.ev, AS.put]; done) | (with_reducible apply areg_nt); focus (simp [AS.ev, AS.put]; done) | (with_reducible apply areg_g); focus (simp [AS.ev, AS.put]; done) | with_reducible apply areg_mv | (with_reducible apply areg_pkT); focus (simp [AS.ev, AS.put]; done) | (with_reducible apply areg_pkF); focus (simp [AS.ev, AS.put]; done) | (with_reducible apply areg_op); focus (simp [push_cast]; exact rfl)))
    refine areg_nil (wp_ret' ?_)
    exact fin_tmp (by simp [RVal, AS.ev, AS.coe, AS.put, q2 n2]) (by simp)
  have h2 : a.from_ = b.from_ := Classical.not_not.1 n2
  refine areg_run 7 (by simp [push_cast, bin_eqlii, h2, a5, a6, b5, b6]; exact rfl) ?_
  refine areg_run 4 (by simp [push_cast, a5, a6, b5, b6]; exact rfl) ?_
  refine areg_g (by simp [AS.ev, AS.put]) (areg_ca (by simp [AS.ev, AS.coe, AS.put, keyA] <;> exact rfl) cO ?_)
  by_cases n3 : a.op ≠ b.op
  · refine areg_run 2 (by simp [push_cast, n3]; exact rfl) ?_
    refine areg_ng (by simp [AS.ev, AS.put]) (?_)
    (repeat (first | (with_reducible apply areg_ng); focus (simp [AS.ev, AS.put]; done) | (with_reducible apply areg_nt); focus (simp [AS.ev, AS.put]; done) | (with_reducible apply areg_g); focus (simp [AS.ev, AS.put]; done) | with_reducible apply areg_mv | (with_reducible apply areg_pkT); focus (simp [AS.ev, AS.put]; done) | (with_reducible apply areg_pkF); focus (simp [AS.ev, AS.put]; done) | (with_reducible apply areg_op); focus (simp [push_cast]; exact rfl)))
    refine areg_nil (wp_ret' ?_)
    exact fin_tmp (by simp [RVal, AS.ev, AS.coe, AS.put, q3 n3]) (by simp)
  have h3 : a.op = b.op := Classical.not_not.1 n3
  refine areg_run 2 (by simp [push_cast, h3]; exact rfl) ?_
  refine areg_run 4 (by simp [push_cast, a5, a6, b5, b6]; exact rfl) ?_
  refine areg_g (by simp [AS.ev, AS.put]) (areg_lc (by simp [AS.ev, AS.lend, AS.lendF, AS.put, AOp.ro, AS.blk] <;> exact rfl) rfl cK ?_)
  by_cases n4 : a.ids ≠ b.ids
  · refine areg_end (by simp [push_cast, n4]; exact rfl) (wp_ret' ?_)
    exact fin_tmp (by simp [RVal, AS.ev, AS.coe, q4 n4]) (by simp)
  have h4 : a.ids = b.ids := Classical.not_not.1 n4
  have hab := frame_ext h1 h2 h3 h4
  refine areg_end (by simp [push_cast, h4]; exact rfl) (wp_ret' ?_)
  exact fin_tmp (by simp [RVal, AS.ev, AS.coe, hab]) (by simp)
end Go.Cab
namespace Go.Cab
open Go.RowKit
open Classical
def fb820 : AC := (.seq (.reg [⟨some 1, none, .box 1 (.tmp 0), [], none⟩, ⟨some 2, none, .alloc 71 (.st [1, 1, 1, 1, 1, 32, 32, 1, 1] [(.lit (jn 0)), (.lit (wn 0)), (.lit (.slice .none 0 0)), (.lit (jn 0)), (.lit (.slice .none 0 0)), (.arr 1 (List.replicate 32 (.lit (bn 0)))), (.arr 1 (List.replicate 32 (.lit (bn 0)))), (.lit (tx [])), (.lit (.slice .none 0 0))]), [], none⟩]) (.seq (.reg [⟨some 9, none, .load true 1 (.tmp 1), [3], (.some 1)⟩, ⟨some 10, none, .xc (.dir 31) [.tmp 9] [1, 1] [3], [], none⟩, ⟨some 11, none, .load true 1 (.tmp 1), [3], (.some 1)⟩, ⟨some 12, none, .xc (.dir 31) [.tmp 11] [1] [3], [], none⟩, ⟨some 13, none, .faddr 0 0 (.tmp 1), [], none⟩, ⟨some 14, none, .load false 1 (.tmp 13), [3], (.some 1)⟩, ⟨some 15, none, .xc (.dir 52) [.tmp 14] [] [3], [], none⟩, ⟨some 16, none, .build (.st [1, 1, 1, 1, 1, 32, 32, 1, 1] [(.lit (jn 0)), (.lit (wn 0)), (.lit (.slice .none 0 0)), (.lit (jn 0)), (.lit (.slice .none 0 0)), (.arr 1 (List.replicate 32 (.lit (bn 0)))), (.arr 1 (List.replicate 32 (.lit (bn 0)))), (.lit (tx [])), (.lit (.slice .none 0 0))]) [(3, (.tmp 10)), (0, (.tmp 12)), (1, (.tmp 15))], [], none⟩, ⟨some 3, none, .alloc 71 (.st [1, 1, 1, 1, 1, 32, 32, 1, 1] [(.lit (jn 0)), (.lit (wn 0)), (.lit (.slice .none 0 0)), (.lit (jn 0)), (.lit (.slice .none 0 0)), (.arr 1 (List.replicate 32 (.lit (bn 0)))), (.arr 1 (List.replicate 32 (.lit (bn 0)))), (.lit (tx [])), (.lit (.slice .none 0 0))]), [], none⟩, ⟨none, none, .store 71 (.tmp 3) (.tmp 16), [], none⟩]) (.seq (.reg [⟨some 17, none, .faddr 0 0 (.tmp 1), [], none⟩, ⟨some 18, none, .load false 1 (.tmp 17), [], none⟩, ⟨some 19, none, .icall 33 (.tmp 18) [(.const (jn 8))], [], none⟩, ⟨some 20, none, .faddr 2 2 (.tmp 3), [], none⟩, ⟨none, none, .store 1 (.tmp 20) (.tmp 19), [], none⟩]) (.seq (.seq (.reg [⟨some 21, none, .faddr 0 0 (.tmp 1), [], none⟩, ⟨some 22, none, .load false 1 (.tmp 21), [], none⟩, ⟨some 23, none, .icall 53 (.tmp 22) [(.const (jn 8))], [], none⟩, ⟨some 24, none, .len false (.tmp 23), [], none⟩, ⟨some 25, none, .mov (.const (jn 0)), [], none⟩]) (.block 0 (.loop (.seq (.reg [⟨some 26, none, .bin .lss (.tmp 25) (.tmp 24), [], none⟩]) (.seq (.cond (.tmp 26) .skip (.exit 0)) (.seq (.block 1 (.seq (.reg [⟨some 27, none, .iaddrS 1 (.tmp 23) (.tmp 25), [], none⟩, ⟨some 28, none, .load false 1 (.tmp 27), [], none⟩, ⟨some 5, none, .mov (.tmp 28), [], none⟩]) (.reg [⟨some 29, none, .faddr 4 4 (.tmp 3), [], none⟩, ⟨some 30, none, .load false 1 (.tmp 29), [], none⟩, ⟨some 31, none, .mov (.tmp 5), [], none⟩, ⟨some 32, none, .prim .imin [(.tmp 31), (.const (wn 1073741824))], [], none⟩, ⟨some 33, none, .cvt .i64 (.tmp 32), [], none⟩, ⟨some 34, none, .bslice 1 (.lit (jn 0)) 1 [(0, (.tmp 33))], [], none⟩, ⟨some 35, none, .append 3 1 8 (.tmp 30) (.tmp 34), [], none⟩, ⟨some 36, none, .faddr 4 4 (.tmp 3), [], none⟩, ⟨none, none, .store 1 (.tmp 36) (.tmp 35), [], none⟩]))) (.reg [⟨some 37, none, .bin .add (.tmp 25) (.const (jn 1)), [], none⟩, ⟨some 25, none, .mov (.tmp 37), [], none⟩]))))))) (.seq (.reg [⟨some 38, none, .faddr 0 0 (.tmp 1), [], none⟩, ⟨some 39, none, .load false 1 (.tmp 38), [], (.some 1)⟩, ⟨some 40, none, .xc (.dir 54) [.tmp 39] [1] [], [], none⟩, ⟨some 41, none, .faddr 0 0 (.tmp 1), [], none⟩, ⟨some 42, none, .load false 1 (.tmp 41), [3], (.some 1)⟩, ⟨some 43, none, .xc (.dir 54) [.tmp 42] [] [], [], none⟩, ⟨some 44, none, .faddr 5 5 (.tmp 3), [], none⟩, ⟨none, none, .store 32 (.tmp 44) (.tmp 40), [], (.some 3)⟩, ⟨some 45, none, .faddr 37 6 (.tmp 3), [], none⟩, ⟨none, none, .store 32 (.tmp 45) (.tmp 43), [], none⟩]) (.seq (.reg [⟨some 46, none, .faddr 0 0 (.tmp 1), [], none⟩, ⟨some 47, none, .load false 1 (.tmp 46), [], none⟩, ⟨some 48, none, .icall 55 (.tmp 47) [(.const (jn 256))], [], none⟩, ⟨some 49, none, .faddr 69 7 (.tmp 3), [], none⟩, ⟨none, none, .store 1 (.tmp 49) (.tmp 48), [], none⟩]) (.seq (.seq (.reg [⟨some 50, none, .faddr 0 0 (.tmp 1), [], none⟩, ⟨some 51, none, .load false 1 (.tmp 50), [], none⟩, ⟨some 52, none, .icall 53 (.tmp 51) [(.const (jn 8))], [], none⟩, ⟨some 53, none, .len false (.tmp 52), [], none⟩, ⟨some 54, none, .mov (.const (jn 0)), [], none⟩]) (.block 2 (.loop (.seq (.reg [⟨some 55, none, .bin .lss (.tmp 54) (.tmp 53), [], none⟩]) (.seq (.cond (.tmp 55) .skip (.exit 2)) (.seq (.block 3 (.seq (.reg [⟨some 56, none, .iaddrS 1 (.tmp 52) (.tmp 54), [], none⟩, ⟨some 57, none, .load false 1 (.tmp 56), [], none⟩, ⟨some 7, none, .mov (.tmp 57), [], none⟩]) (.seq (.reg [⟨some 58, none, .mov (.tmp 7), [], none⟩, ⟨some 59, none, .prim .imin [(.tmp 58), (.const (wn 1073741824))], [], none⟩, ⟨some 60, none, .cvt .i64 (.tmp 59), [], none⟩, ⟨some 61, none, .faddr 0 0 (.tmp 1), [], none⟩, ⟨some 62, none, .load false 1 (.tmp 61), [8], (.some 1)⟩, ⟨some 63, none, .xc (.dir 54) [.tmp 62] [1, 1] [8], [], none⟩, ⟨some 64, none, .faddr 0 0 (.tmp 1), [], none⟩, ⟨some 65, none, .load false 1 (.tmp 64), [8], (.some 1)⟩, ⟨some 66, none, .xc (.dir 52) [.tmp 65] [1] [8], [], none⟩, ⟨some 67, none, .faddr 0 0 (.tmp 1), [], none⟩, ⟨some 68, none, .load false 1 (.tmp 67), [8], (.some 1)⟩, ⟨some 69, none, .xc (.dir 52) [.tmp 68] [] [8], [], none⟩, ⟨some 70, none, .build (.st [32, 1, 1] [(.arr 1 (List.replicate 32 (.lit (bn 0)))), (.lit (wn 0)), (.lit (wn 0))]) [(0, (.tmp 63)), (1, (.tmp 66)), (2, (.tmp 69))], [], none⟩, ⟨some 71, none, .build (.st [1, 34, 1] [(.lit (jn 0)), (.st [32, 1, 1] [(.arr 1 (List.replicate 32 (.lit (bn 0)))), (.lit (wn 0)), (.lit (wn 0))]), (.lit (tx []))]) [(0, (.tmp 60)), (1, (.tmp 70))], [], none⟩, ⟨some 8, none, .alloc 36 (.st [1, 34, 1] [(.lit (jn 0)), (.st [32, 1, 1] [(.arr 1 (List.replicate 32 (.lit (bn 0)))), (.lit (wn 0)), (.lit (wn 0))]), (.lit (tx []))]), [], none⟩, ⟨none, none, .store 36 (.tmp 8) (.tmp 71), [], none⟩]) (.seq (.reg [⟨some 72, none, .faddr 0 0 (.tmp 1), [], none⟩, ⟨some 73, none, .load false 1 (.tmp 72), [], none⟩, ⟨some 74, none, .icall 55 (.tmp 73) [(.const (jn 256))], [], none⟩, ⟨some 75, none, .faddr 35 2 (.tmp 8), [], none⟩, ⟨none, none, .store 1 (.tmp 75) (.tmp 74), [], none⟩]) (.reg [⟨some 76, none, .faddr 70 8 (.tmp 3), [], none⟩, ⟨some 77, none, .load false 1 (.tmp 76), [], none⟩, ⟨some 78, none, .load true 36 (.tmp 8), [], none⟩, ⟨some 79, none, .bslice 36 (.st [1, 34, 1] [(.lit (jn 0)), (.st [32, 1, 1] [(.arr 1 (List.replicate 32 (.lit (bn 0)))), (.lit (wn 0)), (.lit (wn 0))]), (.lit (tx []))]) 1 [(0, (.tmp 78))], [], none⟩, ⟨some 80, none, .append 51 36 64 (.tmp 77) (.tmp 79), [], none⟩, ⟨some 81, none, .faddr 70 8 (.tmp 3), [], none⟩, ⟨none, none, .store 1 (.tmp 81) (.tmp 80), [], none⟩]))))) (.reg [⟨some 82, none, .bin .add (.tmp 54) (.const (jn 1)), [], none⟩, ⟨some 54, none, .mov (.tmp 82), [], none⟩]))))))) (.seq (.reg [⟨some 83, none, .load true 71 (.tmp 3), [], none⟩, ⟨none, none, .store 71 (.tmp 2) (.tmp 83), [], none⟩]) .ret))))))))
def fc820 : FC := ⟨1, 84, [(.cell 2 .true 71)], fb820⟩
theorem fc820_eq : compF Go.Proofs.Tryd.prog 32 = some fc820 := by kernel_rfl
attribute [local irreducible] AReg
def oS (k a : Int) (sq : Nat) (P W : AV) (ofk check text : List UInt8) (B : AV) : AV := .st [1, 1, 1, 1, 1, 32, 32, 1, 1] [.lit (ji a), .lit (wn sq), P, .lit (ji k), W, keyA ofk, keyA check, .lit (tx text), B]
def nilA0 : AV := .lit (.slice none 0 0)
def intsA (l : List Int) : List AV := l.map fun x => .lit (ji x)
theorem intsA_len (l : List Int) : (intsA l).length = l.length := by simp [intsA]
theorem minV_eq (n : Nat) : ji (minV n) = jn (min n 1073741824) := by
  unfold minV
  by_cases h : n < 1073741824
  · rw [if_pos h, Nat.min_eq_left (by omega)]; rfl
  · rw [if_neg h, Nat.min_eq_right (by omega)]; rfl
theorem minV_lt (n : Nat) : min n 1073741824 < 4294967296 := by omega
theorem rdNum_le' (s : RS) : (rdNum s).2.1.length ≤ s.1.length := rdNum_le
section
variable {H : List (Option Blk)} {R : Rr} {s0 s : RS}
set_option maxRecDepth 20000 in
set_option maxHeartbeats 16000000 in
theorem opR_call (hh : RdOk H R s) (hs : s.1.length < 1000000) : XCall Go.Proofs.Tryd.prog 32 [rdV R] H fun r H' => r = opA (rdOp s).1 ∧ H' = rdF H R (rdOp s).2 () := by
  have h820 := fc820_eq
  refine XCall.le ?_
  have hself := hh.self
  have hc31 : callable Go.Proofs.Tryd.prog 31 = true := by kernel_rfl
  have hc52 : callable Go.Proofs.Tryd.prog 52 = true := by kernel_rfl
  have hc54 : callable Go.Proofs.Tryd.prog 54 = true := by kernel_rfl
  have ca := small_gk (s := s) hh hs
  have la : (rdSmall s).2.1.length ≤ s.1.length := rdNum_le' s
  obtain ⟨a, ha⟩ : ∃ a, a = rdSmall s := ⟨_, rfl⟩
  rw [← ha] at ca la
  have cb := small_gk (s := a.2) hh (by omega)
  have lb : (rdSmall a.2).2.1.length ≤ a.2.1.length := rdNum_le' a.2
  obtain ⟨b, hb⟩ : ∃ b, b = rdSmall a.2 := ⟨_, rfl⟩
  rw [← hb] at cb lb
  have cc := Num_gk (s := b.2) hh (by omega)
  have lc := rdNum_le' b.2
  obtain ⟨c, hc⟩ : ∃ c, c = rdNum b.2 := ⟨_, rfl⟩
  rw [← hc] at cc lc
  have cd := KeyList_gk (s := c.2) hh (by omega) 8 (by omega)
  have ld := rdList_le rdKey_le (most := 8) c.2
  obtain ⟨d, hd⟩ : ∃ d, d = rdList rdKey 8 c.2 := ⟨_, rfl⟩
  rw [← hd] at cd ld
  have ce := NumberList_gk (s := d.2) hh (by omega) 8 (by omega)
  have le := rdList_le rdNum_le' (most := 8) d.2
  have we := (rdList_mem (one := rdNum) (most := 8) d.2).1
  obtain ⟨e, he⟩ : ∃ e, e = rdList rdNum 8 d.2 := ⟨_, rfl⟩
  rw [← he] at ce le we
  have cf := KeyR_gk (s := e.2) hh
  have lf := rdKey_le e.2
  have f32 := rdKey_len e.2
  obtain ⟨f, hf⟩ : ∃ f, f = rdKey e.2 := ⟨_, rfl⟩
  rw [← hf] at cf lf f32
  have cg := KeyR_gk (s := f.2) hh
  have lg := rdKey_le f.2
  have g32 := rdKey_len f.2
  obtain ⟨g, hg⟩ : ∃ g, g = rdKey f.2 := ⟨_, rfl⟩
  rw [← hg] at cg lg g32
  have chh := TextR_gk (s := g.2) hh (by omega) 256 (by omega)
  have lh := rdText_le (most := 256) g.2
  obtain ⟨h, hh'⟩ : ∃ h, h = rdText 256 g.2 := ⟨_, rfl⟩
  rw [← hh'] at chh lh
  have cn := NumberList_gk (s := h.2) hh (by omega) 8 (by omega)
  have ln := rdList_le rdNum_le' (most := 8) h.2
  have wn' := (rdList_mem (one := rdNum) (most := 8) h.2).1
  obtain ⟨n, hn⟩ : ∃ n, n = rdList rdNum 8 h.2 := ⟨_, rfl⟩
  rw [← hn] at cn ln wn'
  have hall : rdOp s = (opOf (a.1, b.1, c.1, d.1, e.1.map minV, f.1, g.1, h.1, (rdBoxes n.1 n.2).1), (rdBoxes n.1 n.2).2) := by
    unfold rdOp rdWho rdBs
    simp only
    rw [← ha, ← hb, ← hc, ← hd, ← he]
    rw [← hf, ← hg, ← hh', ← hn]
  rw [hall]
  clear hall ha hb hc hd he hf hg hh' hn
  obtain ⟨a1, a2⟩ := a
  obtain ⟨b1, b2⟩ := b
  obtain ⟨c1, c2⟩ := c
  obtain ⟨d1, d2⟩ := d
  obtain ⟨e1, e2⟩ := e
  obtain ⟨f1, f2⟩ := f
  obtain ⟨g1', g2'⟩ := g
  obtain ⟨h1, h2⟩ := h
  obtain ⟨n1, n2⟩ := n
  try simp only at *
  unfold rdV at ca cb ⊢
  refine XCall.of h820 rfl ?_; show AC.wp _ fb820 ⟨H.length, [.st [1] [.ptr R.b R.l 0 []]] ++ List.replicate (84 - 1) .any, H ++ List.replicate 84 none⟩ (fun x s => match x with | .exit _ => False | _ => ∃ s1, Le s s1 ∧ FinX [(.cell 2 .true 71)] s1 _); unfold fb820
  have hst : ∀ L, H ++ L = rdF H R s () ++ L := fun L => by rw [hself]
  rw [hst]
  generalize hN : H.length = N at *
  have G1 : ∀ i x, (rdF H R i x).length = N := fun i x => by rw [rdF_len, hN]
  have g1 : ∀ i x L k, (rdF H R i x ++ L)[N + k]? = L[k]? := fun i x L k => cat1 _ _ _ _ (G1 _ _)
  have g2 : ∀ i x L k z, (rdF H R i x ++ L).set (N + k) z = rdF H R i x ++ L.set k z := fun i x L k z => cat2 _ _ _ _ _ (G1 _ _)
  refine wp_sg (areg_bx rfl rfl fun l1 => areg_al' (z' := z0A) rfl fun l2 => areg_end (by simp [push_cast, g2]; exact rfl) ?_)
  refine wp_sg ?_
  refine areg_run 1 (by simp [push_cast, g1]; exact rfl) ?_
  refine areg_gk [.st [1] [.ptr R.b R.l 0 []]] G1 (by simp [AS.ev, AS.put]) (tgt_dir hc31 _) ca (by simp) (by simp [AS.ev, AS.put, AV.place]) fun _ => ?_
  refine areg_run 1 (by simp [push_cast, g1]; exact rfl) ?_
  refine areg_gk [.st [1] [.ptr R.b R.l 0 []]] G1 (by simp [AS.ev, AS.put]) (tgt_dir hc31 _) cb (by simp) (by simp [AS.ev, AS.put, AV.place]) fun _ => ?_
  refine areg_run 2 (by simp [push_cast, g1]; exact rfl) ?_
  refine areg_gk [.ptr R.b R.l 0 []] G1 (by simp [AS.ev, AS.put]) (tgt_dir hc52 _) cc (by simp) (by simp) fun _ => ?_
  refine areg_bd (z' := oS a1 b1 c1 nilA0 nilA0 zk zk [] nilA0) (fill_st rfl rfl rfl rfl rfl (fill_st rfl rfl rfl rfl rfl (fill_st rfl rfl rfl rfl rfl rfl))) ?_
  refine areg_al' (z' := z0A) rfl fun l3 => areg_end (by simp [push_cast, g1, g2, oS, z0A, zk_len]; exact rfl) ?_
  refine wp_sg ?_
  refine areg_run 2 (by simp [push_cast, g1]; exact rfl) ?_
  refine areg_gi cd (by simp [AS.ev, AS.put]) fun _ => ?_
  refine areg_end (by simp [push_cast, g1, g2, zk_len]; exact rfl) ?_
  refine wp_seqM (fun _ : Unit => ⟨N, [.any, .ptr (N + 1) l1 0 [], .ptr (N + 2) l2 0 [], .ptr (N + 3) l3 0 []] ++ List.replicate 80 .any, rdF H R e2 () ++ ([none, some (.box l1 1 (.st [1] [.ptr R.b R.l 0 []])), some (.box l2 71 z0A), some (.box l3 71 (oS a1 b1 c1 (.sl 32 (klA d1)) (.sl 1 (intsA (e1.map minV))) zk zk [] nilA0))] ++ List.replicate 80 none)⟩) (fun _ => True) (fun _ _ => ?_) ?_
  · unfold oS nilA0
    refine wp_sg ?_
    refine areg_run 2 (by simp [push_cast, g1]; exact rfl) ?_
    refine areg_gk [.ptr R.b R.l 0 []] G1 (by simp [AS.ev, AS.put]) (tgt_dir hc54 _) cf (by simp) (by simp [AS.ev, AS.put, AV.place]) fun _ => ?_
    refine areg_run 2 (by simp [push_cast, g1]; exact rfl) ?_
    refine areg_gk [.ptr R.b R.l 0 []] G1 (by simp [AS.ev, AS.put]) (tgt_dir hc54 _) cg (by simp) (by simp) fun _ => ?_
    refine areg_end (by simp [push_cast, g1, g2, zk_len, f32, g32]; exact rfl) ?_
    refine wp_sg ?_
    refine areg_run 2 (by simp [push_cast, g1]; exact rfl) ?_
    refine areg_gi chh (by simp [AS.ev, AS.put]) fun _ => ?_
    refine areg_end (by simp [push_cast, g1, g2, zk_len, f32, g32]; exact rfl) ?_
    obtain ⟨bx, hbx⟩ : ∃ bx, bx = rdBoxes n1 n2 := ⟨_, rfl⟩
    have hfin : opA (opOf (a1, b1, c1, d1, e1.map minV, f1, g1', h1, bx.1)) = oS a1 b1 c1 (.sl 32 (klA d1)) (.sl 1 (intsA (e1.map minV))) f1 g1' h1 (.sl 36 (bx.1.map fun x => boxA x)) := rfl
    rw [← hbx, hfin]
    refine wp_seqM (fun _ : Unit => ⟨N, [.any, .any, .ptr (N + 2) l2 0 [], .ptr (N + 3) l3 0 []] ++ List.replicate 80 .any, rdF H R bx.2 () ++ ([none, none, some (.box l2 71 z0A), some (.box l3 71 (oS a1 b1 c1 (.sl 32 (klA d1)) (.sl 1 (intsA (e1.map minV))) f1 g1' h1 (.sl 36 (bx.1.map fun x => boxA x))))] ++ List.replicate 80 none)⟩) (fun _ => True) (fun _ _ => ?_) ?_
    · unfold oS z0A
      refine wp_sr (by simp [push_cast, g1, g2, zk_len, f32, g32]; exact rfl) (wp_ret' ?_)
      exact ⟨_, Le.refl _, [], .st [1, 1, 1, 1, 1, 32, 32, 1, 1] [.lit (ji b1), .lit (wn c1), .sl 32 (klA d1), .lit (ji a1), .sl 1 (intsA (e1.map minV)), keyA f1, keyA g1', .lit (tx h1), .sl 36 (bx.1.map fun x => boxA x)], ⟨by simp [AS.seals, RVal, AS.ev, AS.peek, AS.blk, g1, Blk.loc, Blk.cont, Blk.n, AV.nav, AV.isAgg, AV.isTup, AS.coe, keyA]; rfl, by simp⟩, _, _, RelLe.refl _, by simp, HpLe.trim _ _, rfl, rfl⟩
    refine wp_seq' (wp_rg ?_)
    refine areg_run 2 (by simp [push_cast, g1]; exact rfl) ?_
    refine areg_gi cn (by simp [AS.ev, AS.put]) fun _ => ?_
    refine areg_end (by simp [push_cast, u32N_len]; exact rfl) ?_
    have hug : ∀ (i : Nat) (x : Nat), n1[i]? = some x → (u32N n1)[i]? = some (.lit (wn x)) := fun i x h => by unfold u32N; rw [List.getElem?_map, h]; rfl
    have hul := u32N_len n1
    generalize u32N n1 = UE at *
    refine wp_block' (wp_loop_m (fun x : Nat × Value × List BoxV × RS => ⟨N, [.any, .ptr (N + 1) l1 0 [], .ptr (N + 2) l2 0 [], .ptr (N + 3) l3 0 []] ++ (List.replicate 48 .any ++ ([.sl 1 UE, .lit (jn n1.length), .lit (jn x.1)] ++ List.replicate 29 .any)), rdF H R x.2.2.2 () ++ ([none, some (.box l1 1 (.st [1] [.ptr R.b R.l 0 []])), some (.box l2 71 z0A), some (.box l3 71 (oS a1 b1 c1 (.sl 32 (klA d1)) (.sl 1 (intsA (e1.map minV))) f1 g1' h1 (.own (N + 80) x.2.1)))] ++ (List.replicate 76 none ++ ([some (.row 51 x.2.1 36 (x.2.2.1.map fun x => boxA x) 0)] ++ List.replicate 3 none)))⟩)
      (fun x => n1.length - x.1) (fun x => x.1 ≤ n1.length ∧ x.2.2.1.length = x.1 ∧ bx = (x.2.2.1 ++ (rdBoxes (n1.drop x.1) x.2.2.2).1, (rdBoxes (n1.drop x.1) x.2.2.2).2) ∧ x.2.2.2.1.length ≤ s.1.length) (0, .slice none 0 0, [], n2) ?_ ⟨by omega, rfl, by rw [hbx]; simp, by simp only; omega⟩ ?_)
    · refine Le.trans (Le.nilField (b := N + 3) (j := N + 80) (l := l3) (n := 71) (v := oS a1 b1 c1 (.sl 32 (klA d1)) (.sl 1 (intsA (e1.map minV))) f1 g1' h1 nilA0) (v' := oS a1 b1 c1 (.sl 32 (klA d1)) (.sl 1 (intsA (e1.map minV))) f1 g1' h1 (.own (N + 80) (.slice none 0 0))) (by simp only [AS.blk, g1]; rfl) (AVle.st1 (AVle.refl _) (AVle.st1 (AVle.refl _) (AVle.st1 (AVle.refl _) (AVle.st1 (AVle.refl _) (AVle.st1 (AVle.refl _) (AVle.st1 (AVle.refl _) (AVle.st1 (AVle.refl _) (AVle.st1 (AVle.refl _) (AVle.st1 (AVle.nil _) (AVle.refl _)))))))))) (by simp only [AS.blk, g1]; rfl) (by simp [G1]) (by simp [G1]) 51 36) ?_
      simp only [g2]
      exact Le.cat (by simp [leT]) (by simp [leH, oS, keyA, nilA0])
    rintro ⟨i, V, acc, st⟩ ⟨hi, hal, hI, hsl⟩
    simp only at hi hal hI hsl ⊢
    by_cases hlt : i < n1.length
    · obtain ⟨x, hx⟩ : ∃ x, n1[i]? = some x := ⟨_, List.getElem?_eq_getElem hlt⟩
      have u1 := hug i x hx
      have u2 : ∀ h, UE[i]'h = .lit (wn x) := fun h => by rw [List.getElem?_eq_getElem h] at u1; exact Option.some.inj u1
      have q1 : i + 1 < 9223372036854775808 := by omega
      have pm := prim_minw x 1073741824
      have cj : cvtA .i64 (.lit (wn (min x 1073741824))) = some (.lit (ji (minV x))) := by rw [minV_eq]; exact cvt_wj _ (minV_lt x)
      have k1 := KeyR_gk (s := st) hh
      have kl1 := rdKey_le st
      have k32 := rdKey_len st
      have k2 := Num_gk (s := (rdKey st).2) hh (by omega)
      have kl2 := rdNum_le' (rdKey st).2
      have k3 := Num_gk (s := (rdNum (rdKey st).2).2) hh (by omega)
      have kl3 := rdNum_le' (rdNum (rdKey st).2).2
      have k4 := TextR_gk (s := (rdNum (rdNum (rdKey st).2).2).2) hh (by omega) 256 (by omega)
      have kl4 := rdText_le (most := 256) (rdNum (rdNum (rdKey st).2).2).2
      rw [drop_cons hx, rdBoxes] at hI
      unfold boxRest at hI
      simp only at hI
      generalize rdText 256 (rdNum (rdNum (rdKey st).2).2).2 = r4 at *
      generalize rdNum (rdNum (rdKey st).2).2 = r3 at *
      generalize rdNum (rdKey st).2 = r2 at *
      generalize rdKey st = r1 at *
      obtain ⟨x1, st1⟩ := r1
      obtain ⟨x2, st2⟩ := r2
      obtain ⟨x3, st3⟩ := r3
      obtain ⟨x4, st4⟩ := r4
      simp only at k1 k2 k3 k4 kl1 kl2 kl3 kl4 hI k32
      have hbl : (acc.map fun x => boxA x).length = i := by rw [List.length_map, hal]
      have hsn : (acc.map fun x => boxA x) ++ [boxA (mkBox (minV x) (x1, x2, x3, x4))] = (acc ++ [mkBox (minV x) (x1, x2, x3, x4)]).map fun x => boxA x := by simp
      have hbe : boxA (mkBox (minV x) (x1, x2, x3, x4)) = .st [1, 34, 1] [.lit (ji (minV x)), .st [32, 1, 1] [keyA x1, .lit (wn x2), .lit (wn x3)], .lit (tx x4)] := rfl
      unfold oS
      refine wp_sr (by simp [push_cast, hlt]; exact rfl) ?_
      refine wp_seq' (wp_cond_t (by simp [AS.ev]) (wp_skip' ?_))
      refine wp_seq' (wp_block' (wp_seq' (wp_r (by simp [push_cast, hul, hlt, u1, u2]; exact rfl) ?_)))
      refine wp_sg ?_
      refine areg_run 5 (by simp [push_cast, g1, pm, cj]; exact rfl) ?_
      refine areg_gk [.ptr R.b R.l 0 []] G1 (by simp [AS.ev, AS.put]) (tgt_dir hc54 _) k1 (by simp) (by simp [AS.ev, AS.put, AV.place]) fun _ => ?_
      refine areg_run 2 (by simp [push_cast, g1]; exact rfl) ?_
      refine areg_gk [.ptr R.b R.l 0 []] G1 (by simp [AS.ev, AS.put]) (tgt_dir hc52 _) k2 (by simp) (by simp [AS.ev, AS.put, AV.place]) fun _ => ?_
      refine areg_run 2 (by simp [push_cast, g1]; exact rfl) ?_
      refine areg_gk [.ptr R.b R.l 0 []] G1 (by simp [AS.ev, AS.put]) (tgt_dir hc52 _) k3 (by simp) (by simp) fun _ => ?_
      refine areg_bd (z' := .st [32, 1, 1] [keyA x1, .lit (wn x2), .lit (wn x3)]) (fill_st rfl rfl rfl rfl (by simp [AV.sz, AS.ev, AS.put, keyA, bl_len, k32]) (fill_st rfl rfl rfl rfl rfl (fill_st rfl rfl rfl rfl rfl rfl))) ?_
      refine areg_bd (z' := .st [1, 34, 1] [.lit (ji (minV x)), .st [32, 1, 1] [keyA x1, .lit (wn x2), .lit (wn x3)], .lit (tx [])]) (fill_st rfl rfl rfl rfl rfl (fill_st rfl rfl rfl rfl rfl rfl)) ?_
      refine areg_al' (z' := .st [1, 34, 1] [.lit (jn 0), .st [32, 1, 1] [keyA zk, .lit (wn 0), .lit (wn 0)], .lit (tx [])]) rfl fun l8 => areg_end (by simp [push_cast, g1, g2, k32, zk_len]; exact rfl) ?_
      refine wp_sg ?_
      refine areg_run 2 (by simp [push_cast, g1]; exact rfl) ?_
      refine areg_gi k4 (by simp [AS.ev, AS.put]) fun _ => ?_
      refine areg_end (by simp [push_cast, g1, g2, k32]; exact rfl) ?_
      refine wp_rg ?_
      refine areg_run 3 (by simp [push_cast, g1, k32, f32, g32]; exact rfl) ?_
      refine areg_bsl (k := 36) (els := [boxA (mkBox (minV x) (x1, x2, x3, x4))]) (fill_ar rfl rfl rfl (by simp [AV.sz, AS.ev, AS.put, k32, bl_len]) rfl) ?_
      refine areg_ap (b := N + 80) (V := V) (ys := [boxA (mkBox (minV x) (x1, x2, x3, x4))]) rfl (by simp only [AS.blk, AS.put, g1]; rfl) (by simp [AS.ev, AS.coe, AS.put]) (by rw [hbl]; simp [maxLen]; omega) (by rw [hbl]; simp; omega) (fun V2 => ?_) (by intro t' ht' b hb; cases ht')
      rw [hsn]
      refine areg_end (by simp [push_cast, g1, g2, f32, g32]; exact rfl) ?_
      refine wp_r (by simp [push_cast, q1]; exact rfl) ?_
      exact ⟨(i + 1, V2, acc ++ [mkBox (minV x) (x1, x2, x3, x4)], st4), ⟨by simp only; omega, by simp only [List.length_append, List.length_singleton]; omega, by simp only; rw [hI, List.append_assoc]; rfl, by simp only; omega⟩, by simp only; omega, Le.cat (by simp [leT]) (by simp [leH, keyA])⟩
    · have : i = n1.length := by omega
      subst this
      rw [List.drop_length, rdBoxes, List.append_nil] at hI
      rw [hI]
      simp only
      refine wp_sr (by simp [push_cast]; exact rfl) ?_
      refine wp_seq' (wp_cond_f (by simp [AS.ev]) (wp_exit' (if_hit rfl ?_)))
      refine ⟨(), trivial, Le.trans (Le.sealedF (b := N + 3) (j := N + 80) (i := 8) (e := 51) (esz := 36) (sl := 0) (l := l3) (n := 71) (ns := [1, 1, 1, 1, 1, 32, 32, 1, 1]) (fs := [.lit (ji b1), .lit (wn c1), .sl 32 (klA d1), .lit (ji a1), .sl 1 (intsA (e1.map minV)), keyA f1, keyA g1', .lit (tx h1), .own (N + 80) V]) (els := acc.map fun x => boxA x) (V := V) (by simp only [AS.blk, g1]; rfl) rfl (by simp only [AS.blk, g1]; rfl)) ?_⟩
      simp only [g2]
      exact Le.cat (by simp [leT]) (by simp [leH, oS])
  refine wp_seq' (wp_rg ?_)
  refine areg_run 2 (by simp [push_cast, g1]; exact rfl) ?_
  refine areg_gi ce (by simp [AS.ev, AS.put]) fun _ => ?_
  refine areg_end (by simp [push_cast, u32N_len]; exact rfl) ?_
  obtain ⟨ws, hws⟩ : ∃ ws, ws = e1.map minV := ⟨_, rfl⟩
  have hwl : ws.length = e1.length := by rw [hws, List.length_map]
  have hwg : ∀ (i : Nat) (x : Nat), e1[i]? = some x → ws[i]? = some (minV x) := fun i x h => by rw [hws, List.getElem?_map, h]; rfl
  have hug : ∀ (i : Nat) (x : Nat), e1[i]? = some x → (u32N e1)[i]? = some (.lit (wn x)) := fun i x h => by unfold u32N; rw [List.getElem?_map, h]; rfl
  have hul := u32N_len e1
  rw [← hws]
  generalize u32N e1 = UE at *
  refine wp_block' (wp_loop_m (fun x : Nat × Value => ⟨N, [.any, .ptr (N + 1) l1 0 [], .ptr (N + 2) l2 0 [], .ptr (N + 3) l3 0 []] ++ (List.replicate 19 .any ++ ([.sl 1 UE, .lit (jn e1.length), .lit (jn x.1)] ++ List.replicate 58 .any)), rdF H R e2 () ++ ([none, some (.box l1 1 (.st [1] [.ptr R.b R.l 0 []])), some (.box l2 71 z0A), some (.box l3 71 (oS a1 b1 c1 (.sl 32 (klA d1)) (.own (N + 35) x.2) zk zk [] nilA0))] ++ (List.replicate 31 none ++ ([some (.row 3 x.2 1 (intsA (ws.take x.1)) 0)] ++ List.replicate 48 none)))⟩) (fun x => e1.length - x.1) (fun x => x.1 ≤ e1.length) (0, .slice none 0 0) ?_ (by simp) ?_)
  · refine Le.trans (Le.nilField (b := N + 3) (j := N + 35) (l := l3) (n := 71) (v := oS a1 b1 c1 (.sl 32 (klA d1)) nilA0 zk zk [] nilA0) (v' := oS a1 b1 c1 (.sl 32 (klA d1)) (.own (N + 35) (.slice none 0 0)) zk zk [] nilA0) (by simp only [AS.blk, g1]; rfl) (AVle.st1 (AVle.refl _) (AVle.st1 (AVle.refl _) (AVle.st1 (AVle.refl _) (AVle.st1 (AVle.refl _) (AVle.st1 (AVle.nil _) (AVle.refl _)))))) (by simp only [AS.blk, g1]; rfl) (by simp [G1]) (by simp [G1]) 3 1) ?_
    simp only [g2]
    exact Le.cat (by simp [leT]) (by simp [leH, intsA, oS, keyA, nilA0, z0A])
  rintro ⟨i, V⟩ hi
  simp only at hi ⊢
  by_cases hlt : i < e1.length
  · obtain ⟨x, hx⟩ : ∃ x, e1[i]? = some x := ⟨_, List.getElem?_eq_getElem hlt⟩
    have u1 := hug i x hx
    have u2 : ∀ h, UE[i]'h = .lit (wn x) := fun h => by rw [List.getElem?_eq_getElem h] at u1; exact Option.some.inj u1
    have q1 : i + 1 < 9223372036854775808 := by omega
    have pm := prim_minw x 1073741824
    have cj : cvtA .i64 (.lit (wn (min x 1073741824))) = some (.lit (ji (minV x))) := by rw [minV_eq]; exact cvt_wj _ (minV_lt x)
    have hil : (intsA (ws.take i)).length ≤ 8 := by rw [intsA_len, List.length_take]; omega
    have hsn : intsA (ws.take i) ++ [.lit (ji (minV x))] = intsA (ws.take (i + 1)) := by rw [List.take_add_one, hwg i x hx]; simp [intsA]
    unfold oS nilA0
    refine wp_sr (by simp [push_cast, hlt]; exact rfl) ?_
    refine wp_seq' (wp_cond_t (by simp [AS.ev]) (wp_skip' ?_))
    refine wp_seq' (wp_block' (wp_seq' (wp_r (by simp [push_cast, hul, hlt, u1, u2]; exact rfl) ?_)))
    refine wp_rg ?_
    refine areg_run 6 (by simp [push_cast, g1, pm, cj, zk_len]; exact rfl) ?_
    refine areg_ap (b := N + 35) (V := V) (ys := [.lit (ji (minV x))]) rfl (by simp only [AS.blk, g1]; rfl) (by simp [AS.ev, AS.coe]) (by simp [maxLen]; omega) (by simp; omega) (fun V2 => ?_) (by intro t' ht' b hb; cases ht')
    rw [hsn]
    refine areg_end (by simp [push_cast, g1, g2, zk_len]; exact rfl) ?_
    refine wp_r (by simp [push_cast, q1]; exact rfl) ?_
    exact ⟨(i + 1, V2), by simp only; omega, by simp only; omega, Le.cat (by simp [leT]) (by simp [leH, keyA])⟩
  · have : i = e1.length := by omega
    subst this
    rw [List.take_of_length_le (by omega)]
    refine wp_sr (by simp [push_cast]; exact rfl) ?_
    refine wp_seq' (wp_cond_f (by simp [AS.ev]) (wp_exit' (if_hit rfl ?_)))
    refine ⟨(), trivial, Le.trans (Le.sealedF (b := N + 3) (j := N + 35) (i := 4) (e := 3) (esz := 1) (sl := 0) (l := l3) (n := 71) (ns := [1, 1, 1, 1, 1, 32, 32, 1, 1]) (fs := [.lit (ji b1), .lit (wn c1), .sl 32 (klA d1), .lit (ji a1), .own (N + 35) V, keyA zk, keyA zk, .lit (tx []), nilA0]) (els := intsA ws) (V := V) (by simp only [AS.blk, g1]; rfl) rfl (by simp only [AS.blk, g1]; rfl)) ?_⟩
    simp only [g2]
    exact Le.cat (by simp [leT]) (by simp [leH, oS])
end
end Go.Cab
namespace Go.Cab
open Go.RowKit
open Classical
def fb811 : AC := (.seq (.reg [⟨some 1, none, .box 74 (.tmp 0), [], none⟩, ⟨some 2, none, .mov (.const (tx [])), [], none⟩, ⟨some 3, none, .mov (.const (jn 0)), [], none⟩]) (.seq (.seq (.reg [⟨some 5, none, .load true 74 (.tmp 1), [], none⟩, ⟨some 6, none, .call 24 [.tmp 5], [], none⟩, ⟨some 7, none, .un .not (.tmp 6), [], none⟩]) (.cond (.tmp 7) (.seq (.reg [⟨some 2, none, .mov (.const (tx [])), [], none⟩, ⟨some 3, none, .mov (.const (jn 1)), [], none⟩]) .ret) .skip)) (.seq (.reg [⟨some 4, none, .alloc 1 (.st [1] [(.st [1] [(.lit (.slice .none 0 0))])]), [], none⟩]) (.seq (.reg [⟨some 8, none, .faddr 0 0 (.tmp 4), [], none⟩, ⟨some 9, none, .faddr 0 0 (.tmp 1), [], none⟩, ⟨some 10, none, .load false 1 (.tmp 9), [], (.some 1)⟩, ⟨some 11, none, .callv 26 [.tmp 10], [], (.some 1000000)⟩, ⟨some 12, none, .faddr 1 1 (.tmp 1), [], none⟩, ⟨some 13, none, .load false 1 (.tmp 12), [], (.some 1)⟩, ⟨some 14, none, .callv 26 [.tmp 13], [], none⟩, ⟨some 15, none, .bslice 1 (.lit (wn 0)) 2 [(0, (.tmp 11)), (1, (.tmp 14))], [], none⟩, ⟨some 16, none, .xc (.dir 25) [.tmp 8, .tmp 15] [] [], [], none⟩]) (.seq (.seq (.reg [⟨some 17, none, .faddr 0 0 (.tmp 1), [], none⟩, ⟨some 18, none, .load false 1 (.tmp 17), [], none⟩, ⟨some 19, none, .bin .eql (.tmp 18) (.const (jn 1)), [], none⟩]) (.cond (.tmp 19) (.reg [⟨some 20, none, .faddr 2 2 (.tmp 1), [], none⟩, ⟨some 21, none, .load true 71 (.tmp 20), [], none⟩, ⟨some 22, none, .icall 27 (.tmp 4) [.tmp 21], [], none⟩]) (.reg [⟨some 23, none, .faddr 0 0 (.tmp 4), [], none⟩, ⟨some 24, none, .faddr 73 3 (.tmp 1), [], none⟩, ⟨some 25, none, .load false 1 (.tmp 24), [], none⟩, ⟨some 26, none, .icall 28 (.tmp 23) [.tmp 25], [], none⟩]))) (.seq (.reg [⟨some 27, none, .faddr 0 0 (.tmp 4), [], none⟩, ⟨some 28, none, .icall 29 (.tmp 27) [], [], none⟩, ⟨some 2, none, .mov (.tmp 28), [], none⟩, ⟨some 3, none, .mov (.const (jn 0)), [], none⟩]) .ret))))))
def fc811 : FC := ⟨1, 29, [(.tmp 2), (.tmp 3)], fb811⟩
theorem fc811_eq : compF Go.Proofs.Tryd.prog 11 = some fc811 := by kernel_rfl
attribute [local irreducible] AReg
structure FrOk (f : FrameV) : Prop where
  op : OpOk f.op
  bl : ∀ b ∈ f.op.boxes, b.body.length < 9223372036854775808
  ids : ∀ k ∈ f.ids, k.length = 32
  il : f.ids.length < 100000
theorem OpL.of {o : OpV} (h : OpOk o) : OpL o := ⟨h.p32, by have := h.parents; omega, by have := h.who; omega, by have := h.boxes; omega, h.ofk, h.check⟩
set_option maxHeartbeats 8000000 in
theorem rightF_call {f : FrameV} (hf : FrOk f) : PCall Go.Proofs.Tryd.prog 24 [frameA f] (.val (.lit (.bool (okF f)))) := by
  have h813 := fc813_eq
  have cm : PCall Go.Proofs.Tryd.prog 16 [.lit (ji f.from_)] (.val (.lit (.bool (memB f.from_)))) := member_call f.from_
  have cR := right_call hf.op hf.bl
  have cE := empty_call (OpL.of hf.op)
  have il : (klA f.ids).length = f.ids.length := klA_len _
  have k1 : binVal .eql (ji f.kind) (jn 1) = some (.bool (decide (f.kind = 1))) := bin_eqlij _ _
  have k2 : binVal .eql (ji f.kind) (jn 2) = some (.bool (decide (f.kind = 2))) := bin_eqlij _ _
  have k3 : binVal .eql (ji f.kind) (jn 3) = some (.bool (decide (f.kind = 3))) := bin_eqlij _ _
  have a5 := hf.op.ofk; have a6 := hf.op.check
  have hok : okF f = (memB f.from_ && (if f.kind = 1 then rightV f.op && decide (f.ids.length = 0) else decide (f.kind = 2 ∨ f.kind = 3) && decide (f.op = op0) && decide (f.ids.length ≤ 16))) := rfl
  unfold frameA
  have eA : opA f.op = AV.st [1, 1, 1, 1, 1, 32, 32, 1, 1] [.lit (ji f.op.author), .lit (wn f.op.seq), .sl 32 (klA f.op.parents), .lit (ji f.op.kind), .sl 1 (f.op.who.map fun x => AV.lit (ji x)), keyA f.op.ofk, keyA f.op.check, .lit (tx f.op.text), .sl 36 (f.op.boxes.map fun x => boxA x)] := rfl
  rw [eA] at cR cE ⊢
  generalize klA f.ids = I1 at *
  generalize klA f.op.parents = P1 at *
  generalize (f.op.who.map fun x => AV.lit (ji x)) = W1 at *
  generalize (f.op.boxes.map fun x => boxA x) = X1 at *
  generalize hm : memB f.from_ = m at *
  generalize hr : rightV f.op = r at *
  generalize hil : f.ids.length = n at *
  refine PCall.of h813 rfl ?_; show AC.wp _ fb813 (AS.init [.st [1, 1, 71, 1] [.lit (ji f.kind), .lit (ji f.from_), .st [1, 1, 1, 1, 1, 32, 32, 1, 1] [.lit (ji f.op.author), .lit (wn f.op.seq), .sl 32 P1, .lit (ji f.op.kind), .sl 1 W1, keyA f.op.ofk, keyA f.op.check, .lit (tx f.op.text), .sl 36 X1], .sl 32 I1]] 1 40) (fun x s => match x with | .exit _ => False | _ => Fin [(.tmp 2)] s _); unfold fb813 AS.init
  refine wp_sg (areg_bx rfl (by simp [AS.ev, AV.sz]) fun l1 => areg_end (by simp [push_cast]; exact rfl) ?_)
  refine wp_seq' (wp_block' (wp_sg ?_))
  refine areg_run 2 (by simp [push_cast, a5, a6]; exact rfl) ?_
  refine areg_ca (by simp [AS.ev, AS.coe, AS.put] <;> exact rfl) cm ?_
  refine areg_end (by simp [push_cast]; exact rfl) ?_
  cases m with
  | false =>
    refine wp_cond_t (by simp [AS.ev]) ?_
    refine wp_sr (by simp [push_cast]; exact rfl) (wp_ret' ?_)
    exact fin_tmp (by simp [RVal, AS.ev, AS.coe, hok]) (by simp)
  | true =>
  refine wp_cond_f (by simp [AS.ev]) ?_
  refine wp_sr (by simp [push_cast, k1, a5, a6]; exact rfl) ?_
  by_cases hk1 : f.kind = 1
  · refine wp_cond_t (by simp [AS.ev, hk1]) (wp_sg ?_)
    refine areg_run 2 (by simp [push_cast, a5, a6]; exact rfl) ?_
    refine areg_ca (by simp [AS.ev, AS.coe, AS.put, keyA] <;> exact rfl) cR ?_
    cases r with
    | false =>
      refine areg_end (by simp [push_cast]; exact rfl) (wp_ret' ?_)
      exact fin_tmp (by simp [RVal, AS.ev, AS.coe, hok, hk1]) (by simp)
    | true =>
      refine areg_end (by simp [push_cast, a5, a6, il]; exact rfl) (wp_ret' ?_)
      exact fin_tmp (by simp [RVal, AS.ev, AS.coe, hok, hk1]) (by simp)
  refine wp_cond_f (by simp [AS.ev, hk1]) (wp_skip' ?_)
  rw [if_neg hk1] at hok
  refine wp_sg ?_
  by_cases hk2 : f.kind = 2
  · refine areg_run 4 (by simp [push_cast, k2, hk2, a5, a6]; exact rfl) ?_
    refine areg_ng (by simp [AS.ev, AS.put]) (areg_ng (by simp [AS.ev, AS.put]) (areg_ng (by simp [AS.ev, AS.put]) (?_)))
    refine areg_run 2 (by simp [push_cast]; exact rfl) ?_
    refine areg_run 2 (by simp [push_cast, a5, a6]; exact rfl) ?_
    refine areg_g (by simp [AS.ev, AS.put]) (areg_ca (by simp [AS.ev, AS.coe, AS.put, keyA] <;> exact rfl) cE ?_)
    by_cases hO : f.op = op0
    · refine areg_end (by simp [push_cast, hO, a5, a6, il]; exact rfl) (wp_ret' ?_)
      exact fin_tmp (by simp [RVal, AS.ev, AS.coe, hok, hk2, hO]) (by simp)
    · refine areg_end (by simp [push_cast, hO]; exact rfl) (wp_ret' ?_)
      exact fin_tmp (by simp [RVal, AS.ev, AS.coe, hok, hk2, hO]) (by simp)
  · by_cases hk3 : f.kind = 3
    · refine areg_run 7 (by simp [push_cast, k2, k3, hk2, hk3, a5, a6]; exact rfl) ?_
      refine areg_run 2 (by simp [push_cast]; exact rfl) ?_
      refine areg_run 2 (by simp [push_cast, a5, a6]; exact rfl) ?_
      refine areg_g (by simp [AS.ev, AS.put]) (areg_ca (by simp [AS.ev, AS.coe, AS.put, keyA] <;> exact rfl) cE ?_)
      by_cases hO : f.op = op0
      · refine areg_end (by simp [push_cast, hO, a5, a6, il]; exact rfl) (wp_ret' ?_)
        exact fin_tmp (by simp [RVal, AS.ev, AS.coe, hok, hk3, hO]) (by simp)
      · refine areg_end (by simp [push_cast, hO]; exact rfl) (wp_ret' ?_)
        exact fin_tmp (by simp [RVal, AS.ev, AS.coe, hok, hk3, hO]) (by simp)
    · refine areg_run 7 (by simp [push_cast, k2, k3, hk2, hk3, a5, a6]; exact rfl) ?_
      refine areg_run 2 (by simp [push_cast]; exact rfl) ?_
      refine areg_ng (by simp [AS.ev, AS.put]) (?_)
      (repeat (first | (with_reducible apply areg_ng); focus (simp [AS.ev, AS.put]; done) | (with_reducible apply areg_nt); focus (simp [AS.ev, AS.put]; done) | (with_reducible apply areg_g); focus (simp [AS.ev, AS.put]; done) | with_reducible apply areg_mv | (with_reducible apply areg_pkT); focus (simp [AS.ev, AS.put]; done) | (with_reducible apply areg_pkF); focus (simp [AS.ev, AS.put]; done) | (with_reducible apply areg_op); focus (simp [push_cast]; exact rfl)))
      refine areg_nil (wp_ret' ?_)
      exact fin_tmp (by simp [RVal, AS.ev, AS.coe, AS.put, hok, hk2, hk3]) (by simp)
theorem Le.frontW {tm tm' : List AV} {Lo Lo' : List (Option Blk)} {l : Nat × Nat} {c d : Nat} (hcd : c ≠ d) (hc : Lo[c]? = some (some (.box l 1 (.st [1] [.st [1] [.own d (.slice none 0 0)]])))) (hd : Lo[d]? = some (some (wrw (.slice none 0 0) [])))
    (ht : leA tm tm') (hb : leB Lo Lo') (hc' : (Lo'[c]?).join = none) (hd' : (Lo'[d]?).join = none) :
    Le ⟨0, tm, Lo⟩ ⟨2, tm', [some (wbk ⟨0, 1, l⟩ (.slice none 0 0)), some (wrw (.slice none 0 0) [])] ++ Lo'⟩ := by
  obtain ⟨a1, a2⟩ := leA_get ht
  obtain ⟨b1, b2⟩ := leB_get hb
  have shift : ∀ k, 2 ≤ k → ([some (wbk ⟨0, 1, l⟩ (.slice none 0 0)), some (wrw (.slice none 0 0) [])] ++ Lo')[k]? = Lo'[k - 2]? := fun k hk => by
    rw [List.getElem?_append_right (by simpa using hk)]
    rfl
  refine Le.genR a1 a2 (fun k => if k = 0 then c else if k = 1 then d else k - 2) (fun k k' x y hx hy e => ?_) (fun k x hx => ?_)
  · have key : ∀ (k : Nat) (x : Blk), 2 ≤ k → (([some (wbk ⟨0, 1, l⟩ (.slice none 0 0)), some (wrw (.slice none 0 0) [])] ++ Lo')[k]?).join = some x → k - 2 ≠ c ∧ k - 2 ≠ d := fun k x hk hx => by
      rw [shift k hk] at hx
      exact ⟨fun h => (by rw [h, hc'] at hx; cases hx), fun h => (by rw [h, hd'] at hx; cases hx)⟩
    try simp only at e
    by_cases k0 : k = 0
    · by_cases k0' : k' = 0
      · omega
      · by_cases k1' : k' = 1
        · subst k0 k1'; simp at e; exact absurd e hcd
        · have := key k' y (by omega) hy
          rw [if_pos k0, if_neg k0', if_neg k1'] at e
          exact absurd e.symm this.1
    · by_cases k1 : k = 1
      · by_cases k0' : k' = 0
        · subst k1 k0'; simp at e; exact absurd e.symm hcd
        · by_cases k1' : k' = 1
          · omega
          · have := key k' y (by omega) hy
            rw [if_neg k0, if_pos k1, if_neg k0', if_neg k1'] at e
            exact absurd e.symm this.2
      · have h1 := key k x (by omega) hx
        rw [if_neg k0, if_neg k1] at e
        by_cases k0' : k' = 0
        · rw [if_pos k0'] at e; exact absurd e h1.1
        · by_cases k1' : k' = 1
          · rw [if_neg k0', if_pos k1'] at e; exact absurd e h1.2
          · rw [if_neg k0', if_neg k1'] at e; omega
  · by_cases k0 : k = 0
    · subst k0
      simp only [List.cons_append, List.getElem?_cons_zero, Option.join_some, Option.some.injEq] at hx
      subst hx
      exact ⟨_, by simp only [if_true, hc]; rfl, BlkLe.box (AVle.st1 (AVle.st1 (AVle.own _ _ _) AVle.st0) AVle.st0)⟩
    · by_cases k1 : k = 1
      · subst k1
        simp only [List.cons_append, List.getElem?_cons_succ, List.getElem?_cons_zero, Option.join_some, Option.some.injEq] at hx
        subst hx
        exact ⟨_, by simp [hd], BlkLe.refl _⟩
      · rw [shift k (by omega)] at hx
        obtain ⟨v, hv, hle⟩ := b2 (k - 2) x hx
        exact ⟨v, by simp only [if_neg k0, if_neg k1]; exact hv, hle⟩
theorem wp_wr {P : Program} {b : AC} {Q : AX → AS → Prop} {tm : List AV} {Lo : List (Option Blk)} {l : Nat × Nat} {c d : Nat} (tm' : Nat → Wr → List AV) (Lo' : Nat → Wr → List (Option Blk)) (hcd : c ≠ d) (hc : Lo[c]? = some (some (.box l 1 (.st [1] [.st [1] [.lit (.slice none 0 0)]])))) (hd : Lo[d]? = some none)
    (ht : leA tm (tm' 2 ⟨0, 1, l⟩)) (hb : leB ((Lo.set c (some (.box l 1 (.st [1] [.st [1] [.own d (.slice none 0 0)]])))).set d (some (wrw (.slice none 0 0) []))) (Lo' 2 ⟨0, 1, l⟩)) (hc' : ((Lo' 2 ⟨0, 1, l⟩)[c]?).join = none) (hd' : ((Lo' 2 ⟨0, 1, l⟩)[d]?).join = none)
    (k : ∀ N H w V, WrOk H w V [] → H.length = N → b.wp P ⟨N, tm' N w, wF H w [] V ++ Lo' N w⟩ Q) : ∃ s0, Le ⟨0, tm, Lo⟩ s0 ∧ b.wp P s0 Q := by
  have lc := (List.getElem?_eq_some_iff.1 hc).1
  have ld := (List.getElem?_eq_some_iff.1 hd).1
  have hok : WrOk [some (wbk ⟨0, 1, l⟩ (.slice none 0 0)), some (wrw (.slice none 0 0) [])] ⟨0, 1, l⟩ (.slice none 0 0) [] := ⟨by simp, rfl, rfl⟩
  have h1 := Le.nilField (s := ⟨0, tm, Lo⟩) (b := c) (j := d) (l := l) (n := 1) (v := .st [1] [.st [1] [.lit (.slice none 0 0)]]) (v' := .st [1] [.st [1] [.own d (.slice none 0 0)]]) (by simp only [AS.blk, hc]; rfl) (AVle.st1 (AVle.st1 (AVle.nil _) AVle.st0) AVle.st0) (by simp only [AS.blk, hd]; rfl) ld lc 5 1
  refine ⟨_, Le.trans h1 (Le.frontW hcd (by rw [List.getElem?_set_ne hcd.symm, List.getElem?_set_self lc]) (by rw [List.getElem?_set_self (by simpa using ld)]; rfl) ht hb hc' hd'), ?_⟩
  have := k 2 _ ⟨0, 1, l⟩ _ hok rfl
  rw [hok.self] at this
  exact this
theorem opW_gk {H : List (Option Blk)} {w : Wr} {V0 : Value} {bs0 bs : List UInt8} (hh : WrOk H w V0 bs0) {o : OpV} (hW : OpW o) (hl : bs.length < 100) :
    GC Go.Proofs.Tryd.prog 27 [.ptr w.b w.l 0 [], opA o] (wF H w) bs (.tup []) (bs ++ encOp o) := GC.ofW hh fun H V h => opW_call h hW hl
theorem stringW_gk {H : List (Option Blk)} {w : Wr} {V0 : Value} {bs0 bs : List UInt8} (hh : WrOk H w V0 bs0) :
    GC Go.Proofs.Tryd.prog 29 [.ptr w.b w.l 0 [0]] (wF H w) bs (.lit (tx bs)) bs := GC.ofW hh fun H V h => by
  refine XCall.mono (stringW_call h) ?_
  rintro r H' ⟨h1, h2⟩
  exact ⟨h1, V, by rw [h2, h.self]⟩
set_option maxRecDepth 20000 in
set_option maxHeartbeats 8000000 in
theorem write_call {f : FrameV} (hf : FrOk f) : PCall Go.Proofs.Tryd.prog 11 [frameA f] (.val (if okF f = true then .tup [.lit (tx (encF f)), .lit (jn 0)] else .tup [.lit (tx []), .lit (jn 1)])) := by
  have h811 := fc811_eq
  have cR := rightF_call hf
  have il : (klA f.ids).length = f.ids.length := klA_len _
  have a5 := hf.op.ofk; have a6 := hf.op.check
  have k1 : binVal .eql (ji f.kind) (jn 1) = some (.bool (decide (f.kind = 1))) := bin_eqlij _ _
  have eA : opA f.op = AV.st [1, 1, 1, 1, 1, 32, 32, 1, 1] [.lit (ji f.op.author), .lit (wn f.op.seq), .sl 32 (klA f.op.parents), .lit (ji f.op.kind), .sl 1 (f.op.who.map fun x => AV.lit (ji x)), keyA f.op.ofk, keyA f.op.check, .lit (tx f.op.text), .sl 36 (f.op.boxes.map fun x => boxA x)] := rfl
  unfold frameA at cR ⊢
  rw [eA] at cR ⊢
  generalize hP : klA f.op.parents = P1 at *
  generalize hWh : (f.op.who.map fun x => AV.lit (ji x)) = W1 at *
  generalize hX : (f.op.boxes.map fun x => boxA x) = X1 at *
  refine PCall.of h811 rfl ?_; show AC.wp _ fb811 (AS.init [.st [1, 1, 71, 1] [.lit (ji f.kind), .lit (ji f.from_), .st [1, 1, 1, 1, 1, 32, 32, 1, 1] [.lit (ji f.op.author), .lit (wn f.op.seq), .sl 32 P1, .lit (ji f.op.kind), .sl 1 W1, keyA f.op.ofk, keyA f.op.check, .lit (tx f.op.text), .sl 36 X1], .sl 32 (klA f.ids)]] 1 29) (fun x s => match x with | .exit _ => False | _ => Fin [(.tmp 2), (.tmp 3)] s _); unfold fb811 AS.init
  refine wp_sg (areg_bx rfl (by simp [AS.ev, AV.sz]) fun l1 => areg_end (by simp [push_cast]; exact rfl) ?_)
  refine wp_seq' (wp_sg ?_)
  refine areg_run 1 (by simp [push_cast, a5, a6]; exact rfl) ?_
  refine areg_ca (by simp [AS.ev, AS.coe, AS.put, keyA] <;> exact rfl) cR ?_
  refine areg_end (by simp [push_cast]; exact rfl) ?_
  by_cases hok : okF f = false
  · rw [hok]
    refine wp_cond_t (by simp [AS.ev, hok]) ?_
    refine wp_sr (by simp [push_cast]; exact rfl) (wp_ret' ?_)
    exact fin_tup (by simp [RVals, RVal, AS.ev, AS.coe]) (by simp)
  have hok : okF f = true := by simpa using hok
  rw [if_pos hok]
  refine wp_cond_f (by simp [AS.ev, hok]) (wp_skip' ?_)
  obtain ⟨kk, km, kop, kid⟩ := kind_of hok
  unfold memN at km
  have k0 : 0 ≤ f.kind := by omega
  have c1 := number_call' k0 (by omega)
  have c2 := number_call' km.1 (by omega)
  refine wp_sgL ?_
  refine areg_al' rfl fun l4 => areg_end (by simp [push_cast]; exact rfl) ?_
  refine wp_wr (c := 4) (d := 0) (l := l4) (tm' := fun N w => [.any, .ptr (N + 1) l1 0 [], .any, .any, .ptr w.b w.l 0 []] ++ List.replicate 24 .any) (Lo' := fun N w => [none, some (.box l1 74 (.st [1, 1, 71, 1] [.lit (ji f.kind), .lit (ji f.from_), .st [1, 1, 1, 1, 1, 32, 32, 1, 1] [.lit (ji f.op.author), .lit (wn f.op.seq), .sl 32 P1, .lit (ji f.op.kind), .sl 1 W1, keyA f.op.ofk, keyA f.op.check, .lit (tx f.op.text), .sl 36 X1], .sl 32 (klA f.ids)]))] ++ List.replicate 27 none) (by decide) rfl rfl ?_ ?_ rfl rfl fun N H w V hh hN => ?_
  · simp [leA, RelLe.refl', RelLe.ptr']
  · simp [leB, BlkLe.refl', keyA]
  have G1 : ∀ i x, (wF H w i x).length = N := fun i x => by rw [wF_len, hN]
  have g1 : ∀ i x L k, (wF H w i x ++ L)[N + k]? = L[k]? := fun i x L k => cat1 _ _ _ _ (G1 _ _)
  have g2 : ∀ i x L k z, (wF H w i x ++ L).set (N + k) z = wF H w i x ++ L.set k z := fun i x L k z => cat2 _ _ _ _ _ (G1 _ _)
  have cN := numbers_gk hh (bs := []) [f.kind.toNat, f.from_.toNat] (by simp; omega) (by simp)
  have n1 := flatNs_len [f.kind.toNat, f.from_.toNat]
  obtain ⟨B1, hB1⟩ : ∃ B1, B1 = [f.kind.toNat, f.from_.toNat].flatMap numB := ⟨_, rfl⟩
  rw [List.nil_append, ← hB1] at cN
  rw [← hB1] at n1
  have l1' : B1.length < 100 := by simp only [List.length_cons, List.length_nil] at n1; omega
  have hc25 : callable Go.Proofs.Tryd.prog 25 = true := by kernel_rfl
  refine wp_sg ?_
  refine areg_run 3 (by simp [push_cast, g1, a5, a6]; exact rfl) ?_
  refine areg_cv (by simp [AS.ev, AS.coe, AS.put] <;> exact rfl) c1 ?_ (by intro p hp b V; simp at hp; subst hp; simp [AS.ev, AS.put])
  refine areg_run 2 (by simp [push_cast, g1, a5, a6]; exact rfl) ?_
  refine areg_cv (by simp [AS.ev, AS.coe, AS.put] <;> exact rfl) c2 ?_ (by first | trivial | (intro p hp b V; simp at hp; subst hp; simp [AS.ev, AS.put]))
  refine areg_run 1 (by simp [push_cast]; exact rfl) ?_
  refine areg_gk [.ptr w.b w.l 0 [0], .sl 1 ([f.kind.toNat, f.from_.toNat].map fun n => .lit (wn n))] G1 (by simp [AS.ev, AS.put]) (tgt_dir hc25 _) cN (by simp) (by simp) fun V1 => ?_
  refine areg_end (by simp [push_cast]; exact rfl) ?_
  refine wp_seqM (fun V2 : Value => ⟨N, [.any, .any, .any, .any, .ptr w.b w.l 0 []] ++ List.replicate 24 .any, wF H w (encF f) V2 ++ List.replicate 29 none⟩) (fun _ => True) (fun V2 _ => ?_) ?_
  · refine wp_sg ?_
    refine areg_run 1 (by simp [push_cast]; exact rfl) ?_
    refine areg_gi (stringW_gk hh) (by simp [AS.ev, AS.put]) fun V3 => ?_
    refine areg_end (by simp [push_cast]; exact rfl) (wp_ret' ?_)
    exact fin_tup (by simp [RVals, RVal, AS.ev, AS.coe]) (by simp)
  refine wp_seq' ?_
  by_cases hk1 : f.kind = 1
  · have hE : encF f = B1 ++ encOp f.op := by
      rw [hB1]; unfold encF; rw [if_pos hk1]; simp [List.append_assoc]
    have cO := opW_gk hh (bs := B1) (opW_of hf.op (kop hk1).1) l1'
    rw [← hE] at cO
    rw [eA] at cO
    refine wp_r (by simp [push_cast, g1, k1, hk1, a5, a6]; exact rfl) ?_
    refine wp_cond_t (by simp [AS.ev, hk1]) (wp_rg ?_)
    refine areg_run 2 (by simp [push_cast, g1, a5, a6]; exact rfl) ?_
    refine areg_gi cO (by simp [AS.ev, AS.put, keyA]) fun V3 => ?_
    refine areg_end (by simp [push_cast]; exact rfl) ?_
    exact ⟨V3, trivial, Le.cat (by simp [leT]) (by simp [leH])⟩
  · have hE : encF f = B1 ++ (numB f.ids.length ++ f.ids.flatMap fun k => k) := by
      rw [hB1]; unfold encF; rw [if_neg hk1]; simp [encKs, List.append_assoc]
    have cK := klistW_gk hh (bs := B1) f.ids hf.ids (by have := (kid hk1).2; omega)
    rw [← hE] at cK
    refine wp_r (by simp [push_cast, g1, k1, hk1, a5, a6]; exact rfl) ?_
    refine wp_cond_f (by simp [AS.ev, hk1]) (wp_rg ?_)
    refine areg_run 3 (by simp [push_cast, g1, a5, a6]; exact rfl) ?_
    refine areg_gi cK (by simp [AS.ev, AS.put]) fun V3 => ?_
    refine areg_end (by simp [push_cast]; exact rfl) ?_
    exact ⟨V3, trivial, Le.cat (by simp [leT]) (by simp [leH])⟩
end Go.Cab
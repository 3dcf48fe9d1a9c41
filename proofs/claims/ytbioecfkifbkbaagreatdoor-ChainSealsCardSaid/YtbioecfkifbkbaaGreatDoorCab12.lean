/- Part 12 of what the proof stands on: V7, V8, V9, H8. -/
import Derived.Test.YtbioecfkifbkbaaGreatDoorCab11
import Derived.Lib.ItoaMem
import Derived.Lib.ItoaLen
import Derived.Test.YtbioecfkifbkbaaGreatDoorCab10
import Derived.Test.YtbioecfkifbkbaaGreatDoorCab07
set_option linter.unusedSimpArgs false
set_option linter.unnecessarySimpa false
set_option linter.unusedVariables false
set_option linter.unusedSectionVars false
namespace Go.Cab
open Go.RowKit
open Classical
theorem risV_snoc {α : Type} (cmp : α → α → Int) : ∀ (l : List α) (a b : α), risV cmp (l ++ [a, b]) = (risV cmp (l ++ [a]) && decide (cmp a b < 0))
  | [], a, b => by simp [risV]
  | [x], a, b => by simp [risV, Bool.and_assoc]
  | x :: y :: l, a, b => by
    have := risV_snoc cmp (y :: l) a b
    simp only [List.cons_append, risV] at this ⊢
    rw [this, Bool.and_assoc]
theorem risV_take {α : Type} (cmp : α → α → Int) : ∀ {l : List α} (i : Nat), risV cmp l = true → risV cmp (l.take i) = true
  | [], _, h => by simpa using h
  | [x], i, _ => risV_short cmp (by simp; omega)
  | x :: y :: l, 0, _ => rfl
  | x :: y :: l, 1, _ => rfl
  | x :: y :: l, i + 2, h => by
    simp only [risV, Bool.and_eq_true] at h
    have := risV_take cmp (l := y :: l) (i + 1) h.2
    simp only [List.take_succ_cons, risV, Bool.and_eq_true] at this ⊢
    exact ⟨h.1, this⟩
theorem take_two {α : Type} {l : List α} {i : Nat} {a b : α} (ha : l[i]? = some a) (hb : l[i + 1]? = some b) : l.take (i + 2) = l.take i ++ [a, b] := by
  rw [List.take_add_one, List.take_add_one, ha, hb]; simp
def rA (au : Int) (sq : Nat) (PP : List AV) (kd : Int) (WW : List AV) (ofk check text : List UInt8) (BB : List AV) : AV := .st [1, 1, 1, 1, 1, 32, 32, 1, 1] [.lit (ji au), .lit (wn sq), .sl 32 PP, .lit (ji kd), .sl 1 WW, keyA ofk, keyA check, .lit (tx text), .sl 36 BB]
def rS (A : AV) (l1 : Nat × Nat) (ts : List AV) (n : Nat) : AS := ⟨0, [.any, .ptr 1 l1 0 [], .lit (.bool false)] ++ ts ++ List.replicate n .any, [none, some (.box l1 71 A)] ++ List.replicate 154 none⟩
def whoOk (l : List Int) : Bool := risV cmpN l && !l.any fun n => !memB n
def boxOk (o : OpV) (l : List BoxV) : Bool := risV (fun a b => cmpN a.to b.to) l && !l.any (badBox o)
def inT (o : OpV) (i : Nat) : Bool := (o.who.take i).any fun x => decide (x = o.author)
theorem cmpN_lt (a b : Int) : decide (cmpN a b < 0) = decide (a < b) := by
  unfold cmpN
  split
  · simp [*]
  · split <;> simp <;> omega
theorem whoOk_snoc {l : List Int} {p a : Int} (h : whoOk (l ++ [p]) = true) : whoOk (l ++ [p, a]) = (decide (p < a) && memB a) := by
  unfold whoOk at *
  simp only [Bool.and_eq_true] at h
  rw [risV_snoc, h.1, cmpN_lt]
  have h2 := h.2
  simp only [List.any_append, List.any_cons, List.any_nil, Bool.or_false, Bool.not_or, Bool.and_eq_true, Bool.not_not] at h2 ⊢
  rw [h2.1, h2.2]
  simp
theorem whoOk_take {l : List Int} (i : Nat) (h : whoOk l = true) : whoOk (l.take i) = true := by
  unfold whoOk at *
  simp only [Bool.and_eq_true, Bool.not_eq_true'] at h ⊢
  refine ⟨risV_take _ i h.1, ?_⟩
  rw [List.any_eq_false] at h ⊢
  exact fun x hx => h.2 x (List.mem_of_mem_take hx)
theorem boxOk_snoc {o : OpV} {l : List BoxV} {p a : BoxV} (h : boxOk o (l ++ [p]) = true) : boxOk o (l ++ [p, a]) = (decide (p.to < a.to) && !badBox o a) := by
  unfold boxOk at *
  simp only [Bool.and_eq_true] at h
  rw [risV_snoc, h.1, cmpN_lt]
  have h2 := h.2
  simp only [List.any_append, List.any_cons, List.any_nil, Bool.or_false, Bool.not_or, Bool.and_eq_true] at h2 ⊢
  rw [h2.1, h2.2]
  simp
theorem boxOk_take {o : OpV} {l : List BoxV} (i : Nat) (h : boxOk o l = true) : boxOk o (l.take i) = true := by
  unfold boxOk at *
  simp only [Bool.and_eq_true, Bool.not_eq_true'] at h ⊢
  refine ⟨risV_take _ i h.1, ?_⟩
  rw [List.any_eq_false] at h ⊢
  exact fun x hx => h.2 x (List.mem_of_mem_take hx)
attribute [local irreducible] AReg
set_option maxRecDepth 20000 in
set_option maxHeartbeats 16000000 in
theorem rightR_call {o : OpV} (ho : OpOk o) (hbb : ∀ b ∈ o.boxes, b.body.length < 9223372036854775808) : PCall Go.Proofs.Tryz.prog 36 [opA o] (.val (.lit (.bool (rightV o)))) := by
  have h722 := fc722_eq
  have o5 := ho.ofk
  have o6 := ho.check
  have cm := memR_call o.author
  have cK := kind_call ho (inB o)
  have hpl : (klA o.parents).length = o.parents.length := klA_len _
  have hwl : (o.who.map fun x => AV.lit (ji x)).length = o.who.length := List.length_map _
  have hbl : (o.boxes.map fun x => boxA x).length = o.boxes.length := List.length_map _
  have hwn := ho.who; have hpn := ho.parents; have hbn := ho.boxes
  have hT := ho.text
  have gP : ∀ i a, o.parents[i]? = some a → (klA o.parents)[i]? = some (keyA a) := fun i a h => (klA_at h).1
  have gW : ∀ i a, o.who[i]? = some a → (o.who.map fun x => AV.lit (ji x))[i]? = some (AV.lit (ji a)) := fun i a h => by rw [List.getElem?_map, h]; rfl
  have gB : ∀ i a, o.boxes[i]? = some a → (o.boxes.map fun x => boxA x)[i]? = some (boxA a) := fun i a h => by rw [List.getElem?_map, h]; rfl
  have hR := rightV_eq o
  have finF : ∀ (s : AS), rightV o = false → s.ev (.tmp 2) = .lit (.bool false) → Fin [.tmp 2] s (.val (.lit (.bool (rightV o)))) := fun s h1 h2 => by rw [h1]; exact fin_tmp (by simp [RVal, AS.coe, h2]) (by simp)
  have hA : opA o = rA o.author o.seq (klA o.parents) o.kind (o.who.map fun x => AV.lit (ji x)) o.ofk o.check o.text (o.boxes.map fun x => boxA x) := rfl
  rw [hA] at cK ⊢
  have hc1 : c1R o ↔ (memB o.author = false ∨ o.seq = 0 ∨ o.kind < 1 ∨ 7 < o.kind ∨ 8 < o.parents.length ∨ 8 < o.boxes.length ∨ 256 < o.text.length) := Iff.rfl
  obtain ⟨c1, hc1d⟩ : ∃ c, c = c1R o := ⟨_, rfl⟩
  rw [← hc1d] at hc1
  simp only [← hc1d] at hR
  generalize hPP : klA o.parents = PP at *
  generalize hWW : (o.who.map fun x => AV.lit (ji x)) = WW at *
  generalize hBB : (o.boxes.map fun x => boxA x) = BB at *
  generalize memB o.author = mb at *
  generalize hpn0 : o.parents.length = pn at *
  generalize hbn0 : o.boxes.length = bn at *
  generalize hwn0 : o.who.length = wl at *
  generalize htl0 : o.text.length = tl at *
  generalize o.kind = kd at *
  generalize hsq : o.seq = sq at *
  generalize hau : o.author = au at *
  generalize hofk : o.ofk = ofk at *
  generalize hchk : o.check = check at *
  generalize htxt : o.text = text at *
  refine PCall.of h722 rfl ?_; show AC.wp _ fb722 (AS.init [rA au sq PP kd WW ofk check text BB] 1 156) (fun x s => match x with | .exit _ => False | _ => Fin [(.tmp 2)] s _); unfold fb722 AS.init
  have hsz : ∀ l : Nat × Nat, True := fun _ => trivial
  unfold rA
  refine wp_sg (areg_bx rfl (by simp [AS.ev, AV.sz, o5, o6]) fun l1 => areg_end (by simp [push_cast]; exact rfl) ?_)
  refine wp_seqM (fun _ : Unit => rS (rA au sq PP kd WW ofk check text BB) l1 [] 153) (fun _ => ¬ c1) (fun _ hn1 => ?_) ?_
  · have hPk := fun i k h => gP i k h
    have hc0 : decide c1 = false := by simp [hn1]
    rw [hc0] at hR
    refine wp_seqM (fun _ : Unit => rS (rA au sq PP kd WW ofk check text BB) l1 [] 153) (fun _ => risV Go.Lib.compareBytes o.parents = true) (fun _ hr1 => ?_) ?_
    · rw [hr1] at hR
      simp only [Bool.not_false, Bool.true_and] at hR
      unfold rS
      refine wp_sr (by simp [push_cast]; exact rfl) ?_
      refine wp_seqM (fun _ : Unit => rS (rA au sq PP kd WW ofk check text BB) l1 [.any, .lit (.bool (inB o))] 151) (fun _ => whoOk o.who = true) (fun _ hr2 => ?_) ?_
      · have hr2' : (risV cmpN o.who && !o.who.any fun n => !memB n) = true := hr2
        rw [hr2'] at hR
        simp only [Bool.true_and] at hR
        refine wp_seqM (fun _ : Unit => rS (rA au sq PP kd WW ofk check text BB) l1 [.any, .lit (.bool (inB o))] 151) (fun _ => boxOk o o.boxes = true) (fun _ hr3 => ?_) ?_
        · have hr3' : (risV (fun a b => cmpN a.to b.to) o.boxes && !o.boxes.any (badBox o)) = true := hr3
          rw [hr3'] at hR
          simp only [Bool.true_and] at hR
          unfold rS rA
          refine wp_sg ?_
          refine areg_run 2 (by simp [push_cast, o5, o6]; exact rfl) ?_
          refine areg_ca (by simp [AS.ev, AS.coe, AS.put, rA, keyA] <;> exact rfl) cK ?_
          refine areg_end (by simp [push_cast]; exact rfl) (wp_ret' ?_)
          rw [hR]
          exact fin_tmp (by simp [RVal, AS.ev, AS.coe]) (by simp)
        · unfold rS
          have F3 : ∀ n, boxOk o (o.boxes.take n) = false → rightV o = false := fun n h => by
            have hw : boxOk o o.boxes = false := by
              cases hh : boxOk o o.boxes with
              | false => rfl
              | true => rw [boxOk_take n hh] at h; cases h
            unfold boxOk at hw
            rw [hR, hw]; simp
          refine wp_seq' (wp_r (by simp [push_cast]; exact rfl) (wp_block' (wp_loop_ret bn (fun i => rS (rA au sq PP kd WW ofk check text BB) l1 [.any, .lit (.bool (inB o)), .any, .lit (jn i)] 149) (fun i => boxOk o (o.boxes.take i) = true) (Le.mk rfl (by simp [rS, leT]) (by simp [rS, leH, rA])) rfl ?_)))
          intro i hi hI
          unfold rS rA
          by_cases hlt : i < bn
          · obtain ⟨b, hb⟩ : ∃ b, o.boxes[i]? = some b := ⟨_, List.getElem?_eq_getElem (by omega)⟩
            have cw := memR_call b.to
            obtain ⟨m, hm⟩ : ∃ m, memB b.to = m := ⟨_, rfl⟩
            rw [hm] at cw
            have ga := gB i b hb
            have ga' : ∀ h, BB[i]'h = boxA b := fun h => by rw [List.getElem?_eq_getElem h] at ga; exact Option.some.inj ga
            have bA : ∀ z : BoxV, boxA z = .st [1, 34, 1] [.lit (ji z.to), .st [32, 1, 1] [keyA z.pub, .lit (wn z.n), .lit (wn z.prev)], .lit (tx z.body)] := fun _ => rfl
            have hb32 := (ho.bok b (List.mem_of_getElem? hb)).pub
            have hbl2 := hbb b (List.mem_of_getElem? hb)
            have q1 : i + 1 < 9223372036854775808 := by omega
            have hbad : badBox o b = (!memB b.to || decide (b.to = au) || decide (256 < b.body.length)) := by unfold badBox; rw [hau]
            obtain ⟨bl0, hbl0⟩ : ∃ n, b.body.length = n := ⟨_, rfl⟩
            rw [hbl0] at hbad hbl2
            refine wp_seq' (wp_sr (by simp [push_cast, hbl, hlt]; exact rfl) (wp_cond_t (by simp [AS.ev]) (wp_skip' ?_)))
            refine wp_seq' (wp_block' (wp_sg ?_))
            refine areg_run 5 (by simp [push_cast, hbl, hlt, ga, ga', bA, hb32]; exact rfl) ?_
            refine areg_al' (z' := .st [1, 34, 1] [.lit (jn 0), .st [32, 1, 1] [keyA zk, .lit (wn 0), .lit (wn 0)], .lit (tx [])]) (by rw [zk_eq]) fun l7 => areg_end (by simp [push_cast, hb32, zk_len]; exact rfl) ?_
            refine wp_seq' (wp_rg ?_)
            refine areg_run 2 (by simp [push_cast]; exact rfl) ?_
            refine areg_cv (by simp [AS.ev, AS.coe, AS.put] <;> exact rfl) cw ?_
            have bad : badBox o b = true → rightV o = false := fun h => F3 (i + 1) (by unfold boxOk; rw [List.take_add_one, hb]; simp [h])
            by_cases hmb : m = false
            · rw [hmb] at hm
              (repeat (first | (with_reducible apply areg_ng); focus (simp [AS.ev, AS.put, hmb]; done) | (with_reducible apply areg_op); focus (simp [push_cast, hmb]; exact rfl)))
              refine areg_nil (wp_cond_t (by simp [AS.ev, AS.put]) ?_)
              refine wp_sr (by simp [push_cast]; exact rfl) (wp_ret' ?_)
              exact finF _ (bad (by rw [hbad, hm]; rfl)) (by simp [AS.ev, AS.put])
            have hmb' : m = true := by simpa using hmb
            rw [hmb'] at hm
            by_cases hba : b.to = au
            · (repeat (first | (with_reducible apply areg_ng); focus (simp [AS.ev, AS.put, hmb', hba]; done) | (with_reducible apply areg_op); focus (simp [push_cast, hmb', hba]; exact rfl)))
              refine areg_nil (wp_cond_t (by simp [AS.ev, AS.put]) ?_)
              refine wp_sr (by simp [push_cast]; exact rfl) (wp_ret' ?_)
              exact finF _ (bad (by rw [hbad, hm]; simp [hba])) (by simp [AS.ev, AS.put])
            by_cases hbb2 : 256 < bl0
            · (repeat (first | (with_reducible apply areg_ng); focus (simp [AS.ev, AS.put, hmb', hba, hbl0, hbb2]; done) | (with_reducible apply areg_op); focus (simp [push_cast, hmb', hba, hbl0, hbb2]; exact rfl)))
              refine areg_nil (wp_cond_t (by simp [AS.ev, AS.put]) ?_)
              refine wp_sr (by simp [push_cast]; exact rfl) (wp_ret' ?_)
              exact finF _ (bad (by rw [hbad, hm]; simp [hbb2])) (by simp [AS.ev, AS.put])
            have hgood : badBox o b = false := by rw [hbad, hm]; simp [hba]; omega
            cases i with
            | zero =>
              (repeat (first | (with_reducible apply areg_ng); focus (simp [AS.ev, AS.put, hmb', hba, hbl0, hbb2]; done) | (with_reducible apply areg_op); focus (simp [push_cast, hmb', hba, hbl0, hbb2]; exact rfl)))
              refine areg_nil (wp_cond_f (by simp [AS.ev, AS.put]) (wp_skip' ?_))
              refine wp_r (by simp [push_cast, q1]; exact rfl) ?_
              refine ⟨hlt, ?_, Le.mk rfl (by simp [rS, leT, AS.put]) (by simp [rS, leH, rA, keyA, AS.put])⟩
              unfold boxOk
              rw [List.take_add_one, hb]
              simp [hgood, risV]
            | succ k =>
              obtain ⟨p, hp⟩ : ∃ p, o.boxes[k]? = some p := ⟨_, List.getElem?_eq_getElem (by omega)⟩
              have gp := gB k p hp
              have gp' : ∀ h, BB[k]'h = boxA p := fun h => by rw [List.getElem?_eq_getElem h] at gp; exact Option.some.inj gp
              have hlk : k < bn := by omega
              have q3 : binVal .sub (jn (k + 1)) (jn 1) = some (jn k) := by rw [bin_subj _ _ (by omega) (by omega)]; rfl
              have hsn : boxOk o (o.boxes.take (k + 1 + 1)) = (decide (p.to < b.to) && !badBox o b) := by
                rw [take_two hp hb]
                refine boxOk_snoc ?_
                rw [List.take_add_one, hp] at hI
                exact hI
              rw [hgood] at hsn
              have hk0 : 0 < k + 1 := by omega
              by_cases hpa : p.to < b.to
              · have hpa' : ¬ b.to ≤ p.to := by omega
                (repeat (first | (with_reducible apply areg_ng); focus (simp [AS.ev, AS.put, hmb', hba, hbl0, hbb2, hbl, hlt, hlk, gp, gp', bA, q3, hk0, hpa']; done) | (with_reducible apply areg_op); focus (simp [push_cast, hmb', hba, hbl0, hbb2, hbl, hlt, hlk, gp, gp', bA, q3, hk0, hpa']; exact rfl)))
                refine areg_nil (wp_cond_f (by simp [AS.ev, AS.put]) (wp_skip' ?_))
                refine wp_r (by simp [push_cast, q1]; exact rfl) ?_
                exact ⟨hlt, by rw [hsn]; simp [hpa], Le.mk rfl (by simp [rS, leT, AS.put]) (by simp [rS, leH, rA, keyA, AS.put])⟩
              · have hpa' : b.to ≤ p.to := by omega
                (repeat (first | (with_reducible apply areg_ng); focus (simp [AS.ev, AS.put, hmb', hba, hbl0, hbb2, hbl, hlt, hlk, gp, gp', bA, q3, hk0, hpa']; done) | (with_reducible apply areg_op); focus (simp [push_cast, hmb', hba, hbl0, hbb2, hbl, hlt, hlk, gp, gp', bA, q3, hk0, hpa']; exact rfl)))
                refine areg_nil (wp_cond_t (by simp [AS.ev, AS.put]) ?_)
                refine wp_sr (by simp [push_cast]; exact rfl) (wp_ret' ?_)
                exact finF _ (F3 (k + 1 + 1) (by rw [hsn]; simp [hpa])) (by simp [AS.ev, AS.put])
          · have : i = bn := by omega
            subst this
            rw [List.take_of_length_le (by omega)] at hI
            refine wp_seq' (wp_sr (by simp [push_cast, hbl]; exact rfl) (wp_cond_f (by simp [AS.ev]) (wp_exit' (if_hit rfl ?_))))
            exact ⟨(), hI, Le.mk rfl (by simp [rS, leT]) (by simp [rS, leH, rA, keyA])⟩
      · unfold rS
        have F2 : ∀ n, whoOk (o.who.take n) = false → rightV o = false := fun n h => by
          have hw : whoOk o.who = false := by
            cases hh : whoOk o.who with
            | false => rfl
            | true => rw [whoOk_take n hh] at h; cases h
          unfold whoOk at hw
          rw [hR, hw]; simp
        refine wp_seq' (wp_r (by simp [push_cast]; exact rfl) (wp_block' (wp_loop_ret wl (fun i => rS (rA au sq PP kd WW ofk check text BB) l1 [.any, .lit (.bool (inT o i)), .lit (jn i)] 150) (fun i => whoOk (o.who.take i) = true) (Le.mk rfl (by simp [rS, leT, inT]) (by simp [rS, leH, rA])) rfl ?_)))
        intro i hi hI
        unfold rS rA
        by_cases hlt : i < wl
        · obtain ⟨a, ha⟩ : ∃ a, o.who[i]? = some a := ⟨_, List.getElem?_eq_getElem (by omega)⟩
          have cw := memR_call a
          obtain ⟨m, hm⟩ : ∃ m, memB a = m := ⟨_, rfl⟩
          rw [hm] at cw
          have ga := gW i a ha
          have ga' : ∀ h, WW[i]'h = AV.lit (ji a) := fun h => by rw [List.getElem?_eq_getElem h] at ga; exact Option.some.inj ga
          have q1 : i + 1 < 9223372036854775808 := by omega
          have hin' : inT o (i + 1) = (inT o i || decide (a = au)) := by unfold inT; rw [List.take_add_one, ha, hau]; simp
          refine wp_seq' (wp_sr (by simp [push_cast, hwl, hlt]; exact rfl) (wp_cond_t (by simp [AS.ev]) (wp_skip' ?_)))
          refine wp_seq' (wp_block' ?_)
          refine wp_seqM (fun _ : Unit => rS (rA au sq PP kd WW ofk check text BB) l1 [.any, .lit (.bool (inT o i)), .lit (jn i)] 150) (fun _ => whoOk (o.who.take (i + 1)) = true) (fun _ hok => ?_) ?_
          · unfold rS rA
            refine wp_rg ?_
            by_cases hin : inT o i = true
            · (repeat (first | (with_reducible apply areg_ng); focus (simp [AS.ev, AS.put, hwl, hlt, ga, ga', hin]; done) | (with_reducible apply areg_op); focus (simp [push_cast, hwl, hlt, ga, ga', hin]; exact rfl)))
              refine areg_nil ?_
              refine wp_r (by simp [push_cast, q1]; exact rfl) ?_
              exact ⟨hlt, hok, Le.mk rfl (by simp [rS, leT, hin', hin]) (by simp [rS, leH, rA, keyA])⟩
            · have hin2 : inT o i = false := by simpa using hin
              (repeat (first | (with_reducible apply areg_ng); focus (simp [AS.ev, AS.put, hwl, hlt, ga, ga', hin2]; done) | (with_reducible apply areg_op); focus (simp [push_cast, hwl, hlt, ga, ga', hin2]; exact rfl)))
              refine areg_nil ?_
              refine wp_r (by simp [push_cast, q1]; exact rfl) ?_
              exact ⟨hlt, hok, Le.mk rfl (by simp [rS, leT, hin', hin]) (by simp [rS, leH, rA, keyA])⟩
          · refine wp_seq' (wp_rg ?_)
            refine areg_run 5 (by simp [push_cast, hwl, hlt, ga, ga']; exact rfl) ?_
            refine areg_cv (by simp [AS.ev, AS.coe, AS.put] <;> exact rfl) cw ?_
            by_cases hmb : m = false
            · rw [hmb] at hm
              (repeat (first | (with_reducible apply areg_ng); focus (simp [AS.ev, AS.put, hmb]; done) | (with_reducible apply areg_op); focus (simp [push_cast, hmb]; exact rfl)))
              refine areg_nil (wp_cond_t (by simp [AS.ev, AS.put]) ?_)
              refine wp_sr (by simp [push_cast]; exact rfl) (wp_ret' ?_)
              refine finF _ (F2 (i + 1) ?_) (by simp [AS.ev, AS.put])
              unfold whoOk
              rw [List.take_add_one, ha]
              simp [hm]
            · have hmb' : m = true := by simpa using hmb
              rw [hmb'] at hm
              cases i with
              | zero =>
                (repeat (first | (with_reducible apply areg_ng); focus (simp [AS.ev, AS.put, hmb']; done) | (with_reducible apply areg_op); focus (simp [push_cast, hmb']; exact rfl)))
                refine areg_nil (wp_cond_f (by simp [AS.ev, AS.put]) (wp_skip' ?_))
                refine ⟨(), ?_, Le.mk rfl (by simp [rS, leT, AS.put]) (by simp [rS, leH, rA, keyA, AS.put])⟩
                unfold whoOk
                rw [List.take_add_one, ha]
                simp [hm, risV]
              | succ k =>
                obtain ⟨p, hp⟩ : ∃ p, o.who[k]? = some p := ⟨_, List.getElem?_eq_getElem (by omega)⟩
                have gp := gW k p hp
                have gp' : ∀ h, WW[k]'h = AV.lit (ji p) := fun h => by rw [List.getElem?_eq_getElem h] at gp; exact Option.some.inj gp
                have hlk : k < wl := by omega
                have q3 : binVal .sub (jn (k + 1)) (jn 1) = some (jn k) := by rw [bin_subj _ _ (by omega) (by omega)]; rfl
                have hsn : whoOk (o.who.take (k + 1 + 1)) = (decide (p < a) && memB a) := by
                  rw [take_two hp ha]
                  refine whoOk_snoc ?_
                  rw [List.take_add_one, hp] at hI
                  exact hI
                rw [hm, Bool.and_true] at hsn
                have hk0 : 0 < k + 1 := by omega
                by_cases hpa : p < a
                · have hpa' : ¬ a ≤ p := by omega
                  (repeat (first | (with_reducible apply areg_ng); focus (simp [AS.ev, AS.put, hmb', hwl, hlt, hlk, ga, ga', gp, gp', q3, hk0, hpa']; done) | (with_reducible apply areg_op); focus (simp [push_cast, hmb', hwl, hlt, hlk, ga, ga', gp, gp', q3, hk0, hpa']; exact rfl)))
                  refine areg_nil (wp_cond_f (by simp [AS.ev, AS.put]) (wp_skip' ?_))
                  exact ⟨(), by rw [hsn]; simp [hpa], Le.mk rfl (by simp [rS, leT, AS.put]) (by simp [rS, leH, rA, keyA, AS.put])⟩
                · have hpa' : a ≤ p := by omega
                  (repeat (first | (with_reducible apply areg_ng); focus (simp [AS.ev, AS.put, hmb', hwl, hlt, hlk, ga, ga', gp, gp', q3, hk0, hpa']; done) | (with_reducible apply areg_op); focus (simp [push_cast, hmb', hwl, hlt, hlk, ga, ga', gp, gp', q3, hk0, hpa']; exact rfl)))
                  refine areg_nil (wp_cond_t (by simp [AS.ev, AS.put]) ?_)
                  refine wp_sr (by simp [push_cast]; exact rfl) (wp_ret' ?_)
                  exact finF _ (F2 (k + 1 + 1) (by rw [hsn]; simp [hpa])) (by simp [AS.ev, AS.put])
        · have : i = wl := by omega
          subst this
          rw [List.take_of_length_le (by omega)] at hI
          have hin : inT o i = inB o := by unfold inT inB; rw [List.take_of_length_le (by omega)]
          refine wp_seq' (wp_sr (by simp [push_cast, hwl]; exact rfl) (wp_cond_f (by simp [AS.ev]) (wp_exit' (if_hit rfl ?_))))
          exact ⟨(), hI, Le.mk rfl (by simp [rS, leT, hin]) (by simp [rS, leH, rA, keyA])⟩
    · unfold rS
      have F1 : risV Go.Lib.compareBytes o.parents = false → rightV o = false := fun h => by rw [hR, h]; simp
      refine wp_seq' (wp_r (by simp [push_cast]; exact rfl) (wp_block' (wp_loop_m (fun i : Nat => rS (rA au sq PP kd WW ofk check text BB) l1 [.lit (jn (i + 1))] 152) (fun i => pn - i) (fun i => risV Go.Lib.compareBytes (o.parents.drop i) = risV Go.Lib.compareBytes o.parents ∧ i ≤ pn) 0 (Le.mk rfl (by simp [rS, leT]) (by simp [rS, leH, rA])) ⟨rfl, Nat.zero_le _⟩ ?_)))
      rintro i ⟨hI, hi⟩
      simp only at hI hi ⊢
      unfold rS rA
      by_cases hlt : i + 1 < pn
      · obtain ⟨a, ha⟩ : ∃ a, o.parents[i]? = some a := ⟨_, List.getElem?_eq_getElem (by omega)⟩
        obtain ⟨b, hb⟩ : ∃ b, o.parents[i + 1]? = some b := ⟨_, List.getElem?_eq_getElem (by omega)⟩
        have hd : o.parents.drop i = a :: b :: o.parents.drop (i + 2) := by
          rw [List.drop_eq_getElem_cons (by omega : i < o.parents.length), List.drop_eq_getElem_cons (by omega : i + 1 < o.parents.length)]
          rw [List.getElem?_eq_getElem (by omega : i < o.parents.length)] at ha
          rw [List.getElem?_eq_getElem (by omega : i + 1 < o.parents.length)] at hb
          rw [Option.some.inj ha, Option.some.inj hb]
        have hd1 : o.parents.drop (i + 1) = b :: o.parents.drop (i + 2) := by
          rw [List.drop_eq_getElem_cons (by omega : i + 1 < o.parents.length)]
          rw [List.getElem?_eq_getElem (by omega : i + 1 < o.parents.length)] at hb
          rw [Option.some.inj hb]
        rw [hd, risV, ← hd1] at hI
        have a32 := ho.p32 a (List.mem_of_getElem? ha)
        have b32 := ho.p32 b (List.mem_of_getElem? hb)
        have c := lessR_call a32 b32
        have ga := gP i a ha
        have gb := gP (i + 1) b hb
        have ga' : ∀ h, PP[i]'h = keyA a := fun h => by rw [List.getElem?_eq_getElem h] at ga; exact Option.some.inj ga
        have gb' : ∀ h, PP[i + 1]'h = keyA b := fun h => by rw [List.getElem?_eq_getElem h] at gb; exact Option.some.inj gb
        have q1 : i + 1 + 1 < 9223372036854775808 := by omega
        have q2 : i < pn := by omega
        have q3 : binVal .sub (jn (i + 1)) (jn 1) = some (jn i) := by rw [bin_subj _ _ (by omega) (by omega)]; rfl
        refine wp_seq' (wp_sr (by simp [push_cast, hpl, hlt]; exact rfl) (wp_cond_t (by simp [AS.ev]) (wp_skip' ?_)))
        refine wp_seq' (wp_block' (wp_seq' (wp_rg ?_)))
        refine areg_run 11 (by simp [push_cast, hpl, hlt, ga, gb, ga', gb', q2, q3, a32, b32]; exact rfl) ?_
        refine areg_cv (by simp [AS.ev, AS.coe, AS.put, keyA] <;> exact rfl) c ?_
        by_cases hz : Go.Lib.compareBytes a b < 0
        · rw [decide_eq_true hz, Bool.true_and] at hI
          refine areg_end (by simp [push_cast, hz]; exact rfl) ?_
          refine wp_cond_f (by simp [AS.ev, hz]) (wp_skip' ?_)
          refine wp_r (by simp [push_cast, q1]; exact rfl) ?_
          exact Exists.intro (i + 1) ⟨⟨hI, by omega⟩, by omega, Le.mk rfl (by simp [rS, leT]) (by simp [rS, leH, rA, keyA])⟩
        · rw [decide_eq_false hz, Bool.false_and] at hI
          refine areg_end (by simp [push_cast, hz]; exact rfl) ?_
          refine wp_cond_t (by simp [AS.ev, hz]) ?_
          refine wp_sr (by simp [push_cast]; exact rfl) (wp_ret' ?_)
          exact finF _ (F1 hI.symm) (by simp [AS.ev])
      · have hs := risV_short Go.Lib.compareBytes (l := o.parents.drop i) (by rw [List.length_drop]; omega)
        rw [hs] at hI
        refine wp_seq' (wp_sr (by simp [push_cast, hpl, hlt]; exact rfl) (wp_cond_f (by simp [AS.ev, hlt]) (wp_exit' (if_hit rfl ?_))))
        exact ⟨(), hI.symm, Le.mk rfl (by simp [rS, leT]) (by simp [rS, leH, rA, keyA])⟩
  · have T1 : c1 → rightV o = false := fun h => by rw [hR]; simp [h]
    have N1 : (∀ s, Le s (rS (rA au sq PP kd WW ofk check text BB) l1 [] 153) → True) := fun _ _ => trivial
    refine wp_seq' (wp_rg ?_)
    refine areg_run 2 (by simp [push_cast, o5, o6]; exact rfl) ?_
    refine areg_ca (by simp [AS.ev, AS.coe, AS.put] <;> exact rfl) cm ?_
    cases mb with
    | false =>
      (repeat (first | (with_reducible apply areg_ng); focus (simp [AS.ev, AS.put, o5, o6]; done) | (with_reducible apply areg_op); focus (simp [push_cast, o5, o6]; exact rfl)))
      refine areg_nil (wp_cond_t (by simp [AS.ev, AS.put]) ?_)
      refine wp_sr (by simp [push_cast]; exact rfl) (wp_ret' ?_)
      exact finF _ (T1 (hc1.2 (.inl rfl))) (by simp [AS.ev, AS.put])
    | true =>
    by_cases hs : sq = 0
    · (repeat (first | (with_reducible apply areg_ng); focus (simp [AS.ev, AS.put, o5, o6, hpl, hbl, htl0, hs]; done) | (with_reducible apply areg_op); focus (simp [push_cast, o5, o6, hpl, hbl, htl0, hs]; exact rfl)))
      refine areg_nil (wp_cond_t (by simp [AS.ev, AS.put]) ?_)
      refine wp_sr (by simp [push_cast]; exact rfl) (wp_ret' ?_)
      exact finF _ (T1 (hc1.2 (.inr (.inl hs)))) (by simp [AS.ev, AS.put])
    by_cases h1 : kd < 1
    · (repeat (first | (with_reducible apply areg_ng); focus (simp [AS.ev, AS.put, o5, o6, hpl, hbl, htl0, hs, h1]; done) | (with_reducible apply areg_op); focus (simp [push_cast, o5, o6, hpl, hbl, htl0, hs, h1]; exact rfl)))
      refine areg_nil (wp_cond_t (by simp [AS.ev, AS.put]) ?_)
      refine wp_sr (by simp [push_cast]; exact rfl) (wp_ret' ?_)
      exact finF _ (T1 (hc1.2 (.inr (.inr (.inl h1))))) (by simp [AS.ev, AS.put])
    by_cases h7 : 7 < kd
    · (repeat (first | (with_reducible apply areg_ng); focus (simp [AS.ev, AS.put, o5, o6, hpl, hbl, htl0, hs, h1, h7]; done) | (with_reducible apply areg_op); focus (simp [push_cast, o5, o6, hpl, hbl, htl0, hs, h1, h7]; exact rfl)))
      refine areg_nil (wp_cond_t (by simp [AS.ev, AS.put]) ?_)
      refine wp_sr (by simp [push_cast]; exact rfl) (wp_ret' ?_)
      exact finF _ (T1 (hc1.2 (.inr (.inr (.inr (.inl h7)))))) (by simp [AS.ev, AS.put])
    by_cases hp : 8 < pn
    · (repeat (first | (with_reducible apply areg_ng); focus (simp [AS.ev, AS.put, o5, o6, hpl, hbl, htl0, hs, h1, h7, hp]; done) | (with_reducible apply areg_op); focus (simp [push_cast, o5, o6, hpl, hbl, htl0, hs, h1, h7, hp]; exact rfl)))
      refine areg_nil (wp_cond_t (by simp [AS.ev, AS.put]) ?_)
      refine wp_sr (by simp [push_cast]; exact rfl) (wp_ret' ?_)
      exact finF _ (T1 (hc1.2 (.inr (.inr (.inr (.inr (.inl hp))))))) (by simp [AS.ev, AS.put])
    by_cases hb : 8 < bn
    · (repeat (first | (with_reducible apply areg_ng); focus (simp [AS.ev, AS.put, o5, o6, hpl, hbl, htl0, hs, h1, h7, hp, hb]; done) | (with_reducible apply areg_op); focus (simp [push_cast, o5, o6, hpl, hbl, htl0, hs, h1, h7, hp, hb]; exact rfl)))
      refine areg_nil (wp_cond_t (by simp [AS.ev, AS.put]) ?_)
      refine wp_sr (by simp [push_cast]; exact rfl) (wp_ret' ?_)
      exact finF _ (T1 (hc1.2 (.inr (.inr (.inr (.inr (.inr (.inl hb)))))))) (by simp [AS.ev, AS.put])
    by_cases ht : 256 < tl
    · (repeat (first | (with_reducible apply areg_ng); focus (simp [AS.ev, AS.put, o5, o6, hpl, hbl, htl0, hs, h1, h7, hp, hb, ht]; done) | (with_reducible apply areg_op); focus (simp [push_cast, o5, o6, hpl, hbl, htl0, hs, h1, h7, hp, hb, ht]; exact rfl)))
      refine areg_nil (wp_cond_t (by simp [AS.ev, AS.put]) ?_)
      refine wp_sr (by simp [push_cast]; exact rfl) (wp_ret' ?_)
      exact finF _ (T1 (hc1.2 (.inr (.inr (.inr (.inr (.inr (.inr (ht))))))))) (by simp [AS.ev, AS.put])
    (repeat (first | (with_reducible apply areg_ng); focus (simp [AS.ev, AS.put, o5, o6, hpl, hbl, htl0, hs, h1, h7, hp, hb, ht]; done) | (with_reducible apply areg_op); focus (simp [push_cast, o5, o6, hpl, hbl, htl0, hs, h1, h7, hp, hb, ht]; exact rfl)))
    refine areg_nil (wp_cond_f (by simp [AS.ev, AS.put]) (wp_skip' ?_))
    exact ⟨(), fun h => by rcases hc1.1 h with h | h | h | h | h | h | h <;> first | (cases h; done) | exact hs h | exact h1 h | exact h7 h | exact hp h | exact hb h | exact ht h, Le.mk rfl (by simp [rS, leT, AS.put, keyA, rA]) (by simp [rS, leH, AS.put, keyA, rA])⟩
end Go.Cab
namespace Go.Cab
open Go.RowKit
open Classical
def fb643 : AC := (.seq (.reg [⟨some 2, none, .mov (.const (tx [])), [], none⟩]) (.seq (.seq (.reg [⟨some 3, none, .mov (.tmp 0), [], none⟩, ⟨some 4, none, .bin .lss (.tmp 3) (.const (un 10)), [], none⟩]) (.cond (.tmp 4) (.seq (.reg [⟨some 5, none, .mov (.tmp 0), [], none⟩, ⟨some 6, none, .bin .add (.const (un 48)) (.tmp 5), [], none⟩, ⟨some 7, none, .cvt .u8 (.tmp 6), [], none⟩, ⟨some 8, none, .bslice 1 (.lit (bn 0)) 1 [(0, (.tmp 7))], [], none⟩, ⟨some 9, none, .b2s (.tmp 8), [], none⟩, ⟨some 2, none, .mov (.tmp 9), [], none⟩]) .ret) .skip)) (.seq (.reg [⟨some 10, none, .mov (.tmp 0), [], none⟩, ⟨some 11, none, .bin .quo (.tmp 10) (.const (un 10)), [], none⟩, ⟨some 12, none, .callv 57 [.tmp 11], [], none⟩, ⟨some 13, none, .mov (.tmp 0), [], none⟩, ⟨some 14, none, .bin .rem (.tmp 13) (.const (un 10)), [], none⟩, ⟨some 15, none, .bin .add (.const (un 48)) (.tmp 14), [], none⟩, ⟨some 16, none, .cvt .u8 (.tmp 15), [], none⟩, ⟨some 17, none, .bslice 1 (.lit (bn 0)) 1 [(0, (.tmp 16))], [], none⟩, ⟨some 18, none, .b2s (.tmp 17), [], none⟩, ⟨some 19, none, .bin .add (.tmp 12) (.tmp 18), [], none⟩, ⟨some 2, none, .mov (.tmp 19), [], none⟩]) .ret)))
def fc643 : FC := ⟨1, 20, [(.tmp 2)], fb643⟩
theorem fc643_eq : compF Go.Proofs.Tryz.prog 57 = some fc643 := by kernel_rfl
def fb724 : AC := (.seq (.reg [⟨some 1, none, .box 71 (.tmp 0), [], none⟩, ⟨some 2, none, .mov (.const (tx [])), [], none⟩]) (.seq (.reg [⟨some 5, none, .faddr 3 3 (.tmp 1), [], none⟩, ⟨some 6, none, .load false 1 (.tmp 5), [], none⟩, ⟨some 7, none, .cvt .u64 (.tmp 6), [], none⟩, ⟨some 8, none, .callv 57 [.tmp 7], [], none⟩, ⟨some 9, none, .bin .add (.const (tx [111, 112, 32])) (.tmp 8), [], none⟩, ⟨some 10, none, .bin .add (.tmp 9) (.const (tx [32])), [], none⟩, ⟨some 11, none, .faddr 0 0 (.tmp 1), [], none⟩, ⟨some 12, none, .load false 1 (.tmp 11), [], none⟩, ⟨some 13, none, .cvt .u64 (.tmp 12), [], none⟩, ⟨some 14, none, .callv 57 [.tmp 13], [], none⟩, ⟨some 15, none, .bin .add (.tmp 10) (.tmp 14), [], none⟩, ⟨some 16, none, .bin .add (.tmp 15) (.const (tx [32])), [], none⟩, ⟨some 17, none, .faddr 1 1 (.tmp 1), [], none⟩, ⟨some 18, none, .load false 1 (.tmp 17), [], none⟩, ⟨some 19, none, .cvt .u64 (.tmp 18), [], none⟩, ⟨some 20, none, .callv 57 [.tmp 19], [], none⟩, ⟨some 21, none, .bin .add (.tmp 16) (.tmp 20), [], none⟩, ⟨some 3, none, .mov (.tmp 21), [], none⟩]) (.seq (.seq (.reg [⟨some 4, none, .mov (.const (jn 0)), [], none⟩]) (.block 0 (.loop (.seq (.seq (.reg [⟨some 22, none, .mov (.tmp 4), [], none⟩, ⟨some 23, none, .faddr 4 4 (.tmp 1), [], none⟩, ⟨some 24, none, .load false 1 (.tmp 23), [], none⟩, ⟨some 25, none, .len false (.tmp 24), [], none⟩, ⟨some 26, none, .bin .lss (.tmp 22) (.tmp 25), [], none⟩]) (.cond (.tmp 26) .skip (.exit 0))) (.seq (.block 1 (.reg [⟨some 29, none, .mov (.tmp 3), [], none⟩, ⟨some 30, none, .bin .add (.tmp 29) (.const (tx [32])), [], none⟩, ⟨some 31, none, .faddr 4 4 (.tmp 1), [], none⟩, ⟨some 32, none, .load false 1 (.tmp 31), [], none⟩, ⟨some 33, none, .mov (.tmp 4), [], none⟩, ⟨some 34, none, .iaddrS 1 (.tmp 32) (.tmp 33), [], none⟩, ⟨some 35, none, .load false 1 (.tmp 34), [], none⟩, ⟨some 36, none, .cvt .u64 (.tmp 35), [], none⟩, ⟨some 37, none, .call 57 [.tmp 36], [], none⟩, ⟨some 38, none, .bin .add (.tmp 30) (.tmp 37), [], none⟩, ⟨some 3, none, .mov (.tmp 38), [], none⟩])) (.reg [⟨some 27, none, .mov (.tmp 4), [], none⟩, ⟨some 28, none, .bin .add (.tmp 27) (.const (jn 1)), [], none⟩, ⟨some 4, none, .mov (.tmp 28), [], none⟩])))))) (.seq (.reg [⟨some 39, none, .mov (.tmp 3), [], none⟩, ⟨some 2, none, .mov (.tmp 39), [], none⟩]) .ret))))
def fc724 : FC := ⟨1, 40, [(.tmp 2)], fb724⟩
theorem fc724_eq : compF Go.Proofs.Tryz.prog 40 = some fc724 := by kernel_rfl
attribute [local irreducible] AReg
set_option maxHeartbeats 4000000 in
theorem digsN_call (n : Nat) : n < 18446744073709551616 → PCall Go.Proofs.Tryz.prog 57 [.lit (un n)] (.val (.lit (tx (digs n)))) := by
  induction n using Nat.strongRecOn with
  | ind n ih =>
    intro hn
    have h643 := fc643_eq
    have m2 : (48 + n % 10) % 18446744073709551616 = 48 + n % 10 := Nat.mod_eq_of_lt (by omega)
    have m3 : (48 + n % 10) % 256 = 48 + n % 10 := Nat.mod_eq_of_lt (by omega)
    have m4 : n / 10 % 18446744073709551616 = n / 10 := Nat.mod_eq_of_lt (by omega)
    have t1 : ∀ x, x < 10 → textA (.sl 1 [.lit (bn (48 + x))]) = some (tx [dig8 x]) := fun x hx => by
      rw [bl_oneA (48 + x) (by omega)]; exact textA_sl [dig8 x]
    rw [digs]
    refine PCall.of h643 rfl ?_; show AC.wp _ fb643 (AS.init [.lit (un n)] 1 20) (fun x s => match x with | .exit _ => False | _ => Fin [(.tmp 2)] s _); unfold fb643 AS.init
    refine wp_sr (by simp [push_cast]; exact rfl) ?_
    by_cases h10 : n < 10
    · have m1 : (48 + n) % 18446744073709551616 = 48 + n := Nat.mod_eq_of_lt (by omega)
      have m5 : (48 + n) % 256 = 48 + n := Nat.mod_eq_of_lt (by omega)
      have t2 := t1 n (by omega)
      rw [dif_pos h10]
      refine wp_seq' (wp_seq' (wp_r (by simp [push_cast, h10]; exact rfl) (wp_cond_t rfl ?_)))
      refine wp_sr (by simp [push_cast, m1, m5, t2]; exact rfl) (wp_ret' ?_)
      exact fin_tmp rfl (by simp)
    · rw [dif_neg h10]
      have t2 := t1 (n % 10) (by omega)
      have c := ih (n / 10) (by omega) (by omega)
      have hl := digs_len (n / 10)
      refine wp_seq' (wp_seq' (wp_r (by simp [push_cast, h10]; exact rfl) (wp_cond_f rfl (wp_skip' ?_))))
      refine wp_sg ?_
      refine areg_run 2 (by simp [push_cast, m4]; exact rfl) ?_
      refine areg_cv (by simp [AS.ev, AS.coe, AS.put] <;> exact rfl) c ?_
      have hb : binVal .add (tx (digs (n / 10))) (tx [dig8 (n % 10)]) = some (tx (digs (n / 10) ++ [dig8 (n % 10)])) := bin_adds _ _ (by simp only [List.length_cons, List.length_nil]; omega)
      refine areg_end (by simp [push_cast, m2, m3, t2, hb]; exact rfl) (wp_ret' ?_)
      exact fin_tmp rfl (by simp)
theorem digs_dec (n : Nat) : digs n = Go.Lib.decDigits n := by
  induction n using Nat.strongRecOn with
  | ind n ih =>
    rw [digs, Go.Lib.decDigits]
    split
    · rfl
    · rw [ih (n / 10) (by omega)]; rfl
theorem digs_itoa (n : Nat) : Go.Lib.itoa (n : Int) = digs n := by rw [Go.Lib.itoa_nonneg, digs_dec]
theorem digs_short (n : Nat) (h : n < 18446744073709551616) : (digs n).length ≤ 20 := by
  rw [digs_dec, Go.Lib.decDigits_length]
  exact Go.Lib.nDigits_le20 n h
theorem cvt_uj (n : Nat) (h : n < 9223372036854775808) : cvtA .u64 (.lit (jn n)) = some (.lit (un n)) := by
  rw [cvt_64j, Nat.mod_eq_of_lt (by omega)]
theorem cvt_uw (n : Nat) (h : n < 4294967296) : cvtA .u64 (.lit (wn n)) = some (.lit (un n)) := by
  rw [cvt_64w, Nat.mod_eq_of_lt (by omega)]
theorem labelG_snoc (it : Int → List UInt8) (l : List Int) (x : Int) : labelG it (l ++ [x]) = labelG it l ++ (32 :: it x) := by simp [labelG]
end Go.Cab
namespace Go.Cab
open Go.RowKit
open Classical
def fb725 : AC := (.seq (.reg [⟨some 2, none, .box 1 (.tmp 0), [], none⟩, ⟨some 3, none, .box 71 (.tmp 1), [], none⟩, ⟨some 4, none, .alloc 32 (.arr 1 (List.replicate 32 (.lit (bn 0)))), [], none⟩]) (.seq (.seq (.reg [⟨some 6, none, .load true 71 (.tmp 3), [], none⟩, ⟨some 7, none, .call 36 [.tmp 6], [], none⟩, ⟨some 8, none, .un .not (.tmp 7), [], none⟩]) (.cond (.tmp 8) (.seq (.reg [⟨some 9, none, .build (.arr 1 (List.replicate 32 (.lit (bn 0)))) [], [], none⟩, ⟨none, none, .store 32 (.tmp 4) (.tmp 9), [], none⟩]) .ret) .skip)) (.seq (.reg [⟨some 5, none, .mov (.const (.slice .none 0 0)), [], none⟩]) (.seq (.reg [⟨some 10, none, .mov (.tmp 5), [], none⟩, ⟨some 11, none, .faddr 2 2 (.tmp 3), [], none⟩, ⟨some 12, none, .load false 1 (.tmp 11), [], none⟩, ⟨some 13, none, .append 23 32 32 (.tmp 10) (.tmp 12), [], none⟩, ⟨some 5, none, .mov (.tmp 13), [], none⟩]) (.seq (.reg [⟨some 14, none, .mov (.tmp 5), [], none⟩, ⟨some 15, none, .faddr 5 5 (.tmp 3), [], none⟩, ⟨some 16, none, .load true 32 (.tmp 15), [], none⟩, ⟨some 17, none, .build (.arr 1 (List.replicate 32 (.lit (bn 0)))) [], [], none⟩, ⟨some 18, none, .bslice 32 (.arr 1 (List.replicate 32 (.lit (bn 0)))) 2 [(0, (.tmp 16)), (1, (.tmp 17))], [], none⟩, ⟨some 19, none, .append 23 32 32 (.tmp 14) (.tmp 18), [], none⟩, ⟨some 5, none, .mov (.tmp 19), [], none⟩]) (.seq (.reg [⟨some 20, none, .load true 1 (.tmp 2), [], none⟩, ⟨some 21, none, .load true 71 (.tmp 3), [], (.some 3)⟩, ⟨some 22, none, .callv 40 [.tmp 21], [], none⟩, ⟨some 23, none, .mov (.tmp 5), [], none⟩, ⟨some 24, none, .xc (.dir 39) [.tmp 20, .tmp 22, .tmp 23] [] [], [], none⟩, ⟨none, none, .store 32 (.tmp 4) (.tmp 24), [], none⟩]) .ret))))))
def fc725 : FC := ⟨2, 25, [(.cell 4 .true 32)], fb725⟩
theorem fc725_eq : compF Go.Proofs.Tryz.prog 15 = some fc725 := by kernel_rfl
attribute [local irreducible] AReg
structure RightN (o : OpV) (kd au : Nat) : Prop where
  kind : o.kind = (kd : Int)
  author : o.author = (au : Int)
  k8 : kd < 8
  a8 : au < 8
  who : ∀ n ∈ o.who, ∃ m : Nat, n = (m : Int) ∧ m < 8
theorem rightN_of {o : OpV} (h : rightV o = true) : ∃ kd au, RightN o kd au := by
  rw [rightV_eq] at h
  simp only [Bool.and_eq_true, Bool.not_eq_true', decide_eq_false_iff_not] at h
  obtain ⟨⟨⟨⟨h1, _⟩, hw⟩, _⟩, _⟩ := h
  unfold c1R at h1
  have hm : memB o.author = true := by
    cases hh : memB o.author with
    | true => rfl
    | false => exact absurd (.inl hh) h1
  unfold memB at hm
  have hm' : 0 ≤ o.author ∧ o.author < 8 := by simpa using hm
  have hk1 : ¬ o.kind < 1 := fun h => h1 (.inr (.inr (.inl h)))
  have hk7 : ¬ 7 < o.kind := fun h => h1 (.inr (.inr (.inr (.inl h))))
  refine ⟨o.kind.toNat, o.author.toNat, by omega, by omega, by omega, by omega, fun n hn => ?_⟩
  have := hw.2
  rw [List.any_eq_false] at this
  have hb := this n hn
  unfold memB at hb
  have hb' : 0 ≤ n ∧ n < 8 := by simpa using hb
  exact ⟨n.toNat, by omega, by omega⟩
def lbS (A : AV) (l1 : Nat × Nat) (s : List UInt8) (i : Nat) : AS := ⟨0, [.any, .ptr 1 l1 0 [], .any, .lit (tx s), .lit (jn i)] ++ List.replicate 35 .any, [none, some (.box l1 71 A)] ++ List.replicate 38 none⟩
def lbE (A : AV) (l1 : Nat × Nat) (s : List UInt8) : AS := ⟨0, [.any, .ptr 1 l1 0 [], .any, .lit (tx s)] ++ List.replicate 36 .any, [none, some (.box l1 71 A)] ++ List.replicate 38 none⟩
def lab0 (kd au sq : Nat) : List UInt8 := [111, 112, 32] ++ digs kd ++ [32] ++ digs au ++ [32] ++ digs sq
theorem lab0_eq {o : OpV} {kd au : Nat} (h : RightN o kd au) : labelT Go.Lib.itoa o = lab0 kd au o.seq ++ labelG Go.Lib.itoa o.who := by
  unfold labelT labT numsV lab0
  rw [h.kind, h.author]
  simp [labelG, digs_itoa]
set_option maxHeartbeats 8000000 in
theorem labelR_call {o : OpV} (ho : OpOk o) {kd au : Nat} (hr : RightN o kd au) (hw : o.who.length < 10000) : PCall Go.Proofs.Tryz.prog 40 [opA o] (.val (.lit (tx (labelT Go.Lib.itoa o)))) := by
  have h724 := fc724_eq
  rw [lab0_eq hr]
  have o5 := ho.ofk
  have o6 := ho.check
  have hsq := ho.seq
  have hwl : (o.who.map fun x => AV.lit (ji x)).length = o.who.length := List.length_map _
  have hA : opA o = rA au o.seq (klA o.parents) kd (o.who.map fun x => AV.lit (ji x)) o.ofk o.check o.text (o.boxes.map fun x => boxA x) := by rw [← hr.kind, ← hr.author]; rfl
  rw [hA]
  have gW : ∀ i (a : Nat), o.who[i]? = some (a : Int) → (o.who.map fun x => AV.lit (ji x))[i]? = some (AV.lit (jn a)) := fun i a h => by rw [List.getElem?_map, h]; rfl
  have ck := digsN_call kd (by have := hr.k8; omega)
  have ca := digsN_call au (by have := hr.a8; omega)
  have cs := digsN_call o.seq (by omega)
  have lk := digs_short kd (by have := hr.k8; omega)
  have la := digs_short au (by have := hr.a8; omega)
  have ls := digs_short o.seq (by omega)
  have vk := cvt_uj kd (by have := hr.k8; omega)
  have va := cvt_uj au (by have := hr.a8; omega)
  have vs := cvt_uw o.seq hsq
  have hwho := hr.who
  have jk : ji (kd : Int) = jn kd := rfl
  have ja : ji (au : Int) = jn au := rfl
  unfold lab0
  have hlen : ([111, 112, 32] ++ digs kd ++ [32] ++ digs au ++ [32] ++ digs o.seq).length ≤ 65 := by simp; omega
  have b1 : binVal .add (tx [111, 112, 32]) (tx (digs kd)) = some (tx ([111, 112, 32] ++ digs kd)) := bin_adds _ _ (by simp; omega)
  have b2 : binVal .add (tx ([111, 112, 32] ++ digs kd)) (tx [32]) = some (tx ([111, 112, 32] ++ digs kd ++ [32])) := bin_adds _ _ (by simp; omega)
  have b3 : binVal .add (tx ([111, 112, 32] ++ digs kd ++ [32])) (tx (digs au)) = some (tx ([111, 112, 32] ++ digs kd ++ [32] ++ digs au)) := bin_adds _ _ (by simp; omega)
  have b4 : binVal .add (tx ([111, 112, 32] ++ digs kd ++ [32] ++ digs au)) (tx [32]) = some (tx ([111, 112, 32] ++ digs kd ++ [32] ++ digs au ++ [32])) := bin_adds _ _ (by simp; omega)
  have b5 : binVal .add (tx ([111, 112, 32] ++ digs kd ++ [32] ++ digs au ++ [32])) (tx (digs o.seq)) = some (tx ([111, 112, 32] ++ digs kd ++ [32] ++ digs au ++ [32] ++ digs o.seq)) := bin_adds _ _ (by simp; omega)
  generalize [111, 112, 32] ++ digs kd ++ [32] ++ digs au ++ [32] ++ digs o.seq = s5 at *
  generalize [111, 112, 32] ++ digs kd ++ [32] ++ digs au ++ [32] = s4 at *
  generalize [111, 112, 32] ++ digs kd ++ [32] ++ digs au = s3 at *
  generalize [111, 112, 32] ++ digs kd ++ [32] = s2 at *
  generalize [111, 112, 32] ++ digs kd = s1 at *
  generalize hWW : (o.who.map fun x => AV.lit (ji x)) = WW at *
  generalize klA o.parents = PP at *
  generalize (o.boxes.map fun x => boxA x) = BB at *
  generalize o.ofk = ofk at *
  generalize o.check = check at *
  generalize o.seq = sq at *
  refine PCall.of h724 rfl ?_; show AC.wp _ fb724 (AS.init [rA au sq PP kd WW ofk check o.text BB] 1 40) (fun x s => match x with | .exit _ => False | _ => Fin [(.tmp 2)] s _); unfold fb724 AS.init
  unfold rA
  refine wp_sg (areg_bx rfl (by simp [AS.ev, AV.sz, o5, o6]) fun l1 => areg_end (by simp [push_cast]; exact rfl) ?_)
  refine wp_sg ?_
  refine areg_run 3 (by simp [push_cast, o5, o6, jk, vk]; exact rfl) ?_
  refine areg_cv (by simp [AS.ev, AS.coe, AS.put] <;> exact rfl) ck ?_
  refine areg_run 5 (by simp [push_cast, o5, o6, ja, va, b1, b2]; exact rfl) ?_
  refine areg_cv (by simp [AS.ev, AS.coe, AS.put] <;> exact rfl) ca ?_
  refine areg_run 5 (by simp [push_cast, o5, o6, vs, b3, b4]; exact rfl) ?_
  refine areg_cv (by simp [AS.ev, AS.coe, AS.put] <;> exact rfl) cs ?_
  refine areg_end (by simp [push_cast, b5]; exact rfl) ?_
  have hgl : ∀ i, i ≤ o.who.length → (labelG Go.Lib.itoa (o.who.take i)).length ≤ 310000 := fun i hi => by
    have := labelG_len (it := Go.Lib.itoa) (ns := o.who.take i) (fun n hn => by
      obtain ⟨m, rfl, hm⟩ := hwho n (List.mem_of_mem_take hn)
      rw [digs_itoa]
      have := digs_short m (by omega)
      omega)
    rw [List.length_take, Nat.min_eq_left hi] at this
    omega
  refine wp_seqM (fun _ : Unit => lbE (rA au sq PP kd WW ofk check o.text BB) l1 (s5 ++ labelG Go.Lib.itoa o.who)) (fun _ => True) (fun _ _ => ?_) ?_
  · unfold lbE
    generalize s5 ++ labelG Go.Lib.itoa o.who = s6
    refine wp_sr (by simp [push_cast]; exact rfl) (wp_ret' ?_)
    exact fin_tmp (by simp [RVal, AS.ev, AS.coe]) (by simp)
  · refine wp_seq' (wp_r (by simp [push_cast]; exact rfl) (wp_block' (wp_loop_to o.who.length (fun i => lbS (rA au sq PP kd WW ofk check o.text BB) l1 (s5 ++ labelG Go.Lib.itoa (o.who.take i)) i) ?_ ?_ ?_)))
    · exact Le.mk rfl (by simp [lbS, leT, labelG]) (by simp [lbS, leH, rA, keyA, ja, jk])
    · intro i hi
      obtain ⟨a, ha⟩ : ∃ a, o.who[i]? = some a := ⟨_, List.getElem?_eq_getElem hi⟩
      obtain ⟨m, rfl, hm⟩ := hwho a (List.mem_of_getElem? ha)
      have cm := digsN_call m (by omega)
      have lm := digs_short m (by omega)
      have vm := cvt_uj m (by omega)
      have ga := gW i m ha
      have ga' : ∀ h, WW[i]'h = AV.lit (jn m) := fun h => by rw [List.getElem?_eq_getElem h] at ga; exact Option.some.inj ga
      have hg := hgl i (by omega)
      have q1 : i + 1 < 9223372036854775808 := by omega
      have hst : s5 ++ labelG Go.Lib.itoa (o.who.take (i + 1)) = s5 ++ labelG Go.Lib.itoa (o.who.take i) ++ [32] ++ digs m := by
        rw [List.take_add_one, ha, Option.toList_some, labelG_snoc, digs_itoa]
        simp
      rw [hst]
      have hl2 : (s5 ++ labelG Go.Lib.itoa (o.who.take i)).length ≤ 400000 := by rw [List.length_append]; omega
      generalize s5 ++ labelG Go.Lib.itoa (o.who.take i) = si at *
      have d1 : binVal .add (tx si) (tx [32]) = some (tx (si ++ [32])) := bin_adds _ _ (by simp; omega)
      have d2 : binVal .add (tx (si ++ [32])) (tx (digs m)) = some (tx (si ++ [32] ++ digs m)) := bin_adds _ _ (by simp; omega)
      generalize si ++ [32] ++ digs m = s7 at *
      generalize si ++ [32] = s8 at *
      unfold lbS rA
      refine wp_seq' (wp_sr (by simp [push_cast, hwl, hi]; exact rfl) (wp_cond_t (by simp [AS.ev]) (wp_skip' ?_)))
      refine wp_seq' (wp_block' (wp_rg ?_))
      refine areg_run 8 (by simp [push_cast, hwl, hi, ga, ga', vm, d1]; exact rfl) ?_
      refine areg_ca (by simp [AS.ev, AS.coe, AS.put] <;> exact rfl) cm ?_
      refine areg_end (by simp [push_cast, d2]; exact rfl) ?_
      refine wp_r (by simp [push_cast, q1]; exact rfl) ?_
      exact Le.mk rfl (by simp [leT]) (by simp [leH, keyA])
    · rw [List.take_length]
      generalize s5 ++ labelG Go.Lib.itoa o.who = s6
      unfold lbS rA
      refine wp_seq' (wp_sr (by simp [push_cast, hwl]; exact rfl) (wp_cond_f (by simp [AS.ev]) (wp_exit' (if_hit rfl ?_))))
      exact ⟨(), trivial, Le.mk rfl (by simp [lbE, leT]) (by simp [lbE, leH, rA, keyA])⟩
set_option maxHeartbeats 8000000 in
theorem byR_call {H : List (Option Blk)} {t : Rt} {V U : Value} {ts : List Term} (hh : RtOk H t V U ts) (hok : ∀ y ∈ ts, TermOk y) (hn : ts.length < 100000) {o : OpV} (ho : OpOk o) (hbb : ∀ b ∈ o.boxes, b.body.length < 9223372036854775808) (hw : o.who.length < 1000) (hp : o.parents.length < 1000) :
    XCall Go.Proofs.Tryz.prog 15 [kitA t.b t.l, opA o] H fun r H' => r = keyA (byV Go.Lib.itoa ts o).1 ∧ ∃ V' U', H' = rtOf H t V' U' (byV Go.Lib.itoa ts o).2 := by
  have h725 := fc725_eq
  refine XCall.le ?_
  have cR := rightR_call ho hbb
  have cL : rightV o = true → PCall Go.Proofs.Tryz.prog 40 [opA o] (.val (.lit (tx (labelT Go.Lib.itoa o)))) := fun h => by
    obtain ⟨kd, au, hr⟩ := rightN_of h
    exact labelR_call ho hr (by omega)
  have hlt : rightV o = true → (labelT Go.Lib.itoa o).length < 100000 := fun h => by
    obtain ⟨kd, au, hr⟩ := rightN_of h
    have := labelG_len (it := Go.Lib.itoa) (ns := numsV o) (fun n hn => by
      have : ∃ m : Nat, n = (m : Int) ∧ m < 4294967296 := by
        simp only [numsV, List.mem_cons] at hn
        rcases hn with rfl | rfl | rfl | hn
        · exact ⟨kd, hr.kind, by have := hr.k8; omega⟩
        · exact ⟨au, hr.author, by have := hr.a8; omega⟩
        · exact ⟨o.seq, rfl, ho.seq⟩
        · obtain ⟨m, h1, h2⟩ := hr.who n hn
          exact ⟨m, h1, by omega⟩
      obtain ⟨m, rfl, hm⟩ := this
      rw [digs_itoa]
      have := digs_short m (by omega)
      omega)
    have e : (numsV o).length = o.who.length + 3 := by simp [numsV]
    unfold labelT labT
    simp only [List.length_append, List.length_cons, List.length_nil]
    omega
  have hk32 : ∀ k ∈ o.parents ++ [o.ofk, zk], k.length = 32 := by
    intro k hk
    rcases List.mem_append.1 hk with h | h
    · exact ho.p32 k h
    · simp at h
      rcases h with rfl | rfl
      · exact ho.ofk
      · exact zk_len
  have hH := fun h => rhash_gk hh hok hn (hlt h) (ks := o.parents ++ [o.ofk, zk]) (by simp; omega) hk32
  have hself := hh.self
  have G1 : ∀ i y, (rF H t i y).length = H.length := fun i y => rtOf_len _ _ _ _ _
  have o5 := ho.ofk
  have o6 := ho.check
  have kl0 : (klA o.parents).length = o.parents.length := klA_len _
  unfold byV byT
  generalize hlb : labelT Go.Lib.itoa o = lb at *
  have hA : opA o = rA o.author o.seq (klA o.parents) o.kind (o.who.map fun x => AV.lit (ji x)) o.ofk o.check o.text (o.boxes.map fun x => boxA x) := rfl
  rw [hA] at cR cL ⊢
  unfold rA at cR cL ⊢
  generalize (o.who.map fun x => AV.lit (ji x)) = WW at cR cL ⊢
  generalize (o.boxes.map fun x => boxA x) = BB at cR cL ⊢
  refine XCall.of h725 rfl ?_; show AC.wp _ fb725 ⟨H.length, [kitA t.b t.l, .st [1, 1, 1, 1, 1, 32, 32, 1, 1] [.lit (ji o.author), .lit (wn o.seq), .sl 32 (klA o.parents), .lit (ji o.kind), .sl 1 WW, keyA o.ofk, keyA o.check, .lit (tx o.text), .sl 36 BB]] ++ List.replicate (25 - 2) .any, H ++ List.replicate 25 none⟩ (fun x s => match x with | .exit _ => False | _ => ∃ s1, Le s s1 ∧ FinX [(.cell 4 .true 32)] s1 _); unfold fb725
  have hst : ∀ L, H ++ L = rF H t ts (V, U) ++ L := fun L => by unfold rF; rw [hself]
  rw [hst]
  generalize hN : H.length = N at *
  have g1 : ∀ i y L k, (rF H t i y ++ L)[N + k]? = L[k]? := fun i y L k => cat1 N _ L k (G1 i y)
  have g2 : ∀ i y L k z, (rF H t i y ++ L).set (N + k) z = rF H t i y ++ L.set k z := fun i y L k z => cat2 N _ L k z (G1 i y)
  refine wp_sg (areg_bx rfl (by simp [AS.ev, kitA, AV.sz]) fun l2 => areg_bx rfl (by simp [AS.ev, AS.put, AV.sz, o5, o6]) fun l3 => areg_al' zk_eq.symm fun l4 => areg_end (by simp [push_cast, g2]; exact rfl) ?_)
  refine wp_seq' (wp_seq' (wp_rg ?_))
  refine areg_run 1 (by simp [push_cast, g1, o5, o6]; exact rfl) ?_
  refine areg_ca (by simp [AS.ev, AS.coe, AS.put, keyA] <;> exact rfl) cR ?_
  by_cases hr : rightV o = true
  · rw [if_pos hr]
    refine areg_end (by simp [push_cast, hr]; exact rfl) ?_
    refine wp_cond_f (by simp [AS.ev, hr]) (wp_skip' ?_)
    refine wp_sr (by simp [push_cast]; exact rfl) (wp_sg ?_)
    refine areg_run 3 (by simp [push_cast, g1, o5, o6]; exact rfl) ?_
    refine areg_an (ys := klA o.parents) rfl (by simp [AS.ev, AS.put, AS.coe]) (by simp [kl0, maxLen]; omega) (by simp [kl0]; omega) fun V1 => ?_
    refine areg_end (by simp [push_cast, g2]; exact rfl) ?_
    refine wp_sgL ?_
    refine areg_run 3 (by simp [push_cast, g1, o5, o6]; exact rfl) ?_
    refine areg_bz ?_
    refine areg_bsl (els := [keyA o.ofk, keyA zk]) (by simp [fillAV, AS.ev, AS.put, AV.sub, AV.isTup, AV.sz, AV.upd, keyA, bl_len, o5, zk_len] <;> rfl) ?_
    refine areg_ap (b := N + 13) (V := V1) (ys := [keyA o.ofk, keyA zk]) rfl (by simp only [AS.blk, AS.put, g1]; rfl) (by simp [AS.ev, AS.coe, AS.put]) (by simp [kl0, maxLen]; omega) (by simp [kl0]; omega) (fun V2 => ?_) (by intro t' ht' b hb; cases ht')
    refine areg_end (by simp [push_cast, g2]; exact rfl) ?_
    refine ⟨_, Le.sealed (t := 5) (b := N + 19) (e := 23) (esz := 32) (sl := 0) (V := V2) (els := klA o.parents ++ [keyA o.ofk, keyA zk]) rfl (by simp only [AS.blk, AS.put, g1]; rfl), ?_⟩
    simp only [g2]
    have hkk : klA o.parents ++ [keyA o.ofk, keyA zk] = klA (o.parents ++ [o.ofk, zk]) := by simp [klA]
    rw [hkk]
    have hHr := hH hr
    have cLr := cL hr
    have nl := nameK_len (putN ts ⟨2, lb, o.parents ++ [o.ofk, zk]⟩)
    generalize nameK (putN ts ⟨2, lb, o.parents ++ [o.ofk, zk]⟩) = nk at *
    refine wp_sg ?_
    refine areg_run 2 (by simp [push_cast, g1, o5, o6, kitA]; exact rfl) ?_
    refine areg_cv (by simp [AS.ev, AS.coe, AS.put, keyA] <;> exact rfl) cLr ?_
    refine areg_run 1 (by simp [push_cast]; exact rfl) ?_
    refine areg_gk [kitA t.b t.l, .lit (tx lb), .sl 32 (klA (o.parents ++ [o.ofk, zk]))] G1 (by simp [AS.ev, AS.put, kitA]) (tgt_dir (by kernel_rfl) _) hHr (by simp) (by simp [AS.ev, AV.place]) fun y => ?_
    refine areg_end (by simp [push_cast, g1, g2, nl, zk_len]; exact rfl) (wp_ret' ?_)
    exact ⟨_, Le.refl _, [], _, ⟨by simp [AS.seals, RVals, RVal, AS.ev, AS.peek, AS.blk, g1, Blk.loc, Blk.cont, Blk.n, AV.nav, AV.isAgg, AV.isTup, AS.coe]; rfl, by simp [keyA]⟩, keyA nk, _, RelLe.refl _, by simp [keyA], HpLe.trim _ _, rfl, y.1, y.2, rfl⟩
  · have hr' : rightV o = false := by simpa using hr
    rw [if_neg hr]
    refine areg_end (by simp [push_cast, hr']; exact rfl) ?_
    refine wp_cond_t (by simp [AS.ev, hr']) ?_
    refine wp_sg (areg_bz (areg_end (by simp [push_cast, g1, g2, zk_len]; exact rfl) (wp_ret' ?_)))
    exact ⟨_, Le.refl _, [], _, ⟨by simp [AS.seals, RVals, RVal, AS.ev, AS.peek, AS.blk, g1, Blk.loc, Blk.cont, Blk.n, AV.nav, AV.isAgg, AV.isTup, AS.coe]; rfl, by simp [keyA]⟩, keyA zk, _, RelLe.refl _, by simp [keyA], HpLe.trim _ _, rfl, V, U, rfl⟩
end Go.Cab
namespace Go.Cab
open Go.RowKit
open Classical
def fb554 : AC := (.seq (.reg [⟨some 5, none, .box 32 (.tmp 1), [], none⟩, ⟨some 6, none, .box 32 (.tmp 2), [], none⟩, ⟨some 8, none, .mov (.const (tx [])), [], none⟩, ⟨some 9, none, .mov (.const (.slice .none 0 0)), [], none⟩, ⟨some 10, none, .mov (.const (.bool false)), [], none⟩]) (.seq (.reg [⟨some 11, none, .alloc 32 (.arr 1 (List.replicate 32 (.lit (bn 0)))), [], none⟩]) (.seq (.seq (.reg [⟨some 14, none, .mov (.tmp 3), [], none⟩, ⟨some 15, none, .len true (.tmp 14), [], none⟩, ⟨some 16, none, .bin .neq (.tmp 15) (.const (jn 32)), [], none⟩]) (.cond (.tmp 16) (.seq (.reg [⟨some 8, none, .mov (.const (tx [])), [], none⟩, ⟨some 9, none, .mov (.const (.slice .none 0 0)), [], none⟩, ⟨some 10, none, .mov (.const (.bool false)), [], none⟩]) .ret) .skip)) (.seq (.reg [⟨some 17, none, .rdp (.vslice 1 32 false false) [.tmp 11], [], none⟩, ⟨some 18, none, .mov (.tmp 3), [], none⟩, ⟨some 19, none, .ef (.copy 1) [.tmp 17, .tmp 18], [], none⟩]) (.seq (.reg [⟨some 20, none, .mov (.tmp 0), [], none⟩, ⟨some 21, none, .load true 32 (.tmp 11), [], none⟩, ⟨some 22, none, .icall 48 (.tmp 20) [.tmp 21], [], none⟩, ⟨some 12, none, .mov (.tmp 22), [], none⟩]) (.seq (.seq (.reg [⟨some 23, none, .mov (.tmp 12), [], none⟩, ⟨some 24, none, .bin .lss (.tmp 23) (.const (jn 0)), [], none⟩]) (.cond (.tmp 24) (.seq (.reg [⟨some 8, none, .mov (.const (tx [])), [], none⟩, ⟨some 9, none, .mov (.const (.slice .none 0 0)), [], none⟩, ⟨some 10, none, .mov (.const (.bool false)), [], none⟩]) .ret) .skip)) (.seq (.reg [⟨some 25, none, .mov (.tmp 0), [], none⟩, ⟨some 26, none, .nilc (.tmp 25), [], none⟩, ⟨some 27, none, .faddr 0 0 (.tmp 26), [], none⟩, ⟨some 28, none, .load false 1 (.tmp 27), [], none⟩, ⟨some 29, none, .mov (.tmp 12), [], none⟩, ⟨some 30, none, .iaddrS 3 (.tmp 28) (.tmp 29), [], none⟩, ⟨some 31, none, .load true 3 (.tmp 30), [], none⟩, ⟨some 13, none, .alloc 3 (.st [1, 1, 1] [(.lit (jn 0)), (.lit (tx [])), (.lit (.slice .none 0 0))]), [], none⟩, ⟨none, none, .store 3 (.tmp 13) (.tmp 31), [], none⟩]) (.seq (.seq (.reg [⟨some 32, none, .faddr 0 0 (.tmp 13), [], none⟩, ⟨some 33, none, .load false 1 (.tmp 32), [], none⟩, ⟨some 34, none, .bin .neq (.tmp 33) (.const (jn 6)), [], none⟩, ⟨some 35, none, .mov (.tmp 34), [], none⟩, ⟨some 36, some (35, false), .faddr 2 2 (.tmp 13), [], none⟩, ⟨some 37, some (35, false), .load false 1 (.tmp 36), [], none⟩, ⟨some 38, some (35, false), .iaddrS 32 (.tmp 37) (.const (jn 0)), [], none⟩, ⟨some 39, some (35, false), .load true 32 (.tmp 38), [], none⟩, ⟨some 40, some (35, false), .load true 32 (.tmp 5), [], none⟩, ⟨some 41, some (35, false), .eqv 23 true (.tmp 39) (.tmp 40), [], none⟩, ⟨some 42, none, .pick (.tmp 35) (.const (.bool true)) (.tmp 41), [], none⟩, ⟨some 43, none, .mov (.tmp 42), [], none⟩, ⟨some 44, some (43, false), .faddr 2 2 (.tmp 13), [], none⟩, ⟨some 45, some (43, false), .load false 1 (.tmp 44), [], none⟩, ⟨some 46, some (43, false), .iaddrS 32 (.tmp 45) (.const (jn 1)), [], none⟩, ⟨some 47, some (43, false), .load true 32 (.tmp 46), [], none⟩, ⟨some 48, some (43, false), .load true 32 (.tmp 6), [], none⟩, ⟨some 49, some (43, false), .eqv 23 true (.tmp 47) (.tmp 48), [], none⟩, ⟨some 50, none, .pick (.tmp 43) (.const (.bool true)) (.tmp 49), [], none⟩]) (.cond (.tmp 50) (.seq (.reg [⟨some 8, none, .mov (.const (tx [])), [], none⟩, ⟨some 9, none, .mov (.const (.slice .none 0 0)), [], none⟩, ⟨some 10, none, .mov (.const (.bool false)), [], none⟩]) .ret) .skip)) (.seq (.reg [⟨some 51, none, .faddr 1 1 (.tmp 13), [], none⟩, ⟨some 52, none, .load false 1 (.tmp 51), [], none⟩, ⟨some 53, none, .faddr 2 2 (.tmp 13), [], none⟩, ⟨some 54, none, .load false 1 (.tmp 53), [], none⟩, ⟨some 55, none, .rdp (.sslice 32 true false) [(.tmp 54), (.const (jn 2))], [], none⟩, ⟨some 56, none, .callv 46 [.tmp 55], [], none⟩, ⟨some 8, none, .mov (.tmp 52), [], none⟩, ⟨some 9, none, .mov (.tmp 56), [], none⟩, ⟨some 10, none, .mov (.const (.bool true)), [], none⟩]) .ret)))))))))
def fc554 : FC := ⟨4, 57, [(.tmp 8), (.tmp 9), (.tmp 10)], fb554⟩
theorem fc554_eq : compF Go.Proofs.Tryz.prog 141 = some fc554 := by kernel_rfl
theorem AVle.tupNil {esz : Nat} {vs vs' : List AV} (k : AVle (.tup vs) (.tup vs')) : AVle (.tup (.lit (.slice none 0 0) :: vs)) (.tup (.sl esz [] :: vs')) := fun Imm w cs hr => by
  cases hr with
  | tup1 _ _ c d h1 h2 =>
    cases h1
    exact .tup1 (.sl esz []) vs' _ d (.slnil esz) (k _ _ _ h2)
def openX (ts : List Term) (k b m : List UInt8) : Option Term :=
  if m.length ≠ 32 then none else if ts.length ≤ be32 m ∨ nameK (be32 m) ≠ m then none else match ts[be32 m]? with
    | some x => if x.kind = 6 ∧ x.keys.getD 0 zk = k ∧ x.keys.getD 1 zk = b then some x else none
    | none => none
def openA (o : Option Term) : AV := match o with
  | none => .tup [.lit (tx []), .sl 32 [], .lit (.bool false)]
  | some x => .tup [.lit (tx x.text), .sl 32 (klA (x.keys.drop 2)), .lit (.bool true)]
theorem open_no : RelLe (.tup [.lit (tx []), .lit (.slice none 0 0), .lit (.bool false)]) (openA none) := RelLe.tup (AVle.tupC (AVle.tupNil (AVle.refl _)))
set_option maxHeartbeats 16000000 in
theorem open_call {H : List (Option Blk)} {t : Tb} {V : Value} {ts : List Term} (hh : TbOk H t V ts) (hts : TsOk ts) {k b m : List UInt8} (hk : k.length = 32) (hb : b.length = 32) (hm : m.length < 9223372036854775808) :
    XCall Go.Proofs.Tryz.prog 141 [.ptr t.b t.l 0 [], keyA k, keyA b, .lit (tx m)] H fun r H' => r = openA (openX ts k b m) ∧ H' = H := by
  have h554 := fc554_eq
  refine XCall.le ?_
  have hn := hts.len
  have lb := hh.lb; have lj := hh.lj
  have gb := hh.hb; have gj := hh.hj
  unfold tbk at gb
  unfold trk at gj
  have c1 := fun L (h : m.length = 32) => number_call (hh.app L) (by omega) h
  obtain ⟨n, hv, hX⟩ : ∃ n, numV ts.length m = (if ts.length ≤ n ∨ nameK n ≠ m then .int .i64 (-1) else jn n) ∧ openX ts k b m = (if m.length ≠ 32 then none else if ts.length ≤ n ∨ nameK n ≠ m then none else match ts[n]? with
    | some x => if x.kind = 6 ∧ x.keys.getD 0 zk = k ∧ x.keys.getD 1 zk = b then some x else none
    | none => none) := ⟨be32 m, rfl, rfl⟩
  rw [hX]
  simp only [hv] at c1
  clear hv hX
  refine XCall.of h554 rfl ?_; show AC.wp _ fb554 ⟨H.length, [.ptr t.b t.l 0 [], keyA k, keyA b, .lit (tx m)] ++ List.replicate (57 - 4) .any, H ++ List.replicate 57 none⟩ (fun x s => match x with | .exit _ => False | _ => ∃ s1, Le s s1 ∧ FinX [(.tmp 8), (.tmp 9), (.tmp 10)] s1 _); unfold fb554
  generalize hN : H.length = N at *
  have p1 : ∀ L k, (H ++ L)[N + k]? = L[k]? := fun L k => cat1 N H L k hN
  have p2 : ∀ L k x, (H ++ L).set (N + k) x = H ++ L.set k x := fun L k x => cat2 N H L k x hN
  have pb : ∀ L, (H ++ L)[t.b]? = some (some (.box t.l 2 (.st [1, 1] [.own t.j V, .own t.m (.map (some t.r))]))) := fun L => by rw [cat4 N H L _ hN lb]; exact gb
  have pj : ∀ L, (H ++ L)[t.j]? = some (some (.row 78 V 3 (ts.map termA) 0)) := fun L => by rw [cat4 N H L _ hN lj]; exact gj
  refine wp_sg (areg_bx rfl (by simp [AS.ev, keyA, AV.sz, bl, hk]) fun l5 => areg_bx rfl (by simp [AS.ev, AS.put, keyA, AV.sz, bl, hb]) fun l6 => areg_end (by simp [push_cast, p1, p2]; exact rfl) ?_)
  refine wp_sg (areg_al' zk_eq.symm fun l11 => areg_end (by simp [push_cast, p1, p2]; exact rfl) ?_)
  refine wp_seq' ?_
  by_cases hl : m.length = 32
  · rw [if_neg (by simp [hl])]
    refine wp_sr (by simp [push_cast, hl]; exact rfl) (wp_cond_f rfl (wp_skip' ?_))
    refine wp_sg ?_
    refine areg_run 2 (by simp [push_cast]; exact rfl) ?_
    refine areg_cpk (src := m) (k' := m) rfl (by simp only [AS.blk, p1]; rfl) (listB_tx _ _) (by simp [zk_len]) (by omega) (by simp [List.drop_eq_nil_of_le, hl, zk_len]) (areg_nil ?_)
    refine wp_sg ?_
    refine areg_run 2 (by simp [push_cast, p1, p2, hl]; exact rfl) ?_
    refine areg_xc rfl (c1 _ hl) ⟨_, _, rfl, rfl⟩ ?_
    rintro r H' ⟨rfl, rfl⟩
    refine areg_end (by simp [push_cast]; exact rfl) ?_
    by_cases hnum : ts.length ≤ n ∨ nameK n ≠ m
    · rw [if_pos hnum, if_pos hnum]
      refine wp_seq' (wp_seq' (wp_r (by simp [push_cast, bin_lssm]; exact rfl) ?_))
      refine wp_cond_t rfl (wp_sr (by simp [push_cast]; exact rfl) (wp_ret' ?_))
      exact ⟨_, Le.refl _, [], _, ⟨_, rfl, by simp [AS.seals, RVals, RVal, AS.ev, AS.peek, AS.blk, p1, AS.coe], by simp⟩, openA none, H, open_no, by simp [openA], HpLe.trim _ _, rfl, rfl⟩
    rw [if_neg hnum, if_neg hnum]
    have hlt : n < ts.length := by omega
    have g1 : ts[n]? = some ts[n] := List.getElem?_eq_getElem hlt
    have hmem : ts[n] ∈ ts := List.getElem_mem hlt
    have hok := hts.ok _ hmem
    have htwo := hts.two _ hmem
    rw [g1]
    simp only
    generalize ts[n] = x at *
    obtain ⟨kd, tt', ks⟩ := x
    have g2 : (ts.map termA)[n]? = some (.st [1, 1, 1] [.lit (jn kd), .lit (tx tt'), .sl 32 (klA ks)]) := by rw [List.getElem?_map, g1]; rfl
    have g3 : ∀ h, (ts.map termA)[n]'h = .st [1, 1, 1] [.lit (jn kd), .lit (tx tt'), .sl 32 (klA ks)] := fun h => by rw [List.getElem?_eq_getElem h] at g2; exact Option.some.inj g2
    have gl : (ts.map termA).length = ts.length := List.length_map _
    generalize ts.map termA = T at *
    refine wp_seq' (wp_seq' (wp_r (by simp [push_cast]; exact rfl) (wp_cond_f rfl (wp_skip' ?_))))
    refine wp_sg ?_
    refine areg_run 7 (by simp [push_cast, pb, pj, hlt, g2, g3, gl]; exact rfl) ?_
    refine areg_al' (z' := .st [1, 1, 1] [.lit (jn 0), .lit (tx []), .lit (.slice none 0 0)]) rfl fun l13 => areg_end (by simp [push_cast, p1, p2]; exact rfl) ?_
    by_cases h6 : kd = 6
    · subst h6
      obtain ⟨a, b', r, rfl⟩ : ∃ a b' r, ks = a :: b' :: r := by
        have h2 : 2 ≤ ks.length := htwo (.inr rfl)
        match ks, h2 with
        | a :: b' :: r, _ => exact ⟨a, b', r, rfl⟩
      have ha32 : a.length = 32 := hok.k32 a (by simp)
      have hb32 : b'.length = 32 := hok.k32 b' (by simp)
      have e1 := eq_key ha32 hk
      have e2 := eq_key hb32 hb
      have kl : klA (a :: b' :: r) = keyA a :: keyA b' :: klA r := rfl
      have hr : (klA r).length < 100000 := by rw [klA_len]; have := hok.keys; simp at this; omega
      have cC := clone_call (klA r) hr
      have he : (if ({ kind := 6, text := tt', keys := a :: b' :: r } : Term).kind = 6 ∧ (a :: b' :: r).getD 0 zk = k ∧ (a :: b' :: r).getD 1 zk = b then some ({ kind := 6, text := tt', keys := a :: b' :: r } : Term) else none) = if a = k ∧ b' = b then some ⟨6, tt', a :: b' :: r⟩ else none := by simp
      rw [he]
      have hfin : (.tup [.lit (tx tt'), .sl 32 (klA r), .lit (.bool true)] : AV) = openA (some ⟨6, tt', a :: b' :: r⟩) := rfl
      rw [kl] at *
      generalize klA r = rr at *
      refine wp_seq' (wp_seq' (wp_rg ?_))
      refine areg_run 9 (by simp [push_cast, p1, ha32, hb32, hk, hb]; exact rfl) ?_
      refine areg_g (by simp [AS.ev, AS.put]) (areg_eq (by simp [AS.ev, AS.put] <;> exact rfl) (by simp [AS.ev, AS.put] <;> exact rfl) e1 rfl rfl ?_)
      by_cases hak : a = k
      · refine areg_run 7 (by simp [push_cast, p1, ha32, hb32, hk, hb, hak]; exact rfl) ?_
        refine areg_g (by simp [AS.ev, AS.put]) (areg_eq (by simp [AS.ev, AS.put] <;> exact rfl) (by simp [AS.ev, AS.put] <;> exact rfl) e2 rfl rfl ?_)
        by_cases hbk : b' = b
        · rw [if_pos (show a = k ∧ b' = b from ⟨hak, hbk⟩)]
          refine areg_end (by simp [push_cast, hbk]; exact rfl) ?_
          refine wp_cond_f (by simp [AS.ev]) (wp_skip' (wp_sg ?_))
          refine areg_run 5 (by simp [push_cast, p1]; exact rfl) ?_
          refine areg_cv (by simp [AS.ev, AS.coe, AS.put] <;> exact rfl) cC ?_
          refine areg_end (by simp [push_cast]; exact rfl) (wp_ret' ?_)
          exact ⟨_, Le.refl _, [], _, ⟨_, rfl, by simp [AS.seals, RVals, RVal, AS.ev, AS.peek, AS.blk, p1, AS.coe], by simp⟩, .tup [.lit (tx tt'), .sl 32 rr, .lit (.bool true)], H, RelLe.refl _, by simp, HpLe.trim _ _, hfin, rfl⟩
        · rw [if_neg (show ¬ (a = k ∧ b' = b) from fun h => hbk h.2)]
          refine areg_end (by simp [push_cast, hbk]; exact rfl) ?_
          refine wp_cond_t (by simp [AS.ev]) (wp_sr (by simp [push_cast]; exact rfl) (wp_ret' ?_))
          exact ⟨_, Le.refl _, [], _, ⟨_, rfl, by simp [AS.seals, RVals, RVal, AS.ev, AS.peek, AS.blk, p1, AS.coe], by simp⟩, openA none, H, open_no, by simp [openA], HpLe.trim _ _, rfl, rfl⟩
      · rw [if_neg (show ¬ (a = k ∧ b' = b) from fun h => hak h.1)]
        refine areg_end (by simp [push_cast, hak]; exact rfl) ?_
        refine wp_cond_t (by simp [AS.ev]) (wp_sr (by simp [push_cast]; exact rfl) (wp_ret' ?_))
        exact ⟨_, Le.refl _, [], _, ⟨_, rfl, by simp [AS.seals, RVals, RVal, AS.ev, AS.peek, AS.blk, p1, AS.coe], by simp⟩, openA none, H, open_no, by simp [openA], HpLe.trim _ _, rfl, rfl⟩
    · rw [if_neg (by simp [h6])]
      refine wp_seq' (wp_seq' (wp_r (by simp [push_cast, p1, h6]; exact rfl) ?_))
      refine wp_cond_t rfl (wp_sr (by simp [push_cast]; exact rfl) (wp_ret' ?_))
      exact ⟨_, Le.refl _, [], _, ⟨_, rfl, by simp [AS.seals, RVals, RVal, AS.ev, AS.peek, AS.blk, p1, AS.coe], by simp⟩, openA none, H, open_no, by simp [openA], HpLe.trim _ _, rfl, rfl⟩
  · rw [if_pos hl]
    refine wp_sr (by simp [push_cast, hl]; exact rfl) (wp_cond_t rfl (wp_sr (by simp [push_cast]; exact rfl) (wp_ret' ?_)))
    exact ⟨_, Le.refl _, [], _, ⟨_, rfl, by simp [AS.seals, RVals, RVal, AS.ev, AS.peek, AS.blk, p1, AS.coe], by simp⟩, openA none, H, open_no, by simp [openA], HpLe.trim _ _, rfl, rfl⟩
end Go.Cab
/- Part 12 of what the proof stands on: Q18, G17, Q4, GM, Q19, KT, KL, IT, Q20, Q21, GR, KU. -/
import Derived.Test.YtpdafiepagobiaaDoorCab11
import Derived.Test.YtpdafiepagobiaaDoorCab08
import Derived.Test.YtpdafiepagobiaaDoorCab09
import Derived.Test.YtpdafiepagobiaaDoorCab05
import Derived.ProofKit
import Derived.Deep.Slices
import Derived.Test.YtpdafiepagobiaaDoorProg
import Derived.LaidSub
import Derived.Lib.LaidTab
import Derived.Lib.ItoaNum
import Derived.Shelf.LaysM
import Derived.Shelf.Strconv.Itoa3
import Derived.KernelRfl
import Derived.Lib.ItoaLen
import Derived.Test.YtpdafiepagobiaaDoorCab06
set_option linter.unusedSimpArgs false
set_option linter.unnecessarySimpa false
set_option linter.unusedVariables false
set_option linter.unusedSectionVars false
namespace Go.Cab
open Go.RowKit
open Classical
def fb812 : AC := (.seq (.reg [⟨some 2, none, .alloc 74 (.st [1, 1, 71, 1] [(.lit (jn 0)), (.lit (jn 0)), (.st [1, 1, 1, 1, 1, 32, 32, 1, 1] [(.lit (jn 0)), (.lit (wn 0)), (.lit (.slice .none 0 0)), (.lit (jn 0)), (.lit (.slice .none 0 0)), (.arr 1 (List.replicate 32 (.lit (bn 0)))), (.arr 1 (List.replicate 32 (.lit (bn 0)))), (.lit (tx [])), (.lit (.slice .none 0 0))]), (.lit (.slice .none 0 0))]), [], none⟩, ⟨some 3, none, .mov (.const (jn 0)), [], none⟩]) (.seq (.reg [⟨some 7, none, .mov (.tmp 0), [], none⟩, ⟨some 8, none, .xc (.dir 30) [.tmp 7] [] [], [], none⟩, ⟨some 9, none, .build (.st [1] [(.lit (.pointer .none))]) [(0, (.tmp 8))], [], none⟩, ⟨some 4, none, .alloc 1 (.st [1] [(.lit (.pointer .none))]), [], none⟩, ⟨none, none, .store 1 (.tmp 4) (.tmp 9), [], none⟩]) (.seq (.reg [⟨some 10, none, .load true 1 (.tmp 4), [5], (.some 4)⟩, ⟨some 11, none, .xc (.dir 31) [.tmp 10] [4] [5], [], none⟩, ⟨some 12, none, .load true 1 (.tmp 4), [5], (.some 4)⟩, ⟨some 13, none, .xc (.dir 31) [.tmp 12] [] [5], [], none⟩, ⟨some 14, none, .build (.st [1, 1, 71, 1] [(.lit (jn 0)), (.lit (jn 0)), (.st [1, 1, 1, 1, 1, 32, 32, 1, 1] [(.lit (jn 0)), (.lit (wn 0)), (.lit (.slice .none 0 0)), (.lit (jn 0)), (.lit (.slice .none 0 0)), (.arr 1 (List.replicate 32 (.lit (bn 0)))), (.arr 1 (List.replicate 32 (.lit (bn 0)))), (.lit (tx [])), (.lit (.slice .none 0 0))]), (.lit (.slice .none 0 0))]) [(0, (.tmp 11)), (1, (.tmp 13))], [], none⟩, ⟨some 5, none, .alloc 74 (.st [1, 1, 71, 1] [(.lit (jn 0)), (.lit (jn 0)), (.st [1, 1, 1, 1, 1, 32, 32, 1, 1] [(.lit (jn 0)), (.lit (wn 0)), (.lit (.slice .none 0 0)), (.lit (jn 0)), (.lit (.slice .none 0 0)), (.arr 1 (List.replicate 32 (.lit (bn 0)))), (.arr 1 (List.replicate 32 (.lit (bn 0)))), (.lit (tx [])), (.lit (.slice .none 0 0))]), (.lit (.slice .none 0 0))]), [], none⟩, ⟨none, none, .store 74 (.tmp 5) (.tmp 14), [], none⟩]) (.seq (.seq (.reg [⟨some 15, none, .faddr 0 0 (.tmp 5), [], none⟩, ⟨some 16, none, .load false 1 (.tmp 15), [], none⟩, ⟨some 17, none, .bin .eql (.tmp 16) (.const (jn 1)), [], none⟩]) (.cond (.tmp 17) (.reg [⟨some 18, none, .load true 1 (.tmp 4), [], none⟩, ⟨some 19, none, .xc (.dir 32) [.tmp 18] [] [], [], none⟩, ⟨some 20, none, .faddr 2 2 (.tmp 5), [], none⟩, ⟨none, none, .store 71 (.tmp 20) (.tmp 19), [], none⟩]) (.reg [⟨some 21, none, .faddr 0 0 (.tmp 4), [], none⟩, ⟨some 22, none, .load false 1 (.tmp 21), [], none⟩, ⟨some 23, none, .icall 33 (.tmp 22) [(.const (jn 16))], [], none⟩, ⟨some 24, none, .faddr 73 3 (.tmp 5), [], none⟩, ⟨none, none, .store 1 (.tmp 24) (.tmp 23), [], none⟩]))) (.seq (.seq (.reg [⟨some 25, none, .faddr 0 0 (.tmp 4), [], none⟩, ⟨some 26, none, .load false 1 (.tmp 25), [], none⟩, ⟨some 27, none, .icall 34 (.tmp 26) [], [], none⟩, ⟨some 6, none, .mov (.tmp 27), [], none⟩]) (.block 0 (.seq (.reg [⟨some 29, none, .mov (.tmp 6), [], none⟩, ⟨some 30, none, .bin .neq (.tmp 29) (.const (jn 0)), [], none⟩, ⟨some 28, none, .mov (.tmp 30), [], none⟩]) (.cond (.tmp 28) (.seq (.reg [⟨some 31, none, .build (.st [1, 1, 71, 1] [(.lit (jn 0)), (.lit (jn 0)), (.st [1, 1, 1, 1, 1, 32, 32, 1, 1] [(.lit (jn 0)), (.lit (wn 0)), (.lit (.slice .none 0 0)), (.lit (jn 0)), (.lit (.slice .none 0 0)), (.arr 1 (List.replicate 32 (.lit (bn 0)))), (.arr 1 (List.replicate 32 (.lit (bn 0)))), (.lit (tx [])), (.lit (.slice .none 0 0))]), (.lit (.slice .none 0 0))]) [], [], none⟩, ⟨some 32, none, .mov (.tmp 6), [], none⟩, ⟨none, none, .store 74 (.tmp 2) (.tmp 31), [], none⟩, ⟨some 3, none, .mov (.tmp 32), [], none⟩]) .ret) (.seq (.reg [⟨some 34, none, .load true 74 (.tmp 5), [], none⟩, ⟨some 35, none, .call 24 [.tmp 34], [], none⟩, ⟨some 36, none, .un .not (.tmp 35), [], none⟩, ⟨some 33, none, .mov (.tmp 36), [], none⟩]) (.cond (.tmp 33) (.seq (.reg [⟨some 37, none, .build (.st [1, 1, 71, 1] [(.lit (jn 0)), (.lit (jn 0)), (.st [1, 1, 1, 1, 1, 32, 32, 1, 1] [(.lit (jn 0)), (.lit (wn 0)), (.lit (.slice .none 0 0)), (.lit (jn 0)), (.lit (.slice .none 0 0)), (.arr 1 (List.replicate 32 (.lit (bn 0)))), (.arr 1 (List.replicate 32 (.lit (bn 0)))), (.lit (tx [])), (.lit (.slice .none 0 0))]), (.lit (.slice .none 0 0))]) [], [], none⟩, ⟨none, none, .store 74 (.tmp 2) (.tmp 37), [], none⟩, ⟨some 3, none, .mov (.const (jn 4)), [], none⟩]) .ret) .skip)))))) (.seq (.reg [⟨some 38, none, .load true 74 (.tmp 5), [], none⟩, ⟨none, none, .store 74 (.tmp 2) (.tmp 38), [], none⟩, ⟨some 3, none, .mov (.const (jn 0)), [], none⟩]) .ret))))))
def fc812 : FC := ⟨1, 39, [(.cell 2 .true 74), (.tmp 3)], fb812⟩
theorem fc812_eq : compF Go.Proofs.Tryd.prog 12 = some fc812 := by kernel_rfl
attribute [local irreducible] AReg
theorem newR_call (H : List (Option Blk)) (s : List UInt8) : XCall Go.Proofs.Tryd.prog 30 [.lit (tx s)] H fun r H' => ∃ l, r = .ptr H.length l 0 [] ∧ H' = H ++ [some (rdk ⟨H.length, l⟩ (s, 0))] := by
  have h840 := fc840_eq
  refine XCall.le ?_
  refine XCall.of h840 rfl ?_; show AC.wp _ fb840 ⟨H.length, [.lit (tx s)] ++ List.replicate (6 - 1) .any, H ++ List.replicate 6 none⟩ (fun x s => match x with | .exit _ => False | _ => ∃ s1, Le s s1 ∧ FinX [(.tmp 2)] s1 _); unfold fb840
  generalize hN : H.length = N at *
  have p1 : ∀ L k, (H ++ L)[N + k]? = L[k]? := fun L k => cat1 N H L k hN
  have p2 : ∀ L k x, (H ++ L).set (N + k) x = H ++ L.set k x := fun L k x => cat2 N H L k x hN
  refine wp_sr (by simp [push_cast]; exact rfl) (wp_sg ?_)
  refine areg_run 2 (by simp [push_cast]; exact rfl) ?_
  refine areg_bx rfl rfl fun l => areg_end (by simp [push_cast, p2]; exact rfl) (wp_ret' ?_)
  refine ⟨_, Le.refl _, finX1 (v := .ptr (N + 5) l 0 []) (by simp [RVal, AS.ev, AS.coe]) (by simp) ⟨.ptr N l 0 [], H ++ [some (rdk ⟨N, l⟩ (s, 0))], RelLe.ptr _ _ _ _ _, by simp, ?_, l, rfl, rfl⟩⟩
  refine HpLe.gen (fun k => if k = N then N + 5 else k) (fun k k' x y hx hy e => ?_) (fun k x hx => ?_)
  · have hlt : ∀ (k : Nat) (x : Blk), ((H ++ [some (rdk ⟨N, l⟩ (s, 0))])[k]?).join = some x → k < N + 1 := fun k x hx => by
      by_cases h : k < N + 1
      · exact h
      · rw [List.getElem?_eq_none (by simp; omega)] at hx; cases hx
    have := hlt k x hx
    have := hlt k' y hy
    try simp only at e
    split at e <;> split at e <;> omega
  · by_cases h1 : k < N
    · rw [cat4 N H _ k hN h1] at hx
      refine ⟨x, ?_, BlkLe.refl _⟩
      simp only [show k ≠ N by omega, if_false]
      rw [cat4 N H _ k hN h1]; exact hx
    · obtain ⟨i, rfl⟩ : ∃ i, k = N + i := ⟨k - N, by omega⟩
      rw [p1] at hx
      match i, hx with
      | 0, hx =>
        simp only [List.getElem?_cons_zero, Option.join_some, Option.some.injEq] at hx
        subst hx
        refine ⟨_, ?_, BlkLe.refl _⟩
        simp only [Nat.add_zero, if_true]
        rw [p1]; rfl
      | i + 1, hx => simp at hx
theorem Le.frontD {n : Nat} {tm tm' : List AV} {Lo Lo' : List (Option Blk)} {l : Nat × Nat} {s : RS} (hN : Lo.length = n) (ht : leA tm tm') (hb : leB Lo Lo') : Le ⟨0, tm, Lo ++ [some (rdk ⟨n, l⟩ s)]⟩ ⟨1, tm', [some (rdk ⟨0, l⟩ s)] ++ Lo'⟩ := by
  obtain ⟨a1, a2⟩ := leA_get ht
  obtain ⟨b1, b2⟩ := leB_get hb
  have hlt : ∀ (k : Nat) (x : Blk), (([some (rdk ⟨0, l⟩ s)] ++ Lo')[k]?).join = some x → k < n + 1 := fun k x hx => by
    by_cases h : k < n + 1
    · exact h
    · rw [List.getElem?_eq_none (by simp; omega)] at hx; cases hx
  refine Le.genR a1 a2 (fun k => if k = 0 then n else k - 1) (fun k k' x y hx hy e => ?_) (fun k x hx => ?_)
  · have h1 := hlt k x hx
    have h2 := hlt k' y hy
    try simp only at e
    split at e <;> split at e <;> omega
  · have h1 := hlt k x hx
    by_cases h : k = 0
    · subst h
      simp only [List.cons_append, List.getElem?_cons_zero, Option.join_some, Option.some.injEq] at hx
      subst hx
      exact ⟨_, by simp only [if_true]; rw [show n = n + 0 from rfl, cat1 n Lo _ 0 hN]; rfl, BlkLe.refl _⟩
    · obtain ⟨i, rfl⟩ : ∃ i, k = i + 1 := ⟨k - 1, by omega⟩
      simp only [List.cons_append, List.nil_append, List.getElem?_cons_succ] at hx
      obtain ⟨v, hv, hle⟩ := b2 i x hx
      have hi : i < Lo.length := by
        by_cases h : i < Lo.length
        · exact h
        · rw [List.getElem?_eq_none (by omega)] at hv; cases hv
      exact ⟨v, by simp only [if_neg h]; rw [show i + 1 - 1 = i by omega, List.getElem?_append_left hi]; exact hv, hle⟩
theorem wp_rd {P : Program} {b : AC} {Q : AX → AS → Prop} {n : Nat} {tm : List AV} {Lo : List (Option Blk)} {l : Nat × Nat} {s : RS} (tm' : Nat → Rr → List AV) (Lo' : Nat → Rr → List (Option Blk)) (hN : Lo.length = n) (ht : leA tm (tm' 1 ⟨0, l⟩)) (hb : leB Lo (Lo' 1 ⟨0, l⟩))
    (k : ∀ N H R, RdOk H R s → H.length = N → b.wp P ⟨N, tm' N R, rdF H R s () ++ Lo' N R⟩ Q) : ∃ s0, Le ⟨0, tm, Lo ++ [some (rdk ⟨n, l⟩ s)]⟩ s0 ∧ b.wp P s0 Q := by
  have hok : RdOk [some (rdk ⟨0, l⟩ s)] ⟨0, l⟩ s := rfl
  refine ⟨_, Le.frontD hN ht hb, ?_⟩
  have := k 1 _ ⟨0, l⟩ hok rfl
  rw [hok.self] at this
  exact this
def z0F : AV := .st [1, 1, 71, 1] [.lit (jn 0), .lit (jn 0), z0A, .lit (.slice none 0 0)]
theorem z0F_le : AVle z0F (frameA frame0) := AVle.st1 (AVle.refl _) (AVle.st1 (AVle.refl _) (AVle.st1 z0_le (AVle.st1 (AVle.nilS 32) AVle.st0)))
section
variable {H : List (Option Blk)} {R : Rr} {s0 s : RS}
theorem opR_gk (hh : RdOk H R s0) (hs : s.1.length < 1000000) : GC Go.Proofs.Tryd.prog 32 [rdV R] (rdF H R) s (opA (rdOp s).1) (rdOp s).2 := GC.ofD hh fun H h => opR_call h hs
end
set_option maxRecDepth 20000 in
set_option maxHeartbeats 16000000 in
theorem read_call {s : List UInt8} (hs : s.length < 1000000) : PCall Go.Proofs.Tryd.prog 12 [.lit (tx s)] (.val (.tup [frameA (readF s).1, .lit (jn (readF s).2)])) := by
  have h812 := fc812_eq
  have hc30 : callable Go.Proofs.Tryd.prog 30 = true := by kernel_rfl
  have hc31 : callable Go.Proofs.Tryd.prog 31 = true := by kernel_rfl
  have hc32 : callable Go.Proofs.Tryd.prog 32 = true := by kernel_rfl
  refine PCall.of h812 rfl ?_; show AC.wp _ fb812 (AS.init [.lit (tx s)] 1 39) (fun x s => match x with | .exit _ => False | _ => Fin [(.cell 2 .true 74), (.tmp 3)] s _); unfold fb812 AS.init
  refine wp_sg (areg_al' (z' := z0F) rfl fun l2 => areg_end (by simp [push_cast]; exact rfl) ?_)
  refine wp_sgL ?_
  refine areg_run 1 (by simp [push_cast]; exact rfl) ?_
  refine areg_xq (us := [.lit (tx s)]) (by simp [AS.ev]) (tgt_dir hc30 _) (newR_call _ s) ⟨_, _, (0, 0), rfl, rfl⟩ (fun r hp' _ t' ht' => by cases ht') ?_
  rintro r H' ⟨l, rfl, rfl⟩
  refine areg_run 1 (by simp [push_cast]; exact rfl) ?_
  refine areg_al' rfl fun l4 => areg_end (by simp [push_cast]; exact rfl) ?_
  refine wp_rd (n := 39) (l := l) (s := (s, 0)) (Lo := [none, none, some (.box l2 74 z0F), none, some (.box l4 1 (.st [1] [.ptr 39 l 0 []]))] ++ List.replicate 34 none)
    (fun N R => [.any, .any, .ptr (N + 2) l2 0 [], .any, .ptr (N + 4) l4 0 []] ++ List.replicate 34 .any)
    (fun N R => [none, none, some (.box l2 74 z0F), none, some (.box l4 1 (.st [1] [.ptr R.b R.l 0 []]))] ++ List.replicate 34 none) rfl ?_ ?_ fun N H R hh hN => ?_
  · simp [leA, RelLe.refl', RelLe.ptr']
  · refine ⟨trivial, trivial, BlkLe.refl _, trivial, BlkLe.box (AVle.freeS _ _ _), ?_⟩
    simp [leB]
  have G1 : ∀ i x, (rdF H R i x).length = N := fun i x => by rw [rdF_len, hN]
  have g1 : ∀ i x L k, (rdF H R i x ++ L)[N + k]? = L[k]? := fun i x L k => cat1 _ _ _ _ (G1 _ _)
  have g2 : ∀ i x L k z, (rdF H R i x ++ L).set (N + k) z = rdF H R i x ++ L.set k z := fun i x L k z => cat2 _ _ _ _ _ (G1 _ _)
  have hfo := read_ok s
  have ca := small_gk (s := (s, 0)) hh hs
  have la : (rdSmall (s, 0)).2.1.length ≤ s.length := rdNum_le' (s, 0)
  have cb := small_gk (s := (rdSmall (s, 0)).2) hh (by omega)
  have lb : (rdSmall (rdSmall (s, 0)).2).2.1.length ≤ (rdSmall (s, 0)).2.1.length := rdNum_le' _
  have co := opR_gk (s := (rdSmall (rdSmall (s, 0)).2).2) hh (by omega)
  have ck := KeyList_gk (s := (rdSmall (rdSmall (s, 0)).2).2) hh (by omega) 16 (by omega)
  have oo := rdOp_ok (rdSmall (rdSmall (s, 0)).2).2
  have ok := (rdKs_mem (most := 16) (rdSmall (rdSmall (s, 0)).2).2).1
  obtain ⟨F, hF⟩ : ∃ F, F = rdF0 (s, 0) := ⟨_, rfl⟩
  have hFe : F = if (rdSmall (s, 0)).1 = 1 then (⟨(rdSmall (s, 0)).1, (rdSmall (rdSmall (s, 0)).2).1, (rdOp (rdSmall (rdSmall (s, 0)).2).2).1, []⟩, (rdOp (rdSmall (rdSmall (s, 0)).2).2).2) else (⟨(rdSmall (s, 0)).1, (rdSmall (rdSmall (s, 0)).2).1, op0, (rdList rdKey 16 (rdSmall (rdSmall (s, 0)).2).2).1⟩, (rdList rdKey 16 (rdSmall (rdSmall (s, 0)).2).2).2) := hF
  have hread : readF s = if endE F.2 ≠ 0 then (frame0, endE F.2) else if okF F.1 then (F.1, 0) else (frame0, 4) := by unfold readF; simp only; rw [← hF]
  rw [← hF] at hfo
  rw [hread]
  clear hread hF
  generalize rdOp (rdSmall (rdSmall (s, 0)).2).2 = ro at *
  generalize rdList rdKey 16 (rdSmall (rdSmall (s, 0)).2).2 = rk at *
  generalize rdSmall (rdSmall (s, 0)).2 = b at *
  generalize rdSmall (s, 0) = a at *
  obtain ⟨a1, a2⟩ := a
  obtain ⟨b1, b2⟩ := b
  obtain ⟨ro1, ro2⟩ := ro
  obtain ⟨rk1, rk2⟩ := rk
  simp only at ca cb co ck oo ok hFe la lb
  have hfr : FrOk F.1 := by
    refine ⟨hfo.op, ?_, hfo.ids, ?_⟩
    · rw [hFe]
      split
      · exact fun b hb => by have := oo.2.1 b hb; omega
      · simp [op0]
    · rw [hFe]
      split
      · simp
      · simp only; omega
  have z5 := hfr.op.ofk
  have z6 := hfr.op.check
  have ro5 := oo.1.ofk
  have ro6 := oo.1.check
  have cR := rightF_call hfr
  have k1 : binVal .eql (ji a1) (jn 1) = some (.bool (decide (a1 = 1))) := bin_eqlij _ _
  unfold rdV at ca cb co
  refine wp_sg ?_
  refine areg_run 1 (by simp [push_cast, g1]; exact rfl) ?_
  refine areg_gk [.st [1] [.ptr R.b R.l 0 []]] G1 (by simp [AS.ev, AS.put]) (tgt_dir hc31 _) ca (by simp) (by simp [AS.ev, AS.put, AV.place]) fun _ => ?_
  refine areg_run 1 (by simp [push_cast, g1]; exact rfl) ?_
  refine areg_gk [.st [1] [.ptr R.b R.l 0 []]] G1 (by simp [AS.ev, AS.put]) (tgt_dir hc31 _) cb (by simp) (by simp) fun _ => ?_
  refine areg_bd (z' := .st [1, 1, 71, 1] [.lit (ji a1), .lit (ji b1), z0A, nilA0]) (fill_st rfl rfl rfl rfl rfl (fill_st rfl rfl rfl rfl rfl rfl)) ?_
  refine areg_al' (z' := z0F) rfl fun l5 => areg_end (by simp [push_cast, g1, g2, z0F, z0A, zk_len]; exact rfl) ?_
  refine wp_seqM (fun _ : Unit => ⟨N, [.any, .any, .ptr (N + 2) l2 0 [], .any, .ptr (N + 4) l4 0 [], .ptr (N + 5) l5 0 []] ++ List.replicate 33 .any, rdF H R F.2 () ++ ([none, none, some (.box l2 74 z0F), none, some (.box l4 1 (.st [1] [.ptr R.b R.l 0 []])), some (.box l5 74 (frameA F.1))] ++ List.replicate 33 none)⟩) (fun _ => True) (fun _ _ => ?_) ?_
  · have hA1 : frameA F.1 = .st [1, 1, 71, 1] [.lit (ji F.1.kind), .lit (ji F.1.from_), .st [1, 1, 1, 1, 1, 32, 32, 1, 1] [.lit (ji F.1.op.author), .lit (wn F.1.op.seq), .sl 32 (klA F.1.op.parents), .lit (ji F.1.op.kind), .sl 1 (F.1.op.who.map fun x => AV.lit (ji x)), keyA F.1.op.ofk, keyA F.1.op.check, .lit (tx F.1.op.text), .sl 36 (F.1.op.boxes.map fun x => boxA x)], .sl 32 (klA F.1.ids)] := rfl
    have cE := End_gk (s := F.2) hh
    have hF0 : frameA frame0 = .st [1, 1, 71, 1] [.lit (jn 0), .lit (jn 0), .st [1, 1, 1, 1, 1, 32, 32, 1, 1] [.lit (jn 0), .lit (wn 0), .sl 32 [], .lit (jn 0), .sl 1 [], keyA zk, keyA zk, .lit (tx []), .sl 36 []], .sl 32 []] := rfl
    generalize endE F.2 = ev at *
    refine wp_seq' (wp_sg ?_)
    refine areg_run 2 (by simp [push_cast, g1]; exact rfl) ?_
    refine areg_gi cE (by simp [AS.ev, AS.put]) fun _ => ?_
    refine areg_end (by simp [push_cast]; exact rfl) ?_
    by_cases he : ev = 0
    · subst he
      rw [if_neg (by simp)]
      rw [hA1] at cR ⊢
      refine wp_block' (wp_sr (by simp [push_cast]; exact rfl) (wp_cond_f (by simp [AS.ev]) (wp_sg ?_)))
      refine areg_run 1 (by simp [push_cast, g1, z5, z6]; exact rfl) ?_
      refine areg_ca (by simp [AS.ev, AS.coe, AS.put, keyA] <;> exact rfl) cR ?_
      refine areg_end (by simp [push_cast]; exact rfl) ?_
      cases hok : okF F.1 with
      | true =>
        refine wp_cond_f (by simp [AS.ev]) (wp_skip' ?_)
        rw [if_pos rfl, hA1]
        unfold z0F z0A
        refine wp_sr (by simp [push_cast, g1, g2, z5, z6, zk_len]; exact rfl) (wp_ret' ?_)
        exact fin_tup (by simp [RVals, RVal, AS.ev, AS.peek, AS.blk, g1, Blk.loc, Blk.cont, Blk.n, AV.nav, AV.isAgg, AV.isTup, AS.coe, keyA]; rfl) (by simp [keyA])
      | false =>
        rw [if_neg (by simp), hF0]
        refine wp_cond_t (by simp [AS.ev]) (wp_sgL ?_)
        refine areg_bd (z' := z0F) rfl ?_
        refine areg_end (by simp [push_cast, g1, g2, z0F, z0A, zk_len]; exact rfl) ?_
        refine ⟨_, Le.setB (b := N + 2) (X' := .box l2 74 (frameA frame0)) (by simp only [g1]; rfl) (BlkLe.box z0F_le), wp_ret' ?_⟩
        rw [hF0]
        simp only [g2]
        exact fin_tup (by simp [RVals, RVal, AS.ev, AS.peek, AS.blk, g1, Blk.loc, Blk.cont, Blk.n, AV.nav, AV.isAgg, AV.isTup, AS.coe, keyA]; rfl) (by simp [keyA])
    · rw [if_pos he, hF0]
      refine wp_block' (wp_sr (by simp [push_cast, he]; exact rfl) (wp_cond_t (by simp [AS.ev, he]) (wp_sgL ?_)))
      refine areg_bd (z' := z0F) rfl ?_
      refine areg_end (by simp [push_cast, g1, g2, z0F, z0A, zk_len]; exact rfl) ?_
      refine ⟨_, Le.setB (b := N + 2) (X' := .box l2 74 (frameA frame0)) (by simp only [g1]; rfl) (BlkLe.box z0F_le), wp_ret' ?_⟩
      rw [hF0]
      simp only [g2]
      exact fin_tup (by simp [RVals, RVal, AS.ev, AS.peek, AS.blk, g1, Blk.loc, Blk.cont, Blk.n, AV.nav, AV.isAgg, AV.isTup, AS.coe, keyA]; rfl) (by simp [keyA])
  refine wp_seq' ?_
  by_cases hk : a1 = 1
  · rw [if_pos hk] at hFe
    subst hFe
    subst hk
    have k1' : binVal .eql (ji 1) (jn 1) = some (.bool true) := by rw [k1]; rfl
    refine wp_r (by simp [push_cast, g1, k1', nilA0, zk_len]; exact rfl) ?_
    refine wp_cond_t (by simp [AS.ev]) (wp_rg ?_)
    refine areg_run 1 (by simp [push_cast, g1]; exact rfl) ?_
    refine areg_gk [.st [1] [.ptr R.b R.l 0 []]] G1 (by simp [AS.ev, AS.put]) (tgt_dir hc32 _) co (by simp) (by simp) fun _ => ?_
    refine areg_end (by simp [push_cast, g1, g2, opA, ro5, ro6, z0A, zk_len]; exact rfl) ?_
    refine ⟨(), trivial, Le.trans (Le.setB (b := N + 5) (X' := .box l5 74 (frameA ⟨1, b1, ro1, []⟩)) (by simp only [g1]; rfl) (BlkLe.box (AVle.st1 (AVle.refl _) (AVle.st1 (AVle.refl _) (AVle.st1 (AVle.refl _) (AVle.st1 (AVle.nilS 32) AVle.st0)))))) ?_⟩
    simp only [g2]
    exact Le.cat (by simp [leT]) (by simp [leH, z0F, z0A, keyA])
  · rw [if_neg hk] at hFe
    subst hFe
    refine wp_r (by simp [push_cast, g1, k1, hk, nilA0, zk_len]; exact rfl) ?_
    refine wp_cond_f (by simp [AS.ev, hk]) (wp_rg ?_)
    refine areg_run 2 (by simp [push_cast, g1]; exact rfl) ?_
    refine areg_gi ck (by simp [AS.ev, AS.put]) fun _ => ?_
    refine areg_end (by simp [push_cast, g1, g2, nilA0, zk_len]; exact rfl) ?_
    refine ⟨(), trivial, Le.trans (Le.setB (b := N + 5) (X' := .box l5 74 (frameA ⟨a1, b1, op0, rk1⟩)) (by simp only [g1]; rfl) (BlkLe.box (AVle.st1 (AVle.refl _) (AVle.st1 (AVle.refl _) (AVle.st1 z0_le (AVle.refl _)))))) ?_⟩
    simp only [g2]
    exact Le.cat (by simp [leT]) (by simp [leH, z0F, z0A, keyA])
end Go.Cab
namespace Go.Cab
open Classical
theorem cmp_neg : ∀ (a b : List UInt8), Go.Lib.compareBytes b a = - Go.Lib.compareBytes a b
  | [], [] => rfl
  | [], _ :: _ => rfl
  | _ :: _, [] => rfl
  | a :: xa, b :: bs => by
    unfold Go.Lib.compareBytes
    have h : ¬ (a < b ∧ b < a) := fun ⟨h, k⟩ => by have := UInt8.lt_iff_toNat_lt.1 h; have := UInt8.lt_iff_toNat_lt.1 k; omega
    by_cases h1 : a < b
    · have h2 : ¬ b < a := fun k => h ⟨h1, k⟩
      simp [h1, h2]
    · by_cases h2 : b < a
      · simp [h1, h2]
      · simp only [h1, h2, if_false]; exact cmp_neg xa bs
theorem cmp_zero : ∀ (a b : List UInt8), Go.Lib.compareBytes a b = 0 → a = b
  | [], [], _ => rfl
  | [], _ :: _, h => by simp [Go.Lib.compareBytes] at h
  | _ :: _, [], h => by simp [Go.Lib.compareBytes] at h
  | a :: xa, b :: bs, h => by
    unfold Go.Lib.compareBytes at h
    split at h
    · omega
    · split at h
      · omega
      · rename_i h1 h2
        have : a = b := by
          apply UInt8.toNat_inj.1
          have h1' : ¬ a.toNat < b.toNat := fun k => h1 (UInt8.lt_iff_toNat_lt.2 k)
          have h2' : ¬ b.toNat < a.toNat := fun k => h2 (UInt8.lt_iff_toNat_lt.2 k)
          omega
        rw [this, cmp_zero xa bs h]
def agr (a k : List UInt8) : Term := if 0 < Go.Lib.compareBytes a k then ⟨4, [], [k, a]⟩ else ⟨4, [], [a, k]⟩
theorem agr_comm (a k : List UInt8) : agr a k = agr k a := by
  unfold agr
  have h := cmp_neg a k
  by_cases h1 : 0 < Go.Lib.compareBytes a k
  · rw [if_pos h1, if_neg (by omega)]
  · rw [if_neg h1]
    by_cases h2 : 0 < Go.Lib.compareBytes k a
    · rw [if_pos h2]
    · rw [if_neg h2, cmp_zero a k (by omega)]
theorem agr_kind (a k : List UInt8) : (agr a k).kind = 4 := by unfold agr; split <;> rfl
theorem agr_wf (a k : List UInt8) : WfT (agr a k) := by unfold agr; split <;> exact ⟨by simp, by simp⟩
theorem agr_ok {a k : List UInt8} (ha : a.length = 32) (hk : k.length = 32) : TermOk (agr a k) := by
  unfold agr
  split <;> exact ⟨by simp, by simp, by simp, by simp [ha, hk]⟩
theorem ofNat_mod (n : Nat) : (UInt8.ofNat n).toNat = n % 256 := by simp
theorem be32_name {n : Nat} (h : n < 4294967296) : be32 (nameK n) = n := by
  have e : be32 (nameK n) = (UInt8.ofNat (n / 16777216)).toNat * 16777216 + (UInt8.ofNat (n / 65536)).toNat * 65536 + (UInt8.ofNat (n / 256)).toNat * 256 + (UInt8.ofNat n).toNat := rfl
  rw [e, ofNat_mod, ofNat_mod, ofNat_mod, ofNat_mod]
  omega
theorem name_inj {n m : Nat} (hn : n < 4294967296) (hm : m < 4294967296) (h : nameK n = nameK m) : n = m := by
  rw [← be32_name hn, ← be32_name hm, h]
theorem name_nz (n : Nat) : nameK n ≠ zk := fun h => by
  have := congrArg (fun l => l.getD 0 0) h
  simp [nameK, zk] at this
theorem four_inj {n m : Nat} (hn : n < 4294967296) (hm : m < 4294967296) (h : four n = four m) : n = m := by
  simp only [four, List.cons.injEq, and_true] at h
  obtain ⟨h1, h2, h3, h4⟩ := h
  have k1 := congrArg UInt8.toNat h1; have k2 := congrArg UInt8.toNat h2; have k3 := congrArg UInt8.toNat h3; have k4 := congrArg UInt8.toNat h4
  rw [ofNat_mod, ofNat_mod] at k1 k2 k3 k4
  omega
theorem flat_inj : ∀ {a b : List (List UInt8)}, (∀ k ∈ a, k.length = 32) → (∀ k ∈ b, k.length = 32) → a.flatten = b.flatten → a = b
  | [], [], _, _, _ => rfl
  | [], y :: b, _, hb, h => by
    have := congrArg List.length h
    simp only [List.flatten_nil, List.flatten_cons, List.length_append, hb y (by simp), List.length_nil] at this
    omega
  | x :: a, [], ha, _, h => by
    have := congrArg List.length h
    simp only [List.flatten_nil, List.flatten_cons, List.length_append, ha x (by simp), List.length_nil] at this
    omega
  | x :: a, y :: b, ha, hb, h => by
    simp only [List.flatten_cons] at h
    obtain ⟨h1, h2⟩ := List.append_inj h (by rw [ha x (by simp), hb y (by simp)])
    rw [h1, flat_inj (fun k hk => ha k (by simp [hk])) (fun k hk => hb k (by simp [hk])) h2]
theorem shape_inj {x y : Term} (hx : TermOk x) (hy : TermOk y) (h : shapeT x = shapeT y) : x = y := by
  obtain ⟨kx, tx', ksx⟩ := x
  obtain ⟨ky, ty, ksy⟩ := y
  obtain ⟨x1, x2, x3, x4⟩ := hx
  obtain ⟨y1, y2, y3, y4⟩ := hy
  simp only [shapeT] at h x1 x2 x3 x4 y1 y2 y3 y4
  simp only [List.append_assoc] at h
  obtain ⟨h1, h⟩ := List.append_inj h (by simp)
  obtain ⟨h2, h⟩ := List.append_inj h (by simp [four])
  have e2 := four_inj (by omega) (by omega) h2
  obtain ⟨h3, h4⟩ := List.append_inj h e2
  have e1 : kx = ky := by
    simp only [List.cons.injEq, and_true] at h1
    have := congrArg UInt8.toNat h1
    rw [ofNat_mod, ofNat_mod] at this
    omega
  rw [e1, h3, flat_inj x4 y4 h4]
def In (ts : List Term) (x : Term) (n : Nat) : Prop := findT (shapeT x) ts 0 = some n
theorem findT_app {s : List UInt8} : ∀ {ts : List Term} {i n : Nat} (us : List Term), findT s ts i = some n → findT s (ts ++ us) i = some n
  | [], _, _, _, h => by cases h
  | x :: xs, i, n, us, h => by
    unfold findT at h
    rw [List.cons_append, findT]
    split at h
    · rename_i e; rw [if_pos e]; exact h
    · rename_i e; rw [if_neg e]; exact findT_app us h
theorem findT_get {s : List UInt8} : ∀ {ts : List Term} {i n : Nat}, findT s ts i = some n → ∃ x, ts[n - i]? = some x ∧ s = shapeT x
  | [], _, _, h => by cases h
  | x :: xs, i, n, h => by
    have hl := findT_lt h
    unfold findT at h
    split at h
    · rename_i e; cases h; exact ⟨x, by simp, e⟩
    · have hl2 := findT_lt h
      obtain ⟨y, h1, h2⟩ := findT_get h
      refine ⟨y, ?_, h2⟩
      rw [show n - i = (n - (i + 1)) + 1 by omega]
      simpa using h1
theorem findT_snoc {x : Term} : ∀ {ts : List Term} {i : Nat}, findT (shapeT x) ts i = none → findT (shapeT x) (ts ++ [x]) i = some (i + ts.length)
  | [], i, _ => by simp [findT]
  | y :: ys, i, h => by
    unfold findT at h
    split at h
    · cases h
    · rename_i e
      rw [List.cons_append, findT, if_neg e, findT_snoc h]
      simp only [List.length_cons]; congr 1; omega
theorem In.put (ts : List Term) (x : Term) : In (putT ts x) x (putN ts x) := by
  unfold In putT putN
  cases h : findT (shapeT x) ts 0 with
  | some n => exact h
  | none => rw [findT_snoc h]; simp
theorem put_pre (ts : List Term) (x : Term) : ts <+: putT ts x := by
  unfold putT
  cases findT (shapeT x) ts 0 with
  | some n => exact List.prefix_refl _
  | none => exact List.prefix_append _ _
theorem In.mono {ts us : List Term} {x : Term} {n : Nat} (h : In ts x n) (k : ts <+: us) : In us x n := by
  obtain ⟨vs, rfl⟩ := k
  exact findT_app vs h
theorem In.putT {ts : List Term} {x : Term} {n : Nat} (h : In ts x n) : putT ts x = ts := by
  unfold In at h
  unfold Cab.putT
  rw [h]
theorem In.putN {ts : List Term} {x : Term} {n : Nat} (h : In ts x n) : putN ts x = n := by
  unfold In at h
  unfold Cab.putN
  rw [h]
theorem In.lt {ts : List Term} {x : Term} {n : Nat} (h : In ts x n) : n < ts.length := by have := findT_lt h; omega
theorem In.get {ts : List Term} {x : Term} {n : Nat} (h : In ts x n) (hts : TsOk ts) (hx : TermOk x) : ts[n]? = some x := by
  obtain ⟨y, h1, h2⟩ := findT_get h
  rw [Nat.sub_zero] at h1
  rw [h1, shape_inj (hts.ok y (List.mem_of_getElem? h1)) hx h2.symm]
theorem In.inj {ts : List Term} {x y : Term} {n : Nat} (h : In ts x n) (k : In ts y n) (hts : TsOk ts) (hx : TermOk x) (hy : TermOk y) : x = y := by
  have := h.get hts hx
  rw [k.get hts hy] at this
  exact (Option.some.inj this).symm
def Nm (ts : List Term) (x : Term) (k : List UInt8) : Prop := ∃ n, k = nameK n ∧ In ts x n
theorem Nm.put (ts : List Term) (x : Term) : Nm (putT ts x) x (nameK (putN ts x)) := ⟨_, rfl, In.put ts x⟩
theorem Nm.mono {ts us : List Term} {x : Term} {k : List UInt8} (h : Nm ts x k) (p : ts <+: us) : Nm us x k := by
  obtain ⟨n, h1, h2⟩ := h
  exact ⟨n, h1, h2.mono p⟩
theorem Nm.putT {ts : List Term} {x : Term} {k : List UInt8} (h : Nm ts x k) : putT ts x = ts := by obtain ⟨n, _, h2⟩ := h; exact h2.putT
theorem Nm.putN {ts : List Term} {x : Term} {k : List UInt8} (h : Nm ts x k) : nameK (putN ts x) = k := by obtain ⟨n, h1, h2⟩ := h; rw [h2.putN, h1]
theorem Nm.len {ts : List Term} {x : Term} {k : List UInt8} (h : Nm ts x k) : k.length = 32 := by obtain ⟨n, rfl, _⟩ := h; exact nameK_len n
theorem Nm.nz {ts : List Term} {x : Term} {k : List UInt8} (h : Nm ts x k) : k ≠ zk := by obtain ⟨n, rfl, _⟩ := h; exact name_nz n
theorem Nm.inj {ts : List Term} {x y : Term} {k : List UInt8} (h : Nm ts x k) (g : Nm ts y k) (hts : TsOk ts) (hx : TermOk x) (hy : TermOk y) : x = y := by
  obtain ⟨n, h1, h2⟩ := h
  obtain ⟨m, g1, g2⟩ := g
  have hl := hts.len
  have a1 := h2.lt
  have a2 := g2.lt
  have : n = m := name_inj (by omega) (by omega) (by rw [← h1, g1])
  subst this
  exact h2.inj g2 hts hx hy
theorem Nm.fun {ts : List Term} {x : Term} {k k' : List UInt8} (h : Nm ts x k) (g : Nm ts x k') : k = k' := by rw [← h.putN, g.putN]
theorem agreeX_pub {ts : List Term} (hts : TsOk ts) {a k p : List UInt8} (hk : k.length = 32) (h : Nm ts (pubT k) p) : agreeX ts a p = some (agr a k) := by
  have hnz := h.nz
  obtain ⟨n, rfl, hn⟩ := h
  have hl := hts.len
  have hlt := hn.lt
  unfold agreeX
  rw [if_neg hnz, be32_name (by omega), if_neg (by simp; omega), hn.get hts (pubT_ok hk)]
  simp only [pubT, if_true, List.getD_cons_zero]
  rw [agr]
  split <;> rfl
def goG : List Term → List (List UInt8) → List KK → List (List UInt8) × List Term
  | ts, acc, [] => (acc, ts)
  | ts, acc, q :: qs => goG (putT ts (agr q.1 q.2)) (acc ++ [nameK (putN ts (agr q.1 q.2))]) qs
def PubsOf (ts : List Term) : List KK → List KK → Prop
  | [], [] => True
  | p :: ps, q :: qs => p.1 = q.1 ∧ q.1.length = 32 ∧ q.2.length = 32 ∧ Nm ts (pubT q.2) p.2 ∧ PubsOf ts ps qs
  | _, _ => False
theorem PubsOf.mono {ts us : List Term} (k : ts <+: us) : ∀ {ps qs : List KK}, PubsOf ts ps qs → PubsOf us ps qs
  | [], [], _ => trivial
  | _ :: _, _ :: _, ⟨h1, h2, h3, h4, h5⟩ => ⟨h1, h2, h3, h4.mono k, h5.mono k⟩
  | [], _ :: _, h => h.elim
  | _ :: _, [], h => h.elim
theorem agreedG_go : ∀ (ps qs : List KK) (ts : List Term) (acc : List (List UInt8)), TsOk ts → ts.length + ps.length + 10 < 90000 → PubsOf ts ps qs → agreedG ts acc ps = (some (goG ts acc qs).1, (goG ts acc qs).2)
  | [], [], _, _, _, _, _ => rfl
  | p :: ps, q :: qs, ts, acc, hts, hl, ⟨h1, h2, h3, h4, h5⟩ => by
    simp only [List.length_cons] at hl
    have hlen := putT_len ts (agr q.1 q.2)
    rw [agreedG, agreeX_pub hts h3 h4, h1]
    exact agreedG_go ps qs _ _ (hts.put (agr_ok h2 h3) (agr_wf _ _) (by omega)) (by omega) (h5.mono (put_pre _ _))
  | [], _ :: _, _, _, _, _, h => h.elim
  | _ :: _, [], _, _, _, _, h => h.elim
theorem goG_pre : ∀ (qs : List KK) (ts : List Term) (acc : List (List UInt8)), ts <+: (goG ts acc qs).2
  | [], _, _ => List.prefix_refl _
  | q :: qs, ts, acc => (put_pre ts (agr q.1 q.2)).trans (goG_pre qs _ _)
theorem goG_again : ∀ (qs qs' : List KK) (ts us : List Term) (acc : List (List UInt8)), (qs.map fun q => agr q.1 q.2) = (qs'.map fun q => agr q.1 q.2) → (goG ts acc qs).2 <+: us → goG us acc qs' = ((goG ts acc qs).1, us)
  | [], [], _, _, _, _, _ => rfl
  | q :: qs, q' :: qs', ts, us, acc, h, k => by
    simp only [List.map_cons, List.cons.injEq] at h
    have hn : Nm us (agr q.1 q.2) (nameK (putN ts (agr q.1 q.2))) := (Nm.put ts _).mono ((goG_pre qs _ _).trans k)
    rw [goG, goG, ← h.1, hn.putT, hn.putN]
    exact goG_again qs qs' _ us _ h.2 k
  | [], _ :: _, _, _, _, h, _ => by simp at h
  | _ :: _, [], _, _, _, h, _ => by simp at h
theorem agreedT_go {ts : List Term} (hts : TsOk ts) {ps qs : List KK} (hl : ts.length + ps.length + 10 < 90000) (h : PubsOf ts ps qs) :
    agreedT ts ps = (some (nameK (putN (goG ts [] qs).2 ⟨2, hello, (goG ts [] qs).1⟩)), putT (goG ts [] qs).2 ⟨2, hello, (goG ts [] qs).1⟩) := by
  unfold agreedT
  rw [agreedG_go ps qs ts [] hts hl h]
theorem agreedT_pre {ts : List Term} {ps qs : List KK} (hts : TsOk ts) (hl : ts.length + ps.length + 10 < 90000) (h : PubsOf ts ps qs) : ts <+: (agreedT ts ps).2 := by
  rw [agreedT_go hts hl h]
  exact (goG_pre _ _ _).trans (put_pre _ _)
theorem agreedT_again {ts us : List Term} (hts : TsOk ts) (hus : TsOk us) {ps qs ps' qs' : List KK} (hl : ts.length + ps.length + 10 < 90000) (hl' : us.length + ps'.length + 10 < 90000) (h : PubsOf ts ps qs) (h' : PubsOf us ps' qs')
    (he : (qs.map fun q => agr q.1 q.2) = (qs'.map fun q => agr q.1 q.2)) (hpre : (agreedT ts ps).2 <+: us) : agreedT us ps' = ((agreedT ts ps).1, us) := by
  rw [agreedT_go hts hl h] at hpre ⊢
  have hg := goG_again qs qs' ts us [] he ((put_pre _ _).trans hpre)
  have hn := (Nm.put (goG ts [] qs).2 ⟨2, hello, (goG ts [] qs).1⟩).mono hpre
  rw [agreedT_go hus hl' h', hg]
  simp only
  rw [hn.putT, hn.putN]
end Go.Cab
namespace Go.Cab
open Classical
theorem dig8_nat {n : Nat} (h : n < 10) : (dig8 n).toNat = 48 + n := by
  unfold dig8
  rw [UInt8.toNat_ofNat']
  omega
theorem digs_lo {n : Nat} (h : n < 10) : digs n = [dig8 n] := by rw [digs]; simp [h]
theorem digs_hi {n : Nat} (h : ¬ n < 10) : digs n = digs (n / 10) ++ [dig8 (n % 10)] := by rw [digs]; simp [h]
theorem dig8_ne {n : Nat} (h : n < 10) : dig8 n ≠ 32 := fun e => by
  have := congrArg UInt8.toNat e
  rw [dig8_nat h] at this
  simp at this
  omega
theorem digs_ne (n : Nat) : 0 < (digs n).length ∧ ∀ b ∈ digs n, b ≠ 32 := by
  induction n using Nat.strongRecOn with
  | _ n ih =>
    by_cases hn : n < 10
    · rw [digs_lo hn]
      refine ⟨by simp, fun b hb => ?_⟩
      simp only [List.mem_singleton] at hb
      subst hb
      exact dig8_ne hn
    · rw [digs_hi hn]
      obtain ⟨h1, h2⟩ := ih (n / 10) (by omega)
      refine ⟨by simp, fun b hb => ?_⟩
      rcases List.mem_append.1 hb with hb | hb
      · exact h2 b hb
      · simp only [List.mem_singleton] at hb
        subst hb
        exact dig8_ne (by omega)
theorem dig8_inj {a b : Nat} (ha : a < 10) (hb : b < 10) (h : dig8 a = dig8 b) : a = b := by
  have := congrArg UInt8.toNat h
  rw [dig8_nat ha, dig8_nat hb] at this
  omega
theorem digs_inj (n : Nat) : ∀ m, digs n = digs m → n = m := by
  induction n using Nat.strongRecOn with
  | _ n ih =>
    intro m h
    by_cases hn : n < 10
    · rw [digs_lo hn] at h
      by_cases hm : m < 10
      · rw [digs_lo hm] at h
        simp only [List.cons.injEq, and_true] at h
        exact dig8_inj hn hm h
      · rw [digs_hi hm] at h
        have := congrArg List.length h
        have h2 := (digs_ne (m / 10)).1
        simp at this
        rw [this] at h2
        simp at h2
    · rw [digs_hi hn] at h
      by_cases hm : m < 10
      · rw [digs_lo hm] at h
        have := congrArg List.length h
        have h2 := (digs_ne (n / 10)).1
        simp at this
        rw [this] at h2
        simp at h2
      · rw [digs_hi hm] at h
        obtain ⟨h1, h2⟩ := List.append_inj' h rfl
        have e := ih (n / 10) (by omega) (m / 10) h1
        simp only [List.cons.injEq, and_true] at h2
        have := dig8_inj (by omega) (by omega) h2
        omega
theorem tw_no {d rest : List UInt8} (hd : ∀ b ∈ d, b ≠ 32) (hr : rest = [] ∨ ∃ r, rest = 32 :: r) : (d ++ rest).takeWhile (fun b => b != 32) = d ∧ (d ++ rest).dropWhile (fun b => b != 32) = rest := by
  induction d with
  | nil =>
    rcases hr with rfl | ⟨r, rfl⟩
    · exact ⟨rfl, rfl⟩
    · simp
  | cons b d ih =>
    obtain ⟨h1, h2⟩ := ih (fun x hx => hd x (List.mem_cons_of_mem _ hx))
    have hb : (b != 32) = true := by simpa using hd b (by simp)
    simp only [List.cons_append, List.takeWhile_cons, List.dropWhile_cons, hb, if_true]
    exact ⟨by rw [h1], h2⟩
theorem labelG_head (it : Int → List UInt8) : ∀ ns : List Int, labelG it ns = [] ∨ ∃ r, labelG it ns = 32 :: r
  | [] => .inl rfl
  | n :: ns => .inr ⟨_, rfl⟩
theorem labelG_inj {it : Int → List UInt8} {p : Int → Prop} (h1 : ∀ n, p n → ∀ b ∈ it n, b ≠ 32) (h2 : ∀ n m, p n → p m → it n = it m → n = m) :
    ∀ (ns ms : List Int), (∀ n ∈ ns, p n) → (∀ n ∈ ms, p n) → labelG it ns = labelG it ms → ns = ms
  | [], [], _, _, _ => rfl
  | [], m :: ms, _, _, h => by simp [labelG] at h
  | n :: ns, [], _, _, h => by simp [labelG] at h
  | n :: ns, m :: ms, hn, hm, h => by
    have e1 : ∀ (n : Int) (ns : List Int), labelG it (n :: ns) = 32 :: (it n ++ labelG it ns) := fun n ns => by simp [labelG]
    rw [e1, e1, List.cons.injEq] at h
    obtain ⟨a1, a2⟩ := tw_no (h1 n (hn n (by simp))) (labelG_head it ns)
    obtain ⟨b1, b2⟩ := tw_no (h1 m (hm m (by simp))) (labelG_head it ms)
    rw [h.2] at a1 a2
    have e := h2 n m (hn n (by simp)) (hm m (by simp)) (a1.symm.trans b1)
    rw [e, labelG_inj h1 h2 ns ms (fun x hx => hn x (List.mem_cons_of_mem _ hx)) (fun x hx => hm x (List.mem_cons_of_mem _ hx)) (a2.symm.trans b2)]
def nameT (it : Int → List UInt8) (o : OpV) : Term := ⟨2, labelT it o, o.parents ++ ([o.ofk, o.check] ++ if o.kind = 7 then [o.text] else [])⟩
def coreEq (a b : OpV) : Prop := a.author = b.author ∧ a.seq = b.seq ∧ a.parents = b.parents ∧ a.kind = b.kind ∧ a.who = b.who ∧ a.ofk = b.ofk ∧ a.check = b.check ∧ a.text = b.text
theorem right_nums {o : OpV} (ho : OpOk o) (h : rightV o = true) : ∀ n ∈ numsV o, 0 ≤ n := by
  have w := opW_of ho h
  intro n hn
  simp only [numsV, List.mem_cons] at hn
  rcases hn with rfl | rfl | rfl | hn
  · exact w.kind.1
  · exact w.author.1
  · omega
  · have := w.who.2 n hn
    unfold memN at this
    omega
theorem right_text {o : OpV} (h : rightV o = true) : o.kind = 7 ↔ 0 < o.text.length := by
  unfold rightV at h
  simp only [Bool.and_eq_true, Bool.not_eq_true'] at h
  obtain ⟨⟨⟨_, _⟩, h3⟩, _⟩ := h
  unfold c3V at h3
  simp only [decide_eq_false_iff_not, not_or, not_not] at h3
  exact h3.2.2.1
theorem nameT_inj {it : Int → List UInt8} (hit : ∀ n : Nat, it (n : Int) = digs n) {a b : OpV} (ha : OpOk a) (hb : OpOk b) (ra : rightV a = true) (rb : rightV b = true) (h : nameT it a = nameT it b) : coreEq a b := by
  unfold nameT at h
  simp only [Term.mk.injEq, true_and] at h
  obtain ⟨h1, h2⟩ := h
  unfold labelT labT at h1
  have h1 := (List.append_inj h1 rfl).2
  have e := labelG_inj (p := fun n => 0 ≤ n) (fun n hn b hb => by
    obtain ⟨m, rfl⟩ := Int.eq_ofNat_of_zero_le hn
    rw [hit] at hb
    exact (digs_ne m).2 b hb) (fun n m hn hm e => by
    obtain ⟨n, rfl⟩ := Int.eq_ofNat_of_zero_le hn
    obtain ⟨m, rfl⟩ := Int.eq_ofNat_of_zero_le hm
    rw [hit, hit] at e
    rw [digs_inj n m e]) _ _ (right_nums ha ra) (right_nums hb rb) h1
  simp only [numsV, List.cons.injEq] at e
  obtain ⟨e1, e2, e3, e4⟩ := e
  have ta := right_text ra
  have tb := right_text rb
  rw [e1] at h2
  have key : a.parents = b.parents ∧ a.ofk = b.ofk ∧ a.check = b.check ∧ a.text = b.text := by
    by_cases hk : b.kind = 7
    · rw [if_pos hk, if_pos hk] at h2
      obtain ⟨p1, p2⟩ := List.append_inj' h2 rfl
      simp only [List.cons_append, List.nil_append, List.cons.injEq, and_true] at p2
      exact ⟨p1, p2⟩
    · rw [if_neg hk, if_neg hk] at h2
      obtain ⟨p1, p2⟩ := List.append_inj' h2 rfl
      simp only [List.cons_append, List.nil_append, List.cons.injEq, and_true] at p2
      have z1 : a.text = [] := List.eq_nil_of_length_eq_zero (by have := mt ta.2 (by rw [e1]; exact hk); omega)
      have z2 : b.text = [] := List.eq_nil_of_length_eq_zero (by have := mt tb.2 hk; omega)
      exact ⟨p1, p2.1, p2.2, by rw [z1, z2]⟩
  exact ⟨e2, by omega, key.1, e1, e4, key.2.1, key.2.2.1, key.2.2.2⟩
theorem nameT_core {it : Int → List UInt8} {a b : OpV} (h : coreEq a b) : nameT it a = nameT it b := by
  obtain ⟨h1, h2, h3, h4, h5, h6, h7, h8⟩ := h
  unfold nameT labelT numsV
  rw [h1, h2, h3, h4, h5, h6, h7, h8]
end Go.Cab
namespace Go.Cab
open Go.RowKit
open Classical
def fb516 : AC := (.seq (.reg [⟨some 4, none, .alloc 32 (.arr 1 (List.replicate 32 (.lit (bn 0)))), [], none⟩]) (.seq (.reg [⟨some 5, none, .alloc 32 (.arr 1 (List.replicate 32 (.lit (bn 0)))), [], none⟩]) (.seq (.seq (.reg [⟨some 6, none, .mov (.tmp 1), [], none⟩, ⟨some 7, none, .len true (.tmp 6), [], none⟩, ⟨some 8, none, .bin .neq (.tmp 7) (.const (jn 32)), [], none⟩]) (.cond (.tmp 8) (.seq (.reg [⟨some 9, none, .mov (.tmp 0), [], none⟩, ⟨some 10, none, .mov (.tmp 1), [], none⟩, ⟨some 11, none, .bin .add (.const (tx [98, 111, 120])) (.tmp 10), [], none⟩, ⟨some 12, none, .icall 95 (.tmp 9) [(.tmp 11), (.const (.slice .none 0 0))], [], none⟩, ⟨none, none, .store 32 (.tmp 4) (.tmp 12), [], none⟩]) .ret) .skip)) (.seq (.reg [⟨some 13, none, .rdp (.vslice 1 32 false false) [.tmp 5], [], none⟩, ⟨some 14, none, .mov (.tmp 1), [], none⟩, ⟨some 15, none, .ef (.copy 1) [.tmp 13, .tmp 14], [], none⟩]) (.seq (.reg [⟨some 16, none, .load true 32 (.tmp 5), [], none⟩, ⟨none, none, .store 32 (.tmp 4) (.tmp 16), [], none⟩]) .ret)))))
def fc516 : FC := ⟨2, 17, [(.cell 4 .true 32)], fb516⟩
theorem fc516_eq : compF Go.Proofs.Tryd.prog 97 = some fc516 := by kernel_rfl
theorem tgt_mark (b : Nat) (l : Nat × Nat) (x : AV) : tgtA Go.Proofs.Tryd.prog (.dir 97) [.ptr b l 0 [], x] = some (97, [.ptr b l 0 [], x]) := by kernel_rfl
set_option maxHeartbeats 8000000 in
theorem mark_call {H : List (Option Blk)} (b : Nat) (l : Nat × Nat) {m : List UInt8} (hl : m.length = 32) : XCall Go.Proofs.Tryd.prog 97 [.ptr b l 0 [], .lit (tx m)] H fun r H' => r = keyA m ∧ H' = H := by
  have h516 := fc516_eq
  refine XCall.le ?_
  refine XCall.of h516 rfl ?_; show AC.wp _ fb516 ⟨H.length, [.ptr b l 0 [], .lit (tx m)] ++ List.replicate (17 - 2) .any, H ++ List.replicate 17 none⟩ (fun x s => match x with | .exit _ => False | _ => ∃ s1, Le s s1 ∧ FinX [(.cell 4 .true 32)] s1 _); unfold fb516
  generalize hN : H.length = N at *
  have p1 : ∀ L k, (H ++ L)[N + k]? = L[k]? := fun L k => cat1 N H L k hN
  have p2 : ∀ L k x, (H ++ L).set (N + k) x = H ++ L.set k x := fun L k x => cat2 N H L k x hN
  refine wp_sg (areg_al' zk_eq.symm fun l4 => areg_end (by simp [push_cast, p1, p2]; exact rfl) ?_)
  refine wp_sg (areg_al' zk_eq.symm fun l5 => areg_end (by simp [push_cast, p1, p2]; exact rfl) ?_)
  refine wp_seq' (wp_sr (by simp [push_cast, hl]; exact rfl) (wp_cond_f rfl (wp_skip' ?_)))
  refine wp_sg ?_
  refine areg_run 2 (by simp [push_cast]; exact rfl) ?_
  refine areg_cpk (src := m) (k' := m) rfl (by simp only [AS.blk, p1]; rfl) (listB_tx _ _) (by simp [zk_len]) (by omega) (by simp [List.drop_eq_nil_of_le, hl, zk_len]) (areg_nil ?_)
  refine wp_sr (by simp [push_cast, p1, p2, hl]; exact rfl) (wp_ret' ?_)
  exact ⟨_, Le.refl _, [], _, ⟨by simp [AS.seals, RVals, RVal, AS.ev, AS.peek, AS.blk, p1, Blk.loc, Blk.cont, Blk.n, AV.nav, AV.isAgg, AV.isTup, AS.coe]; rfl, by simp [keyA]⟩, keyA m, H, RelLe.refl _, by simp [keyA], HpLe.trim _ _, rfl, rfl⟩
theorem mark_k {H : List (Option Blk)} {t : Tb} {ts : List Term} {m : List UInt8} (hl : m.length = 32) : KC Go.Proofs.Tryd.prog 97 [.ptr t.b t.l 0 [], .lit (tx m)] H t ts (keyA m) ts := fun V L =>
  XCall.mono (mark_call _ _ hl) fun r H' hr => ⟨hr.1, V, hr.2⟩
end Go.Cab
namespace Go.Cab
open Go.RowKit
open Classical
def fb810 : AC := (.seq (.reg [⟨some 3, none, .box 71 (.tmp 1), [], none⟩, ⟨some 4, none, .alloc 32 (.arr 1 (List.replicate 32 (.lit (bn 0)))), [], none⟩]) (.seq (.seq (.reg [⟨some 6, none, .load true 71 (.tmp 3), [], none⟩, ⟨some 7, none, .call 7 [.tmp 6], [], none⟩, ⟨some 8, none, .un .not (.tmp 7), [], none⟩]) (.cond (.tmp 8) (.seq (.reg [⟨some 9, none, .build (.arr 1 (List.replicate 32 (.lit (bn 0)))) [], [], none⟩, ⟨none, none, .store 32 (.tmp 4) (.tmp 9), [], none⟩]) .ret) .skip)) (.seq (.reg [⟨some 10, none, .faddr 2 2 (.tmp 3), [], none⟩, ⟨some 11, none, .load false 1 (.tmp 10), [], (.some 3)⟩, ⟨some 12, none, .xc (.dir 22) [.tmp 11] [3, 3] [], [], none⟩, ⟨some 13, none, .faddr 5 5 (.tmp 3), [], none⟩, ⟨some 14, none, .load true 32 (.tmp 13), [], (.some 3)⟩, ⟨some 15, none, .faddr 37 6 (.tmp 3), [], none⟩, ⟨some 16, none, .load true 32 (.tmp 15), [], (.some 3)⟩, ⟨some 17, none, .bslice 32 (.arr 1 (List.replicate 32 (.lit (bn 0)))) 2 [(0, (.tmp 14)), (1, (.tmp 16))], [], none⟩, ⟨some 18, none, .append 26 32 32 (.tmp 12) (.tmp 17), [], none⟩, ⟨some 5, none, .mov (.tmp 18), [], none⟩]) (.seq (.seq (.reg [⟨some 19, none, .faddr 3 3 (.tmp 3), [], none⟩, ⟨some 20, none, .load false 1 (.tmp 19), [], none⟩, ⟨some 21, none, .bin .eql (.tmp 20) (.const (jn 7)), [], none⟩]) (.cond (.tmp 21) (.reg [⟨some 22, none, .mov (.tmp 5), [], none⟩, ⟨some 23, none, .mov (.tmp 0), [], none⟩, ⟨some 24, none, .faddr 69 7 (.tmp 3), [], none⟩, ⟨some 25, none, .load false 1 (.tmp 24), [], none⟩, ⟨some 26, none, .xc (.inv "Mark") [.tmp 23, .tmp 25] [] [], [], none⟩, ⟨some 27, none, .bslice 32 (.arr 1 (List.replicate 32 (.lit (bn 0)))) 1 [(0, (.tmp 26))], [], none⟩, ⟨some 28, none, .append 26 32 32 (.tmp 22) (.tmp 27), [], none⟩, ⟨some 5, none, .mov (.tmp 28), [], none⟩]) .skip)) (.seq (.reg [⟨some 29, none, .mov (.tmp 0), [], none⟩, ⟨some 30, none, .load true 71 (.tmp 3), [], (.some 3)⟩, ⟨some 31, none, .callv 23 [.tmp 30], [], none⟩, ⟨some 32, none, .mov (.tmp 5), [], none⟩, ⟨some 33, none, .rdp (.mkfn (.method "Hash") 1) [.tmp 29], [], none⟩, ⟨some 34, none, .rdp .nilv [.tmp 33], [], none⟩, ⟨some 35, none, .mov (.tmp 29), [], none⟩, ⟨some 36, none, .xc (.inv "Hash") [.tmp 35, .tmp 31, .tmp 32] [] [], [], none⟩, ⟨none, none, .store 32 (.tmp 4) (.tmp 36), [], none⟩]) .ret)))))
def fc810 : FC := ⟨2, 37, [(.cell 4 .true 32)], fb810⟩
theorem fc810_eq : compF Go.Proofs.Tryd.prog 9 = some fc810 := by kernel_rfl
attribute [local irreducible] AReg
def nameV (it : Int → List UInt8) (ts : List Term) (o : OpV) : List UInt8 × List Term := if rightV o then (nameK (putN ts (nameT it o)), putT ts (nameT it o)) else (zk, ts)
theorem tgt_markI (b : Nat) (l : Nat × Nat) (x : AV) : tgtA Go.Proofs.Tryd.prog (.inv "Mark") [freeI b l, x] = some (97, [.ptr b l 0 [], x]) := by kernel_rfl
set_option maxHeartbeats 16000000 in
theorem fname_call {H : List (Option Blk)} {t : Tb} {V : Value} {ts : List Term} (hh : TbOk H t V ts) (hn : ts.length < 100000) {o : OpV} (ho : OpOk o) (hbl : ∀ b ∈ o.boxes, b.body.length < 9223372036854775808) (hw : o.who.length < 1000) (hp : o.parents.length < 1000) {it : Int → List UInt8} (hit : ∀ n ∈ numsV o, PCall Go.Proofs.Tryd.prog 47 [.lit (ji n)] (.val (.lit (tx (it n))))) (hil : ∀ n ∈ numsV o, (it n).length ≤ 30)
    (hm : rightV o = true → o.kind = 7 → o.text.length = 32) :
    XCall Go.Proofs.Tryd.prog 9 [freeI t.b t.l, opA o] H fun r H' => r = keyA (nameV it ts o).1 ∧ ∃ V', H' = tbOf H t V' (nameV it ts o).2 := by
  have h810 := fc810_eq
  refine XCall.le ?_
  have hc24 : callable Go.Proofs.Tryd.prog 22 = true := by kernel_rfl
  have cR := right_call ho hbl
  have cL := label_call ho hit hil
  have hll := labelT_len ho hil hw
  have cC := fun H => PCall.xrow H (clone_row (klA o.parents) (by rw [klA_len]; omega))
  have o5 := ho.ofk
  have o6 := ho.check
  have hpl0 := klA_len o.parents
  have hnm : nameV it ts o = if rightV o then (nameK (putN ts ⟨2, labelT it o, o.parents ++ ([o.ofk, o.check] ++ if o.kind = 7 then [o.text] else [])⟩), putT ts ⟨2, labelT it o, o.parents ++ ([o.ofk, o.check] ++ if o.kind = 7 then [o.text] else [])⟩) else (zk, ts) := rfl
  have h32 : ∀ k ∈ o.parents ++ [o.ofk, o.check], k.length = 32 := fun k hk => by
    simp only [List.mem_append, List.mem_cons, List.not_mem_nil, or_false] at hk
    rcases hk with hk | rfl | rfl
    · exact ho.p32 k hk
    · exact o5
    · exact o6
  have hkl : klA o.parents ++ klA [o.ofk, o.check] = klA (o.parents ++ [o.ofk, o.check]) := by simp [klA]
  have hpl : (o.parents ++ [o.ofk, o.check]).length = o.parents.length + 2 := by simp
  have hash1 : ∀ ks : List (List UInt8), ks.length < 100000 → (∀ k ∈ ks, k.length = 32) → _ := fun ks hk h3 V L => hash_k hh hn hll (ks := ks) hk h3 V L
  have hself := hh.self
  have k7 : binVal .eql (ji o.kind) (jn 7) = some (.bool (decide (o.kind = 7))) := bin_eqlij _ _
  have mk := fun h7 ts' => mark_k (H := H) (t := t) (ts := ts') (m := o.text) h7
  have G1 : ∀ V' ts', (tbOf H t V' ts').length = H.length := fun V' ts' => tbOf_len _ _ _ _
  have g1 : ∀ V' ts' L k, (tbOf H t V' ts' ++ L)[H.length + k]? = L[k]? := fun V' ts' L k => cat1 _ _ _ _ (G1 _ _)
  have g2 : ∀ V' ts' L k x, (tbOf H t V' ts' ++ L).set (H.length + k) x = tbOf H t V' ts' ++ L.set k x := fun V' ts' L k x => cat2 _ _ _ _ _ (G1 _ _)
  have hA : opA o = opB o.author o.seq o.parents o.kind (o.who.map fun x => AV.lit (ji x)) o.ofk o.check o.text (o.boxes.map fun x => boxA x) := rfl
  rw [hA] at cR cL ⊢
  have bsz : ∀ W B, (opB o.author o.seq o.parents o.kind W o.ofk o.check o.text B).sz = 71 := fun W B => by simp [opB, AV.sz, keyA, o5, o6]
  rw [hnm]
  clear hnm
  generalize labelT it o = lb at *
  generalize (o.who.map fun x => AV.lit (ji x)) = W at *
  generalize (o.boxes.map fun x => boxA x) = B at *
  generalize hrv : rightV o = rv at *
  refine XCall.of h810 rfl ?_; show AC.wp _ fb810 ⟨H.length, [freeI t.b t.l, opB o.author o.seq o.parents o.kind W o.ofk o.check o.text B] ++ List.replicate (37 - 2) .any, H ++ List.replicate 37 none⟩ (fun x s => match x with | .exit _ => False | _ => ∃ s1, Le s s1 ∧ FinX [(.cell 4 .true 32)] s1 _); unfold fb810
  rw [← hself]
  rw [tbOf_len]
  generalize hN : H.length = N at *
  refine wp_sg (areg_bx rfl (by simp [AS.ev, bsz]) fun l3 => areg_al' zk_eq.symm fun l4 => areg_end (by simp [push_cast, g2]; exact rfl) ?_)
  unfold opB at cR cL ⊢
  have cR' := cR
  have cL' := cL
  unfold keyA at cR' cL'
  refine wp_seq' (wp_seq' (wp_rg ?_))
  refine areg_run 1 (by simp [push_cast, g1, o5, o6]; exact rfl) ?_
  refine areg_ca (by simp [AS.ev, AS.coe, AS.put] <;> exact rfl) cR' ?_
  cases rv with
  | false =>
    refine areg_end (by simp [push_cast]; exact rfl) ?_
    refine wp_cond_t (by simp [AS.ev]) (wp_sg (areg_bz (areg_end (by simp [push_cast, g1, g2, zk_len]; exact rfl) (wp_ret' ?_))))
    exact ⟨_, Le.refl _, [], _, ⟨by simp [AS.seals, RVals, RVal, AS.ev, AS.peek, AS.blk, g1, Blk.loc, Blk.cont, Blk.n, AV.nav, AV.isAgg, AV.isTup, AS.coe]; rfl, by simp [keyA]⟩, keyA zk, _, RelLe.refl _, by simp [keyA], HpLe.trim _ _, rfl, V, (hh.of_of _ _ _ _).symm⟩
  | true =>
    refine areg_end (by simp [push_cast]; exact rfl) ?_
    refine wp_cond_f (by simp [AS.ev]) (wp_skip' ?_)
    refine wp_sg ?_
    refine areg_run 2 (by simp [push_cast, g1, o5, o6]; exact rfl) ?_
    refine areg_xq (us := [.sl 32 (klA o.parents)]) rfl (by simp only [tgtA, tgtB, Option.bind_some, hc24, if_true]) (cC _) ⟨_, _, .slice none 0 0, rfl, rfl⟩ (fun r hp' hK t' ht' b hb' => ?_) ?_
    · obtain ⟨V', rfl, rfl⟩ := hK
      simp at ht'
      subst ht'
      simp [AS.ev, AV.place] at hb'
      subst hb'
      simp [g1]
    rintro r H' ⟨V2, rfl, rfl⟩
    refine areg_run 4 (by simp [push_cast, g1, G1, o5, o6]; exact rfl) ?_
    refine areg_bsl (k := 32) (els := klA [o.ofk, o.check]) (fill_ar rfl rfl rfl (by simp [AV.sz, AS.ev, AS.put, o5, bl_len]) (fill_ar rfl rfl rfl (by simp [AV.sz, AS.ev, AS.put, o6, bl_len]) rfl)) ?_
    refine areg_ap (b := N + 37) (V := V2) (ys := klA [o.ofk, o.check]) rfl (by simp only [AS.blk, AS.put, g1]; rfl) (by simp [AS.ev, AS.put, AS.coe, klA, keyA]) (by rw [klA_len, klA_len]; simp [maxLen]; omega) (by rw [klA_len, klA_len]; simp; omega) (fun V3 => ?_) (by
      intro t' ht' b hb'
      simp at ht')
    rw [hkl]
    refine areg_end (by simp [push_cast, g2]; exact rfl) ?_
    by_cases hk : o.kind = 7
    · have h7 := hm rfl hk
      have h33 : ∀ k ∈ o.parents ++ [o.ofk, o.check] ++ [o.text], k.length = 32 := fun k hk => by
        rcases List.mem_append.1 hk with hk | hk
        · exact h32 k hk
        · simp only [List.mem_singleton] at hk
          rw [hk]; exact h7
      have hks : o.parents ++ ([o.ofk, o.check] ++ [o.text]) = o.parents ++ [o.ofk, o.check] ++ [o.text] := by simp
      have hkl2 : klA (o.parents ++ [o.ofk, o.check]) ++ klA [o.text] = klA (o.parents ++ [o.ofk, o.check] ++ [o.text]) := by simp [klA]
      have hhash := hash1 (o.parents ++ [o.ofk, o.check] ++ [o.text]) (by simp; omega) h33
      have hmk := mk h7 ts
      simp only [if_true, if_pos hk]
      rw [hks]
      refine wp_seq' (wp_seq' (wp_r (by simp [push_cast, g1, k7, o5, o6]; exact rfl) ?_))
      refine wp_cond_t (by simp [AS.ev, hk]) (wp_rg ?_)
      refine areg_run 4 (by simp [push_cast, g1, g2, o5, o6]; exact rfl) ?_
      refine areg_k [freeI t.b t.l, .lit (tx o.text)] hN rfl (tgt_markI _ _ _) hmk (by simp) (by simp) fun V4 => ?_
      refine areg_bsl (k := 32) (els := klA [o.text]) (fill_ar rfl rfl rfl (by simp [AV.sz, AS.ev, AS.put, keyA, h7, bl_len]) rfl) ?_
      refine areg_ap (b := N + 18) (V := V3) (ys := klA [o.text]) rfl (by simp only [AS.blk, AS.put, g1]; rfl) (by simp [AS.ev, AS.put, AS.coe, klA, keyA]) (by rw [klA_len, klA_len]; simp [maxLen]; omega) (by rw [klA_len, klA_len]; simp; omega) (fun V5 => ?_) (by
        intro t' ht' b hb'
        simp at ht')
      rw [hkl2]
      clear hks
      generalize o.parents ++ [o.ofk, o.check] ++ [o.text] = ks2 at *
      refine areg_end (by simp [push_cast, g2]; exact rfl) ?_
      refine wp_sg ?_
      refine areg_run 2 (by simp [push_cast, g1, o5, o6]; exact rfl) ?_
      refine areg_cv (by simp [AS.ev, AS.coe, AS.put] <;> exact rfl) cL' ?_
      refine areg_run 1 (by simp [push_cast]; exact rfl) ?_
      refine areg_rdp (us := [freeI t.b t.l]) rfl (mkfn_draw _ _ _) ?_
      refine areg_rdp (us := [.fnv (.method "Hash") [freeI t.b t.l] []]) rfl (nilv_hash _ _) ?_
      refine areg_run 1 (by simp [push_cast]; exact rfl) ?_
      refine areg_xq (us := [freeI t.b t.l, .lit (tx lb), .own (N + 28) V5]) rfl (tgt_hashI _ _ _ _) (KC.seal (vs := [.ptr t.b t.l 0 [], .lit (tx lb), .own (N + 28) V5]) (i := 2) (c := 28) (e := 26) (esz := 32) (els := klA ks2) (sl := 0) hhash (by rw [← hN]; rfl) rfl) ⟨_, _, rfl, .slice none 0 0, rfl⟩ (fun r hp' hK t' ht' => by cases ht') ?_
      rintro r H' ⟨rfl, V9, rfl⟩
      refine areg_end (by simp [push_cast, g1, g2, nameK_len]; exact rfl) (wp_ret' ?_)
      exact ⟨_, Le.refl _, [], _, ⟨by simp [AS.seals, RVals, RVal, AS.ev, AS.peek, AS.blk, g1, Blk.loc, Blk.cont, Blk.n, AV.nav, AV.isAgg, AV.isTup, AS.coe]; rfl, by simp [keyA]⟩, keyA _, _, RelLe.refl _, by simp [keyA], HpLe.trim _ _, rfl, V9, (hh.of_of _ _ _ _).symm⟩
    · have hks : o.parents ++ ([o.ofk, o.check] ++ []) = o.parents ++ [o.ofk, o.check] := by simp
      have hhash := hash1 (o.parents ++ [o.ofk, o.check]) (by simp; omega) h32
      simp only [if_true, if_neg hk]
      rw [hks]
      refine wp_seq' (wp_seq' (wp_r (by simp [push_cast, g1, k7, o5, o6]; exact rfl) ?_))
      refine wp_cond_f (by simp [AS.ev, hk]) (wp_skip' ?_)
      refine wp_sg ?_
      refine areg_run 2 (by simp [push_cast, g1, o5, o6]; exact rfl) ?_
      refine areg_cv (by simp [AS.ev, AS.coe, AS.put] <;> exact rfl) cL' ?_
      refine areg_run 1 (by simp [push_cast]; exact rfl) ?_
      refine areg_rdp (us := [freeI t.b t.l]) rfl (mkfn_draw _ _ _) ?_
      refine areg_rdp (us := [.fnv (.method "Hash") [freeI t.b t.l] []]) rfl (nilv_hash _ _) ?_
      refine areg_run 1 (by simp [push_cast]; exact rfl) ?_
      refine areg_xq (us := [freeI t.b t.l, .lit (tx lb), .own (N + 18) V3]) rfl (tgt_hashI _ _ _ _) (KC.seal (vs := [.ptr t.b t.l 0 [], .lit (tx lb), .own (N + 18) V3]) (i := 2) (c := 18) (e := 26) (esz := 32) (els := klA (o.parents ++ [o.ofk, o.check])) (sl := 0) hhash (by rw [← hN]; rfl) rfl) ⟨_, _, rfl, .slice none 0 0, rfl⟩ (fun r hp' hK t' ht' => by cases ht') ?_
      rintro r H' ⟨rfl, V9, rfl⟩
      refine areg_end (by simp [push_cast, g1, g2, nameK_len]; exact rfl) (wp_ret' ?_)
      exact ⟨_, Le.refl _, [], _, ⟨by simp [AS.seals, RVals, RVal, AS.ev, AS.peek, AS.blk, g1, Blk.loc, Blk.cont, Blk.n, AV.nav, AV.isAgg, AV.isTup, AS.coe]; rfl, by simp [keyA]⟩, keyA _, _, RelLe.refl _, by simp [keyA], HpLe.trim _ _, rfl, V9, (hh.of_of _ _ _ _).symm⟩
end Go.Cab
namespace Go.Cab
open Go.ChangeShapes Go.WideShapes Go.RowKit Go.ChangeAt
section
variable {H : Type} {enc : TypeId × Value → H} {P : Program}
theorem post_below {f : Func} {s : ChangeSpec} {apart fresh handsOn again : Bool} {W W' : World} {args : Array Value} {v : Value} {ds : List (DataW H)} {before : List MemPlace}
    (hvs : s.vars = []) (hW : DataW.Whole enc P f.params.toList s.vars apart W args.toList ds [] before)
    (hb : Below W.heap.size W W')
    (hres : ∀ (b : Nat) (sp : Nat → Bool) (hd : Bool), DataW.TrodAll enc P W' b sp hd f.resultTypes.toList (v.resultList f.resultTypes.size) (s.fn H (ds ++ [])).results [])
    (hargs : ∀ sp : Nat → Bool, (∀ p ∈ before, sp p.block = true) → DataW.TrodAll enc P W' 0 sp true f.params.toList args.toList (s.fn H (ds ++ [])).args before)
    (hvars : ∀ sp : Nat → Bool, DataW.TrodVars enc P W' sp s.vars (s.fn H (ds ++ [])).vars [])
    (hok : ∀ (j : Nat) (t : TypeId) (r : Value), f.resultTypes[j]? = some t → (v.resultList f.resultTypes.size)[j]? = some r → Value.okWide P W' .any 0 t r) :
    s.post enc P f apart fresh handsOn again W args v W' := by
  have hlt : ∀ p ∈ before, p.block < W.heap.size := fun p hp => hW.lt p hp
  refine ⟨ds, [], before, [], before, [], hW, hres _ _ _, hargs _ (fun p hp => by simpa using hlt p hp), hvars _, hb.frame _, fun _ => ?_⟩
  obtain ⟨_, _, _, _, _, hz, hn⟩ := hW
  refine ⟨hok, _, _, ([] ++ before) ++ [], ⟨[] ++ before, [], trodAll_append (hargs _ (fun _ _ => rfl)) (hres _ _ _), hvars _, rfl, fun b o hp => ?_, fun ha => ?_⟩, fun p hp _ => ?_⟩
  · have hp' : MemPlace.cell b o ∈ before := by simpa using hp
    have h1 := hz b o hp'
    rw [hb.frozen (p := ⟨b, o, none⟩) (hlt _ hp')]
    exact h1
  · simpa using hn ha
  · simpa using hp
end
end Go.Cab
namespace Go.Cab
open Go.ChangeShapes Go.WideShapes Go.RowKit
section
variable {H : Type} {enc : TypeId × Value → H} {P : Program} {W : World} {base : Nat} {sp : Nat → Bool} {held : Bool}
theorem At.app {Imm : Nat → Nat → Prop} {w : World} {b o : Nat} {c d : List Value} (h : At Imm w b o c) (k : At Imm w b (o + c.length) d) : At Imm w b o (c ++ d) := by
  intro i v hv
  by_cases hi : i < c.length
  · rw [List.getElem?_append_left hi] at hv; exact h i v hv
  · rw [List.getElem?_append_right (by omega)] at hv
    have := k (i - c.length) v hv
    rwa [show o + c.length + (i - c.length) = o + i by omega] at this
def StOf (W : World) (ps : List MemPlace) (b o : Nat) : Prop := MemPlace.cell b o ∈ ps ∧ (W.cell? ⟨b, o, none⟩).isSome = true
theorem open_sl {t k : TypeId} {c : Nat} (ht : P.underlying t = some (.slice k)) (hc : P.cellsOf k = c) (G : AV → Prop)
    (hel : ∀ (n : Nat) (cs : List Value) (x : DataW H × List MemPlace), DataW.trod enc P W base sp held n k cs = some x → cs.length = c → ∃ v, G v ∧ R (StOf W x.2) W v cs ∧ ∀ y ∈ cs, sc y = true)
    {r : Reach} {b0 : Nat} {v : Value} (hval : Value.okWide P W r b0 t v) {d : DataW H} {ps : List MemPlace} (hd : DataW.Trod enc P W base sp held t v d ps) :
    ∃ vs : List AV, (∀ u ∈ vs, G u) ∧ Rel (StOf W ps) W (.sl c vs) v := by
  obtain ⟨fuel, hf⟩ := hd
  have hv : (∃ a len cap, v = .slice a len cap) := by
    cases v <;> simp [Value.okWide, Cell.okWide, Cell.ok, ht] at hval ⊢
  obtain ⟨a0, len0, cap0, rfl⟩ := hv
  have hcs : (Value.slice a0 len0 cap0).cells.toList = [.slice a0 len0 cap0] := rfl
  rw [hcs] at hf
  rcases Go.Deep.open_slice ht hf with ⟨h1, h2⟩ | ⟨a, len, cap, m, n, D, Pl, h1, _, hle, _, hm, h2, hall⟩
  · cases h1
    exact ⟨[], by simp, .inr ⟨_, .slnil c, rfl⟩⟩
  · cases h1
    have hspot : a.spot = none := by
      simp only [Value.okWide, Cell.okWide, Cell.ok, ht] at hval
      exact hval.2.2.2.1
    have hps : ps = MemPlace.row a (m * P.cellsOf k) ++ (List.range m).flatMap Pl := congrArg Prod.snd h2
    rw [hc] at hps hall
    have hlm : len0 ≤ m := by rw [hm]; split <;> omega
    have key : ∀ q, q ≤ len0 → ∃ (vs : List AV) (cs : List Value), (∀ u ∈ vs, G u) ∧ vs.length = q ∧ cs.length = q * c ∧ R (StOf W ps) W (.arr c vs) cs ∧ At (StOf W ps) W a.block (a.off + (len0 - q) * c) cs := by
      intro q
      induction q with
      | zero => exact fun _ => ⟨[], [], by simp, rfl, by simp, .arr0 c, fun i v hv => by simp at hv⟩
      | succ q ih =>
        intro hq
        obtain ⟨vs, cs, g1, g2, g3, g4, g5⟩ := ih (by omega)
        have hi : len0 - (q + 1) < m := by omega
        obtain ⟨cs', k1, k2⟩ := hall (len0 - (q + 1)) hi
        obtain ⟨_, hl', hget⟩ := World.cells?_some k1
        obtain ⟨u, u1, u2, u3⟩ := hel n cs' _ k2 hl'
        refine ⟨u :: vs, cs' ++ cs, ?_, by simp [g2], by rw [List.length_append, hl', g3, Nat.succ_mul]; omega, .arr1 c u vs cs' cs (u2.mono (fun b o hb => ?_) (fun _ _ _ => rfl)) hl' u3 g4, At.app ?_ ?_⟩
        · intro x hx
          rcases List.mem_cons.1 hx with rfl | hx
          · exact u1
          · exact g1 x hx
        · rw [hps]
          exact ⟨List.mem_append_right _ (List.mem_flatMap.2 ⟨_, List.mem_range.2 hi, hb.1⟩), hb.2⟩
        · intro j y hy
          have hj : j < c := by rw [← hl']; exact (List.getElem?_eq_some_iff.1 hy).1
          have h3 := hget j hj
          rw [Go.Deep.add_add] at h3
          have e1 : a.add ((len0 - (q + 1)) * c + j) = ⟨a.block, a.off + (len0 - (q + 1)) * c + j, none⟩ := by
            unfold Addr.add
            split
            · rename_i h0
              obtain ⟨b, o, s⟩ := a
              simp only at hspot ⊢
              rw [hspot]; congr 1; omega
            · rw [Nat.add_assoc]
          rw [e1] at h3
          refine ⟨by rw [h3]; exact hy, ?_, by rw [h3, hy]; rfl⟩
          rw [hps]
          refine List.mem_append_left _ (MemPlace.mem_row.2 ⟨(len0 - (q + 1)) * c + j, ?_, by rw [Nat.add_assoc]⟩)
          have := Nat.mul_le_mul_right c (show len0 - (q + 1) + 1 ≤ m by omega)
          rw [Nat.succ_mul] at this
          omega
        · rw [hl']
          have e2 : a.off + (len0 - (q + 1)) * c + c = a.off + (len0 - q) * c := by
            have e3 : len0 - q = (len0 - (q + 1)) + 1 := by omega
            rw [e3, Nat.succ_mul]; omega
          rw [e2]
          exact g5
    obtain ⟨vs, cs, g1, g2, g3, g4, g5⟩ := key len0 (Nat.le_refl _)
    rw [Nat.sub_self, Nat.zero_mul, Nat.add_zero] at g5
    have ea : a = ⟨a.block, a.off, none⟩ := by obtain ⟨b, o, s⟩ := a; simp only at hspot; rw [hspot]
    refine ⟨vs, g1, .inr ⟨_, .sl c vs cs a.block a.off cap0 g4 g5 (by omega), ?_⟩⟩
    show Value.slice (some a) len0 cap0 = Value.slice (some ⟨a.block, a.off, none⟩) vs.length cap0
    rw [g2, ← ea]
theorem map_of_each {α β : Type} {f : α → β} : ∀ {l : List β}, (∀ u ∈ l, ∃ n, u = f n) → ∃ ks : List α, l = ks.map f
  | [], _ => ⟨[], rfl⟩
  | u :: l, h => by
    obtain ⟨n, rfl⟩ := h u (by simp)
    obtain ⟨ks, e⟩ := map_of_each (l := l) (fun x hx => h x (List.mem_cons_of_mem _ hx))
    exact ⟨n :: ks, by rw [e]; rfl⟩
theorem open_bytes {t e : TypeId} (ht : P.underlying t = some (.slice e)) (he : P.underlying e = some (.int .u8)) (h1 : P.cellsOf e = 1)
    {r : Reach} {b0 : Nat} {v : Value} (hval : Value.okWide P W r b0 t v) {d : DataW H} {ps : List MemPlace} (hd : DataW.Trod enc P W base sp held t v d ps) :
    ∃ bs : List Nat, (∀ n ∈ bs, n < 256) ∧ Rel (StOf W ps) W (.sl 1 (bs.map fun n => .lit (bn n))) v := by
  obtain ⟨vs, g1, g2⟩ := open_sl ht h1 (fun u => ∃ n : {n : Nat // n < 256}, u = .lit (bn n.1)) (fun n cs x hx hl => by
    obtain ⟨a, rfl, _, wa⟩ := DataW.trod_int he hx
    simp [Lit.wf, IntKind.min, IntKind.max, IntKind.signed, IntKind.bits] at wa
    refine ⟨_, ⟨⟨a.toNat, by omega⟩, rfl⟩, ?_, fun y hy => by simp at hy; rw [hy]; rfl⟩
    have : Value.int .u8 a = bn a.toNat := by unfold bn; rw [Int.toNat_of_nonneg (by omega)]
    rw [this]
    exact .lit _ rfl) hval hd
  obtain ⟨ks, rfl⟩ := map_of_each (f := fun n : {n : Nat // n < 256} => AV.lit (bn n.1)) g1
  refine ⟨ks.map (·.1), fun n hn => ?_, by rw [List.map_map]; exact g2⟩
  obtain ⟨a, _, rfl⟩ := List.mem_map.1 hn
  exact a.2
end
theorem t5 : Go.Proofs.Tryd.prog.underlying 5 = some (.int .u8) := by kernel_rfl
theorem c5 : Go.Proofs.Tryd.prog.cellsOf 5 = 1 := by kernel_rfl
end Go.Cab
namespace Go.Cab
def tabName : String := "internal/strconv.uint64pow10"
theorem tab_laid {P : Program} {l : List (String × DataW Unit)} {W : World} (hL : laidMetH P l W) (hl : (l.filter fun x => x.1 == tabName) = [(tabName, Lib.tabData .u64 Lib.pow10Tab)])
    {t e : TypeId} (hg : P.globalNamed tabName = some 1) (hty : (P.globals[1]?).map (·.type) = some t) (ht : P.underlying t = some (.array 20 e)) (he : P.underlying e = some (.int .u64)) (hce : P.cellsOf e = 1) (hct : P.cellsOf t = 20) : Lib.TabIs P W tabName .u64 Lib.pow10Tab := by
  have h := hL.filter (fun x => x.1 == tabName)
  rw [hl] at h
  exact Lib.tabIs_of_head hg hty ht he hce hct h
theorem tabOk_of {P : Program} {W : World} (hg : P.globalNamed tabName = some 1) (h : Lib.TabIs P W tabName .u64 Lib.pow10Tab) : TabOk [] W := by
  intro x hx
  simp only [laidTabs, List.mem_singleton] at hx
  subst hx
  refine ⟨?_, fun r hr => by cases hr⟩
  unfold Lib.TabIs World.var? at h
  rw [hg] at h
  simp only [Option.bind_some] at h
  split at h
  · rename_i cs t fr hc
    cases h
    exact ⟨t, fr, hc⟩
  · cases h
theorem tabOk_laid {l : List (String × DataW Unit)} {W : World} (hL : laidMetH Go.Proofs.Tryd.prog l W) (hl : (l.filter fun x => x.1 == tabName) = [(tabName, Lib.tabData .u64 Lib.pow10Tab)]) : TabOk [] W :=
  tabOk_of (by kernel_rfl) (tab_laid (t := 129) (e := 121) hL hl (by kernel_rfl) (by kernel_rfl) (by kernel_rfl) (by kernel_rfl) (by kernel_rfl) (by kernel_rfl))
end Go.Cab
namespace Go.Cab
open Go.RowKit
def itoaRen : Go.Shelf.Ren := ⟨fun | 171 => 47 | 243 => 63 | 246 => 68 | 283 => 69 | 284 => 70 | 285 => 71 | 286 => 72 | 129 => 74 | 317 => 73 | 318 => 75 | 319 => 76 | 320 => 77 | 337 => 78 | 338 => 79 | n => n, fun | 3 => 3 | 9 => 9 | 2 => 2 | 4 => 4 | 171 => 123 | 0 => 0 | 53 => 121 | 37 => 64 | 5 => 5 | 173 => 126 | 212 => 129 | 51 => 22 | 20 => 20 | 213 => 130 | 46 => 122 | 232 => 25 | 233 => 133 | n => n, fun | 17 => 1 | 18 => 2 | 19 => 3 | n => n⟩
theorem itoaLay : Go.Proofs.LaysM.n171 Go.Proofs.Tryd.prog itoaRen := {
  mixed := by kernel_rfl,
  f129 := Go.Proofs.Tryd.func74.trans (congrArg some (by kernel_rfl)),
  f171 := Go.Proofs.Tryd.func47.trans (congrArg some (by kernel_rfl)),
  f243 := Go.Proofs.Tryd.func63.trans (congrArg some (by kernel_rfl)),
  f246 := Go.Proofs.Tryd.func68.trans (congrArg some (by kernel_rfl)),
  f283 := Go.Proofs.Tryd.func69.trans (congrArg some (by kernel_rfl)),
  f284 := Go.Proofs.Tryd.func70.trans (congrArg some (by kernel_rfl)),
  f285 := Go.Proofs.Tryd.func71.trans (congrArg some (by kernel_rfl)),
  f286 := Go.Proofs.Tryd.func72.trans (congrArg some (by kernel_rfl)),
  f317 := Go.Proofs.Tryd.func73.trans (congrArg some (by kernel_rfl)),
  f318 := Go.Proofs.Tryd.func75.trans (congrArg some (by kernel_rfl)),
  f319 := Go.Proofs.Tryd.func76.trans (congrArg some (by kernel_rfl)),
  f320 := Go.Proofs.Tryd.func77.trans (congrArg some (by kernel_rfl)),
  f337 := Go.Proofs.Tryd.func78.trans (congrArg some (by kernel_rfl)),
  f338 := Go.Proofs.Tryd.func79.trans (congrArg some (by kernel_rfl)),
  t0 := Go.Proofs.Tryd.underlying0,
  a0 := Go.Proofs.Tryd.isAgg0,
  z0 := Go.Proofs.Tryd.sizeOf0,
  v0 := Go.Proofs.Tryd.zeroValue0,
  t2 := Go.Proofs.Tryd.underlying2,
  a2 := Go.Proofs.Tryd.isAgg2,
  z2 := Go.Proofs.Tryd.sizeOf2,
  v2 := Go.Proofs.Tryd.zeroValue2,
  t3 := Go.Proofs.Tryd.underlying3,
  a3 := Go.Proofs.Tryd.isAgg3,
  z3 := Go.Proofs.Tryd.sizeOf3,
  v3 := Go.Proofs.Tryd.zeroValue3,
  t4 := Go.Proofs.Tryd.underlying4,
  a4 := Go.Proofs.Tryd.isAgg4,
  z4 := Go.Proofs.Tryd.sizeOf4,
  v4 := Go.Proofs.Tryd.zeroValue4,
  t5 := Go.Proofs.Tryd.underlying5,
  a5 := Go.Proofs.Tryd.isAgg5,
  z5 := Go.Proofs.Tryd.sizeOf5,
  v5 := Go.Proofs.Tryd.zeroValue5,
  t9 := Go.Proofs.Tryd.underlying9,
  a9 := Go.Proofs.Tryd.isAgg9,
  z9 := Go.Proofs.Tryd.sizeOf9,
  v9 := Go.Proofs.Tryd.zeroValue9,
  t20 := Go.Proofs.Tryd.underlying20,
  a20 := Go.Proofs.Tryd.isAgg20,
  z20 := Go.Proofs.Tryd.sizeOf20,
  v20 := Go.Proofs.Tryd.zeroValue20,
  t37 := Go.Proofs.Tryd.underlying64,
  a37 := Go.Proofs.Tryd.isAgg64,
  z37 := Go.Proofs.Tryd.sizeOf64,
  v37 := Go.Proofs.Tryd.zeroValue64,
  t46 := Go.Proofs.Tryd.underlying122,
  a46 := Go.Proofs.Tryd.isAgg122,
  z46 := Go.Proofs.Tryd.sizeOf122,
  v46 := Go.Proofs.Tryd.zeroValue122,
  t51 := Go.Proofs.Tryd.underlying22,
  a51 := Go.Proofs.Tryd.isAgg22,
  z51 := Go.Proofs.Tryd.sizeOf22,
  v51 := Go.Proofs.Tryd.zeroValue22,
  t53 := Go.Proofs.Tryd.underlying121,
  a53 := Go.Proofs.Tryd.isAgg121,
  z53 := Go.Proofs.Tryd.sizeOf121,
  v53 := Go.Proofs.Tryd.zeroValue121,
  t171 := Go.Proofs.Tryd.underlying123,
  a171 := Go.Proofs.Tryd.isAgg123,
  z171 := Go.Proofs.Tryd.sizeOf123,
  v171 := Go.Proofs.Tryd.zeroValue123,
  t173 := Go.Proofs.Tryd.underlying126,
  a173 := Go.Proofs.Tryd.isAgg126,
  z173 := Go.Proofs.Tryd.sizeOf126,
  v173 := Go.Proofs.Tryd.zeroValue126,
  t212 := Go.Proofs.Tryd.underlying129,
  a212 := Go.Proofs.Tryd.isAgg129,
  z212 := Go.Proofs.Tryd.sizeOf129,
  v212 := Go.Proofs.Tryd.zeroValue129,
  t213 := Go.Proofs.Tryd.underlying130,
  a213 := Go.Proofs.Tryd.isAgg130,
  z213 := Go.Proofs.Tryd.sizeOf130,
  t232 := Go.Proofs.Tryd.underlying25,
  a232 := Go.Proofs.Tryd.isAgg25,
  z232 := Go.Proofs.Tryd.sizeOf25,
  v232 := Go.Proofs.Tryd.zeroValue25,
  t233 := Go.Proofs.Tryd.underlying133,
  a233 := Go.Proofs.Tryd.isAgg133,
  z233 := Go.Proofs.Tryd.sizeOf133,
  v233 := Go.Proofs.Tryd.zeroValue133,
  g17 := by kernel_rfl,
  g18 := by kernel_rfl,
  g19 := by kernel_rfl,
  i0 := by kernel_rfl,
  i2 := by kernel_rfl,
  i3 := by kernel_rfl,
  i4 := by kernel_rfl,
  i5 := by kernel_rfl,
  i9 := by kernel_rfl,
  i20 := by kernel_rfl,
  i37 := by kernel_rfl,
  i46 := by kernel_rfl,
  i51 := by kernel_rfl,
  i53 := by kernel_rfl,
  i171 := by kernel_rfl,
  i173 := by kernel_rfl,
  i212 := by kernel_rfl,
  i232 := by kernel_rfl,
  i233 := by kernel_rfl,
  m17 := by kernel_rfl,
  m18 := by kernel_rfl,
  m19 := by kernel_rfl }
theorem tabIs_of {P : Program} {W : World} (hg : P.globalNamed tabName = some 1) (h : TabOk [] W) : Lib.TabIs P W tabName .u64 Lib.pow10Tab := by
  obtain ⟨⟨t, fr, hc⟩, _⟩ := h _ (List.mem_singleton.2 rfl)
  simp only at hc
  unfold Lib.TabIs World.var?
  rw [hg]
  simp only [Option.bind_some, hc]
  rfl
theorem globTab : Go.Proofs.Tryd.prog.globalNamed tabName = some 1 := by kernel_rfl
def I64' (n : Int) : Prop := -9223372036854775808 ≤ n ∧ n ≤ 9223372036854775807
theorem itoaN_call (n : Int) (h : I64' n) : PCall Go.Proofs.Tryd.prog 47 [.lit (ji n)] (.val (.lit (tx (Lib.itoa n)))) := by
  intro w St Vs hth hargs
  match Vs, hargs with
  | [V], ⟨hV, _⟩ =>
    obtain ⟨rfl, _⟩ := hV.lit
    refine Calls.mono (Go.Proofs.Any.strconv_Itoa itoaLay n h.1 h.2 w (tabIs_of globTab hth.tab)) ?_
    rintro e w' ⟨rfl, k, os, rfl⟩
    have hfr : Fr [] w (Sort.grow (w.drewN k) os) := ⟨rfl, rfl, rfl, by simp [Sort.grow, World.drewN], fun b hb _ => Sort.heap_grow_old (w.drewN k) os hb, fun b o hb _ => Sort.cell?_grow (w.drewN k) os ⟨b, o, none⟩ hb, fun b o hb => Sort.frozen?_grow (w.drewN k) os ⟨b, o, none⟩ hb⟩
    have hlt : ∀ b o, St b o → b < w.heap.size := fun b o hb => by
      have := hth.there b o hb
      rcases Nat.lt_or_ge b w.heap.size with h | h
      · exact h
      · simp [World.cell?, h] at this
    refine ⟨_, St, rfl, hfr, ⟨fun _ _ h => h, fun _ _ h _ => h, fun b o hb => ?_, fun b o hb => hfr.cell b o (hlt b o hb) (by simp [inReg])⟩, Rel.mkLit rfl, by simp⟩
    rw [hfr.cell b o (hlt b o hb) (by simp [inReg])]
    exact hth.there b o hb
end Go.Cab
namespace Go.Cab
open Go.RowKit
open Classical
def fb803 : AC := (.seq (.reg [⟨some 0, none, .alloc 71 (.st [1, 1, 1, 1, 1, 32, 32, 1, 1] [(.lit (jn 0)), (.lit (wn 0)), (.lit (.slice .none 0 0)), (.lit (jn 0)), (.lit (.slice .none 0 0)), (.arr 1 (List.replicate 32 (.lit (bn 0)))), (.arr 1 (List.replicate 32 (.lit (bn 0)))), (.lit (tx [])), (.lit (.slice .none 0 0))]), [], none⟩]) (.seq (.reg [⟨some 1, none, .build (.arr 1 (List.replicate 32 (.lit (bn 0)))) [(0, (.const (bn 1)))], [], none⟩, ⟨some 2, none, .bslice 32 (.arr 1 (List.replicate 32 (.lit (bn 0)))) 1 [(0, (.tmp 1))], [], none⟩, ⟨some 3, none, .build (.arr 1 (List.replicate 32 (.lit (bn 0)))) [(0, (.const (bn 2)))], [], none⟩, ⟨some 4, none, .build (.st [1, 34, 1] [(.lit (jn 0)), (.st [32, 1, 1] [(.arr 1 (List.replicate 32 (.lit (bn 0)))), (.lit (wn 0)), (.lit (wn 0))]), (.lit (tx []))]) [(0, (.const (jn 3))), (2, (.const (tx [98])))], [], none⟩, ⟨some 5, none, .bslice 36 (.st [1, 34, 1] [(.lit (jn 0)), (.st [32, 1, 1] [(.arr 1 (List.replicate 32 (.lit (bn 0)))), (.lit (wn 0)), (.lit (wn 0))]), (.lit (tx []))]) 1 [(0, (.tmp 4))], [], none⟩, ⟨some 6, none, .build (.st [1, 1, 1, 1, 1, 32, 32, 1, 1] [(.lit (jn 0)), (.lit (wn 0)), (.lit (.slice .none 0 0)), (.lit (jn 0)), (.lit (.slice .none 0 0)), (.arr 1 (List.replicate 32 (.lit (bn 0)))), (.arr 1 (List.replicate 32 (.lit (bn 0)))), (.lit (tx [])), (.lit (.slice .none 0 0))]) [(0, (.const (jn 1))), (1, (.const (wn 2))), (2, (.tmp 2)), (3, (.const (jn 4))), (6, (.tmp 3)), (8, (.tmp 5))], [], none⟩, ⟨none, none, .store 71 (.tmp 0) (.tmp 6), [], none⟩]) .ret))
def fc803 : FC := ⟨0, 7, [(.cell 0 .true 71)], fb803⟩
theorem fc803_eq : compF Go.Proofs.Tryd.prog 14 = some fc803 := by kernel_rfl
attribute [local irreducible] AReg
def k1U : List UInt8 := 1 :: List.replicate 31 0
def k2U : List UInt8 := 2 :: List.replicate 31 0
def boxU : BoxV := ⟨3, zk, 0, 0, [98]⟩
def upO : OpV := ⟨1, 2, [k1U], 4, [], zk, k2U, [], [boxU]⟩
theorem k1U_len : k1U.length = 32 := by simp [k1U]
theorem k2U_len : k2U.length = 32 := by simp [k2U]
theorem upO_ok : OpOk upO := ⟨by simp [upO], by simp [upO], by simp [upO, k1U_len], by simp [upO], zk_len, k2U_len, by simp [upO], by simp [upO], fun b hb => by
  simp only [upO, List.mem_singleton] at hb
  subst hb
  exact ⟨zk_len, by simp [boxU], by simp [boxU]⟩⟩
theorem upO_bl : ∀ b ∈ upO.boxes, b.body.length < 9223372036854775808 := fun b hb => by
  simp only [upO, List.mem_singleton] at hb
  subst hb
  simp [boxU]
theorem k2U_nz : k2U ≠ zk := fun h => by simp [k2U, zk, List.replicate_succ] at h
theorem upO_right : rightV upO = true := by
  simp [rightV, c1V, c2V, c3V, whoV, boxesV, badBox, memB, risV, cmpN, upO, boxU, k2U_nz]
def upA : AV := .st [1, 1, 1, 1, 1, 32, 32, 1, 1] [.lit (jn 1), .lit (wn 2), .sl 32 [keyA k1U], .lit (jn 4), .lit (.slice none 0 0), keyA zk, keyA k2U, .lit (tx []), .sl 36 [boxA boxU]]
theorem upA_le : RelLe upA (opA upO) := RelLe.st (AVle.st1 (AVle.refl _) (AVle.st1 (AVle.refl _) (AVle.st1 (AVle.refl _) (AVle.st1 (AVle.refl _) (AVle.st1 (AVle.nilS 1) (AVle.st1 (AVle.refl _) (AVle.st1 (AVle.refl _) (AVle.st1 (AVle.refl _) (AVle.st1 (AVle.refl _) AVle.st0)))))))))
set_option maxHeartbeats 8000000 in
theorem update_call : PCall Go.Proofs.Tryd.prog 14 [] (.val (opA upO)) := by
  refine PCall.relLe (r := upA) ?_ upA_le (by simp [opA])
  have h803 := fc803_eq
  refine PCall.of h803 rfl ?_; show AC.wp _ fb803 (AS.init [] 0 7) (fun x s => match x with | .exit _ => False | _ => Fin [(.cell 0 .true 71)] s _); unfold fb803 AS.init
  refine wp_sg (areg_al' (z' := z0A) rfl fun l0 => areg_end (by simp [push_cast]; exact rfl) ?_)
  refine wp_sg ?_
  refine areg_bd (z' := keyA k1U) (fill_ar rfl rfl rfl rfl rfl) ?_
  refine areg_bsl (k := 32) (els := [keyA k1U]) (fill_ar rfl rfl rfl rfl rfl) ?_
  refine areg_bd (z' := keyA k2U) (fill_ar rfl rfl rfl rfl rfl) ?_
  refine areg_bd (z' := boxA boxU) (fill_st rfl rfl rfl rfl rfl (fill_st rfl rfl rfl rfl rfl rfl)) ?_
  refine areg_bsl (k := 36) (els := [boxA boxU]) (fill_ar rfl rfl rfl rfl rfl) ?_
  refine areg_bd (z' := upA) (fill_st rfl rfl rfl rfl rfl (fill_st rfl rfl rfl rfl rfl (fill_st rfl rfl rfl rfl rfl (fill_st rfl rfl rfl rfl rfl (fill_st rfl rfl rfl rfl rfl (fill_st rfl rfl rfl rfl rfl rfl)))))) ?_
  refine areg_end (by simp [push_cast, upA, z0A, zk_len, k1U_len, k2U_len]; exact rfl) (wp_ret' ?_)
  exact fin_cell (by simp [upA, tt, keyA, RVals, RVal, AS.ev, AS.peek, AS.blk, Blk.loc, Blk.cont, Blk.n, AV.nav, AV.isAgg, AV.isTup, AS.coe]) (by simp [upA])
def frU : FrameV := ⟨1, 4, upO, []⟩
theorem frU_ok : FrOk frU := ⟨upO_ok, upO_bl, by simp [frU], by simp [frU]⟩
theorem frU_right : okF frU = true := by
  unfold okF
  simp [frU, memB, upO_right]
theorem frU_len : 100 < (encF frU).length ∧ (encF frU).length < 1000 := by
  have e : encF frU = numB 1 ++ (numB 4 ++ encOp upO) := rfl
  rw [e]
  simp [encOp, upO, encKs, encNs, encBs, encRest, restOf, numB, hiB, boxU, k1U, k2U, zk]
theorem frU_frame : FrameOk frU := ⟨upO_ok, by simp [frU]⟩
theorem tsOk_nil : TsOk [] := ⟨by simp, by simp, by simp, by simp⟩
theorem numQ_ok {o : OpV} (ho : OpOk o) (h : rightV o = true) : ∀ n ∈ numsV o, I64' n := by
  have w := opW_of ho h
  have hs := ho.seq
  intro n hn
  simp only [numsV, List.mem_cons] at hn
  unfold I64'
  rcases hn with rfl | rfl | rfl | hn
  · have := w.kind; omega
  · have := w.author; omega
  · omega
  · have := w.who.2 n hn
    unfold memN at this
    omega
theorem itQ {o : OpV} (ho : OpOk o) (h : rightV o = true) : (∀ n ∈ numsV o, PCall Go.Proofs.Tryd.prog 47 [.lit (ji n)] (.val (.lit (tx (Go.Lib.itoa n))))) ∧ ∀ n ∈ numsV o, (Go.Lib.itoa n).length ≤ 30 :=
  ⟨fun n hn => itoaN_call _ (numQ_ok ho h n hn), fun n hn => Nat.le_trans (Go.Lib.itoa_length_le n (numQ_ok ho h n hn).1 (numQ_ok ho h n hn).2) (by omega)⟩
theorem nameT_ok {it : Int → List UInt8} {o : OpV} (ho : OpOk o) (hil : ∀ n ∈ numsV o, (it n).length ≤ 30) (hw : o.who.length < 1000) (hp : o.parents.length < 1000) (hm : o.kind = 7 → o.text.length = 32) : TermOk (nameT it o) ∧ WfT (nameT it o) := by
  have hl := labelT_len ho hil hw
  refine ⟨⟨by simp [nameT], hl, ?_, fun k hk => ?_⟩, by simp [WfT, nameT]⟩
  · simp only [nameT, List.length_append, List.length_cons, List.length_nil]
    split <;> simp <;> omega
  · simp only [nameT, List.mem_append, List.mem_cons, List.not_mem_nil, or_false] at hk
    rcases hk with hk | (rfl | rfl) | hk
    · exact ho.p32 k hk
    · exact ho.ofk
    · exact ho.check
    · by_cases h7 : o.kind = 7
      · rw [if_pos h7] at hk
        simp only [List.mem_singleton] at hk
        rw [hk]; exact hm h7
      · rw [if_neg h7] at hk
        cases hk
theorem byT_ok {it : Int → List UInt8} {o : OpV} (ho : OpOk o) (hil : ∀ n ∈ numsV o, (it n).length ≤ 30) (hw : o.who.length < 1000) (hp : o.parents.length < 1000) : TermOk (byT it o) ∧ WfT (byT it o) := by
  have hl := labelT_len ho hil hw
  refine ⟨⟨by simp [byT], hl, ?_, fun k hk => ?_⟩, by simp [WfT, byT]⟩
  · simp [byT]; omega
  · simp only [byT, List.mem_append, List.mem_cons, List.not_mem_nil, or_false] at hk
    rcases hk with hk | (rfl | rfl)
    · exact ho.p32 k hk
    · exact ho.ofk
    · exact zk_len
theorem upO_names {it : Int → List UInt8} (hil : ∀ n ∈ numsV upO, (it n).length ≤ 30) : (nameV it [] upO).1 ≠ (byV it (nameV it [] upO).2 upO).1 := by
  unfold nameV byV
  rw [upO_right]
  simp only [if_true]
  intro e
  obtain ⟨a1, a2⟩ := nameT_ok upO_ok hil (by simp [upO]) (by simp [upO]) (by simp [upO])
  obtain ⟨b1, b2⟩ := byT_ok upO_ok hil (by simp [upO]) (by simp [upO])
  have l1 := putT_len [] (nameT it upO)
  simp only [List.length_nil] at l1
  have q1 := tsOk_nil.put a1 a2 (by simp)
  have q2 := q1.put b1 b2 (by omega)
  have n1 := (Nm.put [] (nameT it upO)).mono (put_pre (Go.Cab.putT [] (nameT it upO)) (byT it upO))
  have n2 := Nm.put (Go.Cab.putT [] (nameT it upO)) (byT it upO)
  rw [← e] at n2
  have h := n1.inj n2 q2 a1 b1
  simp [nameT, byT, upO] at h
  exact k2U_nz h
end Go.Cab
namespace Go.Cab
open Go.RowKit
open Classical
def fb802 : AC := (.seq (.reg [⟨some 0, none, .mov (.const (.bool false)), [], none⟩]) (.seq (.reg [⟨some 7, none, .call 14 [], [], none⟩, ⟨some 1, none, .alloc 71 (.st [1, 1, 1, 1, 1, 32, 32, 1, 1] [(.lit (jn 0)), (.lit (wn 0)), (.lit (.slice .none 0 0)), (.lit (jn 0)), (.lit (.slice .none 0 0)), (.arr 1 (List.replicate 32 (.lit (bn 0)))), (.arr 1 (List.replicate 32 (.lit (bn 0)))), (.lit (tx [])), (.lit (.slice .none 0 0))]), [], none⟩, ⟨none, none, .store 71 (.tmp 1) (.tmp 7), [], none⟩]) (.seq (.reg [⟨some 9, none, .load true 71 (.tmp 1), [], none⟩, ⟨some 10, none, .build (.st [1, 1, 71, 1] [(.lit (jn 0)), (.lit (jn 0)), (.st [1, 1, 1, 1, 1, 32, 32, 1, 1] [(.lit (jn 0)), (.lit (wn 0)), (.lit (.slice .none 0 0)), (.lit (jn 0)), (.lit (.slice .none 0 0)), (.arr 1 (List.replicate 32 (.lit (bn 0)))), (.arr 1 (List.replicate 32 (.lit (bn 0)))), (.lit (tx [])), (.lit (.slice .none 0 0))]), (.lit (.slice .none 0 0))]) [(0, (.const (jn 1))), (1, (.const (jn 4))), (2, (.tmp 9))], [], none⟩, ⟨some 11, none, .call 11 [.tmp 10], [], none⟩, ⟨some 8, none, .mov (.tmp 11), [], none⟩, ⟨some 12, none, .ext (.tmp 8) 0, [], none⟩, ⟨some 13, none, .ext (.tmp 8) 1, [], none⟩, ⟨some 2, none, .mov (.tmp 12), [], none⟩, ⟨some 3, none, .mov (.tmp 13), [], none⟩]) (.seq (.reg [⟨some 15, none, .mov (.tmp 2), [], none⟩, ⟨some 16, none, .call 12 [.tmp 15], [], none⟩, ⟨some 14, none, .mov (.tmp 16), [], none⟩, ⟨some 17, none, .ext (.tmp 14) 0, [], none⟩, ⟨some 18, none, .ext (.tmp 14) 1, [], none⟩, ⟨some 4, none, .alloc 74 (.st [1, 1, 71, 1] [(.lit (jn 0)), (.lit (jn 0)), (.st [1, 1, 1, 1, 1, 32, 32, 1, 1] [(.lit (jn 0)), (.lit (wn 0)), (.lit (.slice .none 0 0)), (.lit (jn 0)), (.lit (.slice .none 0 0)), (.arr 1 (List.replicate 32 (.lit (bn 0)))), (.arr 1 (List.replicate 32 (.lit (bn 0)))), (.lit (tx [])), (.lit (.slice .none 0 0))]), (.lit (.slice .none 0 0))]), [], none⟩, ⟨none, none, .store 74 (.tmp 4) (.tmp 17), [], none⟩, ⟨some 5, none, .mov (.tmp 18), [], none⟩]) (.seq (.reg [⟨some 19, none, .xc (.dir 8) [] [] [], [], none⟩, ⟨some 6, none, .alloc 1 (.st [1] [(.lit (.pointer .none))]), [], none⟩, ⟨none, none, .store 1 (.tmp 6) (.tmp 19), [], none⟩]) (.seq (.reg [⟨some 20, none, .load true 71 (.tmp 1), [], (.some 1)⟩, ⟨some 21, none, .callv 7 [.tmp 20], [], (.some 1000000)⟩, ⟨some 22, none, .mov (.tmp 21), [], none⟩, ⟨some 23, some (22, true), .mov (.tmp 3), [], none⟩, ⟨some 24, some (22, true), .bin .eql (.tmp 23) (.const (jn 0)), [], none⟩, ⟨some 25, none, .pick (.tmp 22) (.tmp 24) (.const (.bool false)), [], none⟩, ⟨some 26, none, .mov (.tmp 25), [], none⟩, ⟨some 27, some (26, true), .mov (.tmp 5), [], none⟩, ⟨some 28, some (26, true), .bin .eql (.tmp 27) (.const (jn 0)), [], none⟩, ⟨some 29, none, .pick (.tmp 26) (.tmp 28) (.const (.bool false)), [], none⟩, ⟨some 30, none, .mov (.tmp 29), [], none⟩, ⟨some 31, some (30, true), .faddr 1 1 (.tmp 4), [], none⟩, ⟨some 32, some (30, true), .load false 1 (.tmp 31), [], (.some 4)⟩, ⟨some 33, some (30, true), .bin .eql (.tmp 32) (.const (jn 4)), [], none⟩, ⟨some 34, none, .pick (.tmp 30) (.tmp 33) (.const (.bool false)), [], none⟩, ⟨some 35, none, .mov (.tmp 34), [], none⟩, ⟨some 36, some (35, true), .faddr 2 2 (.tmp 4), [], none⟩, ⟨some 37, some (35, true), .faddr 70 8 (.tmp 36), [], none⟩, ⟨some 38, some (35, true), .load false 1 (.tmp 37), [], (.some 4)⟩, ⟨some 39, some (35, true), .iaddrS 36 (.tmp 38) (.const (jn 0)), [], (.some 1000000)⟩, ⟨some 40, some (35, true), .faddr 35 2 (.tmp 39), [], none⟩, ⟨some 41, some (35, true), .load false 1 (.tmp 40), [], (.some 38)⟩, ⟨some 42, some (35, true), .bin .eql (.tmp 41) (.const (tx [98])), [], none⟩, ⟨some 43, none, .pick (.tmp 35) (.tmp 42) (.const (.bool false)), [], none⟩, ⟨some 44, none, .mov (.tmp 43), [], none⟩, ⟨some 45, some (44, true), .mov (.tmp 2), [], none⟩, ⟨some 46, some (44, true), .len true (.tmp 45), [], (.some 2)⟩, ⟨some 47, some (44, true), .bin .gtr (.tmp 46) (.const (jn 100)), [], none⟩, ⟨some 48, none, .pick (.tmp 44) (.tmp 47) (.const (.bool false)), [], none⟩, ⟨some 49, none, .mov (.tmp 48), [], none⟩, ⟨some 50, some (49, true), .load true 1 (.tmp 6), [], (.some 6)⟩, ⟨some 51, some (49, true), .rdp (.mkifc 34) [.tmp 50], [], none⟩, ⟨some 52, some (49, true), .load true 71 (.tmp 1), [], (.some 1)⟩, ⟨some 53, some (49, true), .xc (.dir 9) [.tmp 51, .tmp 52] [6, 1] [], [], none⟩, ⟨some 54, some (49, true), .load true 1 (.tmp 6), [], (.some 6)⟩, ⟨some 55, some (49, true), .rdp (.mkifc 34) [.tmp 54], [], none⟩, ⟨some 56, some (49, true), .load true 71 (.tmp 1), [], (.some 1)⟩, ⟨some 57, some (49, true), .xc (.dir 15) [.tmp 55, .tmp 56] [] [], [], none⟩, ⟨some 58, some (49, true), .eqv 26 true (.tmp 53) (.tmp 57), [], none⟩, ⟨some 59, none, .pick (.tmp 49) (.tmp 58) (.const (.bool false)), [], none⟩, ⟨some 0, none, .mov (.tmp 59), [], none⟩]) .ret))))))
def fc802 : FC := ⟨0, 60, [(.tmp 0)], fb802⟩
theorem fc802_eq : compF Go.Proofs.Tryd.prog 5 = some fc802 := by kernel_rfl
attribute [local irreducible] AReg
theorem freeS_sz (b : Nat) (l : Nat × Nat) : (freeS b l).sz = 1 := rfl
theorem freeS_agg (b : Nat) (l : Nat × Nat) : (freeS b l).isAgg = true := rfl
theorem freeS_tup (b : Nat) (l : Nat × Nat) : (freeS b l).isTup = false := rfl
theorem mkifc_fr (b : Nat) (l : Nat × Nat) : rdA Go.Proofs.Tryd.prog (fun _ => none) (.mkifc 34) [freeS b l] = some (freeI b l) := by kernel_rfl
theorem tgt_name (x y : AV) : tgtA Go.Proofs.Tryd.prog (.dir 9) [x, y] = some (9, [x, y]) := by kernel_rfl
theorem tgt_by (x y : AV) : tgtA Go.Proofs.Tryd.prog (.dir 15) [x, y] = some (15, [x, y]) := by kernel_rfl
section
variable {H : List (Option Blk)} {t : Tb} {V0 : Value} {ts0 ts : List Term}
theorem fname_k (hh : TbOk H t V0 ts0) (hn : ts.length < 100000) {o : OpV} (ho : OpOk o) (hbl : ∀ b ∈ o.boxes, b.body.length < 9223372036854775808) (hw : o.who.length < 1000) (hp : o.parents.length < 1000) (hr : rightV o = true) (hm : o.kind = 7 → o.text.length = 32) :
    KC Go.Proofs.Tryd.prog 9 [freeI t.b t.l, opA o] H t ts (keyA (nameV Go.Lib.itoa ts o).1) (nameV Go.Lib.itoa ts o).2 :=
  KC.of hh fun H V h => fname_call h hn ho hbl hw hp (itQ ho hr).1 (itQ ho hr).2 fun _ => hm
theorem fby_k (hh : TbOk H t V0 ts0) (hn : ts.length < 100000) {o : OpV} (ho : OpOk o) (hbl : ∀ b ∈ o.boxes, b.body.length < 9223372036854775808) (hw : o.who.length < 1000) (hp : o.parents.length < 1000) (hr : rightV o = true) :
    KC Go.Proofs.Tryd.prog 15 [freeI t.b t.l, opA o] H t ts (keyA (byV Go.Lib.itoa ts o).1) (byV Go.Lib.itoa ts o).2 :=
  KC.of hh fun H V h => by_call h hn ho hbl hw hp (itQ ho hr).1 (itQ ho hr).2
end
theorem nameV_32 (it : Int → List UInt8) (ts : List Term) (o : OpV) : (nameV it ts o).1.length = 32 := by
  unfold nameV
  split
  · exact nameK_len _
  · exact zk_len
theorem byV_32' (it : Int → List UInt8) (ts : List Term) (o : OpV) : (byV it ts o).1.length = 32 := by
  unfold byV
  split
  · exact nameK_len _
  · exact zk_len
def upB : AV := .st [1, 1, 1, 1, 1, 32, 32, 1, 1] [.lit (jn 1), .lit (wn 2), .sl 32 [keyA k1U], .lit (jn 4), .sl 1 [], keyA zk, keyA k2U, .lit (tx []), .sl 36 [.st [1, 34, 1] [.lit (jn 3), .st [32, 1, 1] [keyA zk, .lit (wn 0), .lit (wn 0)], .lit (tx [98])]]]
theorem upB_eq : opA upO = upB := rfl
theorem frB_eq : frameA frU = .st [1, 1, 71, 1] [.lit (jn 1), .lit (jn 4), upB, .sl 32 []] := rfl
theorem frB_le : AVle (.st [1, 1, 71, 1] [.lit (jn 1), .lit (jn 4), upB, .lit (.slice none 0 0)]) (frameA frU) := AVle.st1 (AVle.refl _) (AVle.st1 (AVle.refl _) (AVle.st1 (AVle.refl _) (AVle.st1 (AVle.nilS 32) AVle.st0)))
set_option maxHeartbeats 32000000 in
theorem alF_call : PCall Go.Proofs.Tryd.prog 5 [] (.val (.lit (.bool true))) := by
  have h802 := fc802_eq
  have hc6 : callable Go.Proofs.Tryd.prog 8 = true := by kernel_rfl
  have cU := update_call
  have cW := PCall.args (l := [.st [1, 1, 71, 1] [.lit (jn 1), .lit (jn 4), upB, .lit (.slice none 0 0)]]) (m := [frameA frU]) ⟨RelLe.st frB_le, trivial⟩ (write_call frU_ok)
  rw [frU_right, if_pos rfl] at cW
  obtain ⟨e1, e2⟩ := frU_len
  have hrw := write_read frU_frame frU_right
  have cR := read_call (s := encF frU) (by omega)
  rw [hrw] at cR
  simp only at cR
  generalize encF frU = enc at *
  have cG := right_call upO_ok upO_bl
  rw [upO_right] at cG
  rw [frB_eq] at cR
  rw [upB_eq] at cU cG
  have k1l := k1U_len
  have k2l := k2U_len
  refine PCall.of h802 rfl ?_; show AC.wp _ fb802 (AS.init [] 0 60) (fun x s => match x with | .exit _ => False | _ => Fin [(.tmp 0)] s _); unfold fb802 AS.init
  refine wp_sr (by simp [push_cast]; exact rfl) ?_
  refine wp_sg ?_
  refine areg_ca (by simp [AS.ev, AS.coe, AS.put] <;> exact rfl) cU ?_
  refine areg_al' (z' := z0A) rfl fun l1 => areg_end (by simp [push_cast, z0A, upB, zk_len, k1l, k2l]; exact rfl) ?_
  refine wp_sg ?_
  refine areg_run 1 (by simp [push_cast, zk_len, k2l]; exact rfl) ?_
  refine areg_bd (z' := .st [1, 1, 71, 1] [.lit (jn 1), .lit (jn 4), upB, .lit (.slice none 0 0)]) (fill_st rfl rfl rfl rfl rfl (fill_st rfl rfl rfl rfl rfl (fill_st rfl rfl rfl rfl rfl rfl))) ?_
  refine areg_ca (by simp [AS.ev, AS.coe, AS.put] <;> exact rfl) cW ?_
  refine areg_end (by simp [push_cast]; exact rfl) ?_
  refine wp_sg ?_
  refine areg_run 1 (by simp [push_cast]; exact rfl) ?_
  refine areg_ca (by simp [AS.ev, AS.coe, AS.put] <;> exact rfl) cR ?_
  refine areg_run 3 (by simp [push_cast]; exact rfl) ?_
  refine areg_al' (z' := z0F) rfl fun l4 => areg_end (by simp [push_cast, z0F, z0A, upB, zk_len, k1l, k2l]; exact rfl) ?_
  refine wp_sgL ?_
  refine areg_run 0 (by simp [push_cast]; exact rfl) ?_
  refine areg_xq (us := []) rfl (by simp only [tgtA, tgtB, Option.bind_some, hc6, if_true]) (newfree_call _) ⟨_, _, (0, 0), 0, rfl, rfl⟩ (fun r hp' _ t' ht' => by cases ht') ?_
  rintro r H' ⟨l, rr, rfl, rfl⟩
  refine areg_run 0 (by simp [push_cast]; exact rfl) ?_
  refine areg_al' rfl fun l6 => areg_end (by simp [push_cast, freeS_sz, freeS_agg, freeS_tup]; exact rfl) ?_
  refine wp_kit (n := 60) (Lo := [none, some (.box l1 71 upB), none, none, some (.box l4 74 (.st [1, 1, 71, 1] [.lit (jn 1), .lit (jn 4), upB, .sl 32 []])), none, some (.box l6 1 (freeS 60 l))] ++ List.replicate 53 none) (fun N t => [.lit (.bool false), .ptr (N + 1) l1 0 [], .lit (tx enc), .lit (jn 0), .ptr (N + 4) l4 0 [], .lit (jn 0), .ptr (N + 6) l6 0 []] ++ List.replicate 53 .any) (fun N t => [none, some (.box l1 71 upB), none, none, some (.box l4 74 (.st [1, 1, 71, 1] [.lit (jn 1), .lit (jn 4), upB, .sl 32 []])), none, some (.box l6 1 (freeS t.b t.l))] ++ List.replicate 53 none) rfl ?_ ?_ fun N H t V hh hN => ?_
  · simp [leA, RelLe.refl', RelLe.ptr']
  · simp [leB, tbNew, BlkLe.freeS', BlkLe.refl']
  have G1 : ∀ V' ts', (tbOf H t V' ts').length = N := fun V' ts' => by rw [tbOf_len, hN]
  have g1 : ∀ V' ts' L k, (tbOf H t V' ts' ++ L)[N + k]? = L[k]? := fun V' ts' L k => cat1 _ _ _ _ (G1 _ _)
  have g2 : ∀ V' ts' L k x, (tbOf H t V' ts' ++ L).set (N + k) x = tbOf H t V' ts' ++ L.set k x := fun V' ts' L k x => cat2 _ _ _ _ _ (G1 _ _)
  have kn := fname_k hh (ts := []) (by simp) upO_ok upO_bl (by simp [upO]) (by simp [upO]) upO_right (by simp [upO])
  have kl : (nameV Go.Lib.itoa [] upO).2.length ≤ 1 := by
    unfold nameV
    rw [upO_right]
    exact (putT_len [] _).2
  have kb := fby_k hh (ts := (nameV Go.Lib.itoa [] upO).2) (by omega) upO_ok upO_bl (by simp [upO]) (by simp [upO]) upO_right
  have hne := upO_names (itQ upO_ok upO_right).2
  have n1 := nameV_32 Go.Lib.itoa [] upO
  have n2 := byV_32' Go.Lib.itoa (nameV Go.Lib.itoa [] upO).2 upO
  rw [upB_eq] at kn kb
  generalize (byV Go.Lib.itoa (nameV Go.Lib.itoa [] upO).2 upO).2 = us2 at *
  generalize (byV Go.Lib.itoa (nameV Go.Lib.itoa [] upO).2 upO).1 = nb at *
  generalize (nameV Go.Lib.itoa [] upO).2 = us1 at *
  generalize (nameV Go.Lib.itoa [] upO).1 = na at *
  have e3 := eq_key n1 n2
  rw [decide_eq_false hne] at e3
  refine wp_sg ?_
  refine areg_run 1 (by simp [push_cast, g1, upB, zk_len, k1l, k2l]; exact rfl) ?_
  refine areg_cv (by simp [AS.ev, AS.coe, AS.put] <;> exact rfl) cG ?_ (by intro p hp b V; simp at hp; subst hp; simp [AS.ev, AS.put])
  (repeat (first | (with_reducible apply areg_ng); focus (simp [AS.ev, AS.put, g1, upB, zk_len, k1l, k2l, e1]; done) | (with_reducible apply areg_nt); focus (simp [AS.ev, AS.put, g1, upB, zk_len, k1l, k2l, e1]; done) | (with_reducible apply areg_g); focus (simp [AS.ev, AS.put, g1, upB, zk_len, k1l, k2l, e1]; done) | with_reducible apply areg_mv | (with_reducible apply areg_pkT); focus (simp [AS.ev, AS.put, g1, upB, zk_len, k1l, k2l, e1]; done) | (with_reducible apply areg_pkF); focus (simp [AS.ev, AS.put, g1, upB, zk_len, k1l, k2l, e1]; done) | (with_reducible apply areg_op); focus (simp [push_cast, g1, upB, zk_len, k1l, k2l, e1]; exact rfl)))
  refine areg_run 1 (by simp [push_cast, g1, freeS_sz, freeS_agg, freeS_tup]; exact rfl) ?_
  refine areg_g (by simp [AS.ev, AS.put]) (areg_rdp (us := [freeS t.b t.l]) rfl (mkifc_fr _ _) ?_)
  refine areg_run 1 (by simp [push_cast, g1, upB, zk_len, k1l, k2l]; exact rfl) ?_
  refine areg_g (by simp [AS.ev, AS.put]) (areg_k [freeI t.b t.l, upB] hN rfl (tgt_name _ _) kn (by simp) (by simp [AS.ev, AS.put, AV.place]) fun V2 => ?_)
  refine areg_run 1 (by simp [push_cast, g1, freeS_sz, freeS_agg, freeS_tup]; exact rfl) ?_
  refine areg_g (by simp [AS.ev, AS.put]) (areg_rdp (us := [freeS t.b t.l]) rfl (mkifc_fr _ _) ?_)
  refine areg_run 1 (by simp [push_cast, g1, upB, zk_len, k1l, k2l]; exact rfl) ?_
  refine areg_g (by simp [AS.ev, AS.put]) (areg_k [freeI t.b t.l, upB] hN rfl (tgt_by _ _) kb (by simp) (by simp) fun V3 => ?_)
  refine areg_g (by simp [AS.ev, AS.put]) (areg_eq (by simp [AS.ev, AS.put] <;> exact rfl) (by simp [AS.ev, AS.put] <;> exact rfl) e3 rfl rfl ?_)
  refine areg_end (by simp [push_cast]; exact rfl) (wp_ret' ?_)
  exact fin_tmp (by simp [RVal, AS.ev, AS.coe]) (by simp)
end Go.Cab
namespace Go.Cab
open Go.RowKit
open Classical
def fb640 : AC := (.seq (.reg [⟨some 1, none, .box 71 (.tmp 0), [], none⟩, ⟨some 2, none, .mov (.const (.bool false)), [], none⟩]) (.seq (.seq (.reg [⟨some 4, none, .faddr 2 2 (.tmp 1), [], none⟩, ⟨some 5, none, .load false 1 (.tmp 4), [], none⟩, ⟨some 6, none, .len false (.tmp 5), [], none⟩, ⟨some 7, none, .bin .gtr (.tmp 6) (.const (jn 30)), [], none⟩, ⟨some 8, none, .mov (.tmp 7), [], none⟩, ⟨some 9, some (8, false), .faddr 4 4 (.tmp 1), [], none⟩, ⟨some 10, some (8, false), .load false 1 (.tmp 9), [], none⟩, ⟨some 11, some (8, false), .len false (.tmp 10), [], none⟩, ⟨some 12, some (8, false), .bin .gtr (.tmp 11) (.const (jn 30)), [], none⟩, ⟨some 13, none, .pick (.tmp 8) (.const (.bool true)) (.tmp 12), [], none⟩, ⟨some 14, none, .mov (.tmp 13), [], none⟩, ⟨some 15, some (14, false), .faddr 70 8 (.tmp 1), [], none⟩, ⟨some 16, some (14, false), .load false 1 (.tmp 15), [], none⟩, ⟨some 17, some (14, false), .len false (.tmp 16), [], none⟩, ⟨some 18, some (14, false), .bin .gtr (.tmp 17) (.const (jn 30)), [], none⟩, ⟨some 19, none, .pick (.tmp 14) (.const (.bool true)) (.tmp 18), [], none⟩, ⟨some 20, none, .mov (.tmp 19), [], none⟩, ⟨some 21, some (20, false), .faddr 69 7 (.tmp 1), [], none⟩, ⟨some 22, some (20, false), .load false 1 (.tmp 21), [], none⟩, ⟨some 23, some (20, false), .len true (.tmp 22), [], none⟩, ⟨some 24, some (20, false), .bin .gtr (.tmp 23) (.const (jn 600)), [], none⟩, ⟨some 25, none, .pick (.tmp 20) (.const (.bool true)) (.tmp 24), [], none⟩]) (.cond (.tmp 25) (.seq (.reg [⟨some 2, none, .mov (.const (.bool true)), [], none⟩]) .ret) .skip)) (.seq (.seq (.reg [⟨some 3, none, .mov (.const (jn 0)), [], none⟩]) (.block 0 (.loop (.seq (.seq (.reg [⟨some 26, none, .mov (.tmp 3), [], none⟩, ⟨some 27, none, .faddr 70 8 (.tmp 1), [], none⟩, ⟨some 28, none, .load false 1 (.tmp 27), [], none⟩, ⟨some 29, none, .len false (.tmp 28), [], none⟩, ⟨some 30, none, .bin .lss (.tmp 26) (.tmp 29), [], none⟩]) (.cond (.tmp 30) .skip (.exit 0))) (.seq (.block 1 (.seq (.reg [⟨some 33, none, .faddr 70 8 (.tmp 1), [], none⟩, ⟨some 34, none, .load false 1 (.tmp 33), [], none⟩, ⟨some 35, none, .mov (.tmp 3), [], none⟩, ⟨some 36, none, .iaddrS 36 (.tmp 34) (.tmp 35), [], none⟩, ⟨some 37, none, .faddr 35 2 (.tmp 36), [], none⟩, ⟨some 38, none, .load false 1 (.tmp 37), [], none⟩, ⟨some 39, none, .len true (.tmp 38), [], none⟩, ⟨some 40, none, .bin .gtr (.tmp 39) (.const (jn 600)), [], none⟩]) (.cond (.tmp 40) (.seq (.reg [⟨some 2, none, .mov (.const (.bool true)), [], none⟩]) .ret) .skip))) (.reg [⟨some 31, none, .mov (.tmp 3), [], none⟩, ⟨some 32, none, .bin .add (.tmp 31) (.const (jn 1)), [], none⟩, ⟨some 3, none, .mov (.tmp 32), [], none⟩])))))) (.seq (.reg [⟨some 2, none, .mov (.const (.bool false)), [], none⟩]) .ret))))
def fc640 : FC := ⟨1, 41, [(.tmp 2)], fb640⟩
theorem fc640_eq : compF Go.Proofs.Tryd.prog 6 = some fc640 := by kernel_rfl
def longB (b : BoxV) : Bool := decide (600 < b.body.length)
def greatO (o : OpV) : Bool := decide (30 < o.parents.length) || (decide (30 < o.who.length) || (decide (30 < o.boxes.length) || (decide (600 < o.text.length) || o.boxes.any longB)))
set_option maxHeartbeats 16000000 in
theorem great_call {o : OpV} (h32 : o.ofk.length = 32 ∧ o.check.length = 32) (ht : o.text.length < 9223372036854775808) (hb : ∀ b ∈ o.boxes, b.body.length < 9223372036854775808) : PCall Go.Proofs.Tryd.prog 6 [opA o] (.val (.lit (.bool (greatO o)))) := by
  have h640 := fc640_eq
  obtain ⟨o5, o6⟩ := h32
  have hopA : opA o = .st [1, 1, 1, 1, 1, 32, 32, 1, 1] [.lit (ji o.author), .lit (wn o.seq), .sl 32 (klA o.parents), .lit (ji o.kind), .sl 1 (o.who.map fun x => AV.lit (ji x)), keyA o.ofk, keyA o.check, .lit (tx o.text), .sl 36 (o.boxes.map fun x => boxA x)] := rfl
  have hpl := klA_len o.parents
  have hwl : (o.who.map fun x => AV.lit (ji x)).length = o.who.length := List.length_map _
  have hbl : (o.boxes.map fun x => boxA x).length = o.boxes.length := List.length_map _
  have hget : ∀ i b, o.boxes[i]? = some b → (o.boxes.map fun x => boxA x)[i]? = some (boxA b) := fun i b h => by rw [List.getElem?_map, h]; rfl
  rw [hopA]
  unfold greatO
  generalize (o.boxes.map fun x => boxA x) = T at *
  generalize (o.who.map fun x => AV.lit (ji x)) = T2 at *
  generalize klA o.parents = T3 at *
  refine PCall.of h640 rfl ?_; show AC.wp _ fb640 (AS.init [.st [1, 1, 1, 1, 1, 32, 32, 1, 1] [.lit (ji o.author), .lit (wn o.seq), .sl 32 T3, .lit (ji o.kind), .sl 1 T2, keyA o.ofk, keyA o.check, .lit (tx o.text), .sl 36 T]] 1 41) (fun x s => match x with | .exit _ => False | _ => Fin [(.tmp 2)] s _); unfold fb640 AS.init
  refine wp_sg (areg_bx rfl (by simp [AS.ev, AV.sz]) fun l1 => areg_end (by simp [push_cast]; exact rfl) ?_)
  refine wp_seq' ?_
  by_cases h1 : 30 < o.parents.length
  · refine wp_sr (by simp [push_cast, hpl, h1, o5, o6]; exact rfl) ?_
    refine wp_cond_t (by simp [AS.ev]) (wp_sr (by simp [push_cast]; exact rfl) (wp_ret' ?_))
    exact fin_tmp (by simp [RVal, AS.ev, AS.coe, h1]) (by simp)
  by_cases h2 : 30 < o.who.length
  · refine wp_sr (by simp [push_cast, hpl, hwl, h1, h2, o5, o6]; exact rfl) ?_
    refine wp_cond_t (by simp [AS.ev]) (wp_sr (by simp [push_cast]; exact rfl) (wp_ret' ?_))
    exact fin_tmp (by simp [RVal, AS.ev, AS.coe, h1, h2]) (by simp)
  by_cases h3 : 30 < o.boxes.length
  · refine wp_sr (by simp [push_cast, hpl, hwl, hbl, h1, h2, h3, o5, o6]; exact rfl) ?_
    refine wp_cond_t (by simp [AS.ev]) (wp_sr (by simp [push_cast]; exact rfl) (wp_ret' ?_))
    exact fin_tmp (by simp [RVal, AS.ev, AS.coe, h1, h2, h3]) (by simp)
  by_cases h4 : 600 < o.text.length
  · refine wp_sr (by simp [push_cast, hpl, hwl, hbl, h1, h2, h3, h4, o5, o6]; exact rfl) ?_
    refine wp_cond_t (by simp [AS.ev]) (wp_sr (by simp [push_cast]; exact rfl) (wp_ret' ?_))
    exact fin_tmp (by simp [RVal, AS.ev, AS.coe, h1, h2, h3, h4]) (by simp)
  refine wp_sr (by simp [push_cast, hpl, hwl, hbl, h1, h2, h3, h4, o5, o6]; exact rfl) ?_
  refine wp_cond_f (by simp [AS.ev]) (wp_skip' ?_)
  have hfin : (decide (30 < o.parents.length) || (decide (30 < o.who.length) || (decide (30 < o.boxes.length) || (decide (600 < o.text.length) || o.boxes.any longB)))) = o.boxes.any longB := by simp [h1, h2, h3, h4]
  rw [hfin]
  refine wp_seq' (wp_seq' (wp_r (by simp [push_cast]; exact rfl) ?_))
  refine wp_block' (wp_loop_m (fun i => ⟨0, [.any, .ptr 1 l1 0 [], .lit (.bool false), .lit (jn i)] ++ List.replicate 37 .any, [none, some (.box l1 71 (.st [1, 1, 1, 1, 1, 32, 32, 1, 1] [.lit (ji o.author), .lit (wn o.seq), .sl 32 T3, .lit (ji o.kind), .sl 1 T2, keyA o.ofk, keyA o.check, .lit (tx o.text), .sl 36 T]))] ++ List.replicate 39 none⟩) (fun i => o.boxes.length - i) (fun i => (o.boxes.drop i).any longB = o.boxes.any longB ∧ i ≤ o.boxes.length) 0 ?_ ⟨rfl, by simp⟩ ?_)
  · exact Le.mk rfl (by simp [leT]) (by simp [leH, keyA])
  rintro i ⟨hI, hi⟩
  simp only at hI hi ⊢
  by_cases hlt : i < o.boxes.length
  · obtain ⟨b, hbi⟩ : ∃ b, o.boxes[i]? = some b := ⟨_, List.getElem?_eq_getElem hlt⟩
    have hdrop : o.boxes.drop i = b :: o.boxes.drop (i + 1) := by
      rw [List.drop_eq_getElem_cons hlt]
      rw [List.getElem?_eq_getElem hlt] at hbi
      rw [Option.some.inj hbi]
    rw [hdrop, List.any_cons] at hI
    have j1 := hget i b hbi
    have j2 : ∀ h, T[i]'h = boxA b := fun h => by rw [List.getElem?_eq_getElem h] at j1; exact Option.some.inj j1
    have hbb := hb b (List.mem_of_getElem? hbi)
    have q1 : i + 1 < 9223372036854775808 := by omega
    unfold boxA at j1 j2
    refine wp_seq' (wp_sr (by simp [push_cast, hbl, hlt, o5, o6]; exact rfl) ?_)
    refine wp_cond_t (by simp [AS.ev]) (wp_skip' ?_)
    by_cases hlb : 600 < b.body.length
    · refine wp_seq' (wp_block' (wp_sr (by simp [push_cast, hbl, hlt, j1, j2, o5, o6, hlb]; exact rfl) ?_))
      refine wp_cond_t (by simp [AS.ev]) (wp_sr (by simp [push_cast]; exact rfl) (wp_ret' ?_))
      exact fin_tmp (by simp [RVal, AS.ev, AS.coe, ← hI, longB, hlb]) (by simp)
    · refine wp_seq' (wp_block' (wp_sr (by simp [push_cast, hbl, hlt, j1, j2, o5, o6, hlb]; exact rfl) ?_))
      refine wp_cond_f (by simp [AS.ev]) (wp_skip' ?_)
      refine wp_r (by simp [push_cast, q1]; exact rfl) ?_
      refine Exists.intro (i + 1) ⟨⟨by rw [← hI]; simp [longB, hlb], by omega⟩, by omega, Le.mk rfl (by simp [leT]) (by simp [leH, keyA])⟩
  · have hin : i = o.boxes.length := by omega
    subst hin
    rw [List.drop_length] at hI
    refine wp_seq' (wp_sr (by simp [push_cast, hbl, o5, o6]; exact rfl) ?_)
    refine wp_cond_f (by simp [AS.ev]) (wp_exit' (if_hit rfl ?_))
    refine wp_sr (by simp [push_cast]; exact rfl) (wp_ret' ?_)
    exact fin_tmp (by simp [RVal, AS.ev, AS.coe, ← hI]) (by simp)
end Go.Cab
namespace Go.Cab
open Go.ChangeShapes Go.WideShapes Go.RowKit Go.ChangeAt
section
variable {H : Type} {enc : TypeId × Value → H} {P : Program} {W : World} {base : Nat} {sp : Nat → Bool} {held : Bool}
theorem open_texts {t e : TypeId} (ht : P.underlying t = some (.slice e)) (he : P.underlying e = some .string) (h1 : P.cellsOf e = 1)
    {r : Reach} {b0 : Nat} {v : Value} (hval : Value.okWide P W r b0 t v) {d : DataW H} {ps : List MemPlace} (hd : DataW.Trod enc P W base sp held t v d ps) :
    ∃ bs : List (List UInt8), bs.length < 9223372036854775808 ∧ (∀ s ∈ bs, s.length < 9223372036854775808) ∧ Rel (StOf W ps) W (.sl 1 (bs.map fun s => .lit (tx s))) v := by
  obtain ⟨vs, g1, g2⟩ := open_sl ht h1 (fun u => ∃ n : {n : List UInt8 // n.length < 9223372036854775808}, u = .lit (tx n.1)) (fun n cs x hx hl => by
    obtain ⟨s, hc, hy, hs⟩ := DataW.trod_string he hx
    subst hc
    refine ⟨_, ⟨⟨s.data.toList, ?_⟩, rfl⟩, .lit _ rfl, fun y hy => by simp at hy; rw [hy]; rfl⟩
    have e : s.data.toList.length = s.size := by rw [Array.length_toList]; rfl
    rw [e]
    unfold maxLen at hs
    omega) hval hd
  obtain ⟨ks, rfl⟩ := map_of_each (f := fun n : {n : List UInt8 // n.length < 9223372036854775808} => AV.lit (tx n.1)) g1
  refine ⟨ks.map (·.1), ?_, fun n hn => ?_, by rw [List.map_map]; exact g2⟩
  · rcases R.slLen g2 with ⟨_, _, h⟩ | ⟨b, off, cap, cs, hv, hl, _⟩
    · rw [List.length_map, List.map_eq_nil_iff.1 h]; simp
    · subst hv
      simp only [Value.okWide, Cell.okWide, Cell.ok, ht] at hval
      obtain ⟨h2, h3, _⟩ := hval
      rw [List.length_map] at h2 ⊢
      simp [IntKind.max, IntKind.signed, IntKind.bits] at h3
      omega
  · obtain ⟨a, _, rfl⟩ := List.mem_map.1 hn
    exact a.2
end
end Go.Cab
/- Part 11 of what the proof stands on: Z6, Z12, Z20, Z7, Z8, SE. -/
import Derived.Test.YtiikindmkllbiaaDoorCab10
import Derived.Test.YtiikindmkllbiaaDoorCab07
import Derived.Test.YtiikindmkllbiaaDoorCab09
import Derived.Shelf.RegionOpenPlain
import Derived.WalkKit
import Derived.Deep.LoopGhost
import Derived.Deep.RegionLaw
import Derived.Deep.MidRow
import Derived.Lib.Walk
import Derived.Sort.WalkB12
import Derived.Lib.SliceRun
import Derived.Lib.SlicesDelete
set_option linter.unusedSimpArgs false
set_option linter.unnecessarySimpa false
set_option linter.unusedVariables false
set_option linter.unusedSectionVars false
namespace Go.Cab
open Go.RowKit
open Classical
def fb910 : AC := (.seq (.reg [⟨some 6, none, .box 165 (.tmp 1), [], none⟩, ⟨some 8, none, .box 32 (.tmp 3), [], none⟩, ⟨some 10, none, .alloc 165 (.st [32, 32, 32, 32, 32, 1, 1, 1, 1, 1] [(.arr 1 (List.replicate 32 (.lit (bn 0)))), (.arr 1 (List.replicate 32 (.lit (bn 0)))), (.arr 1 (List.replicate 32 (.lit (bn 0)))), (.arr 1 (List.replicate 32 (.lit (bn 0)))), (.arr 1 (List.replicate 32 (.lit (bn 0)))), (.lit (wn 0)), (.lit (wn 0)), (.lit (wn 0)), (.lit (.bool false)), (.lit (.slice .none 0 0))]), [], none⟩, ⟨some 11, none, .alloc 34 (.st [32, 1, 1] [(.arr 1 (List.replicate 32 (.lit (bn 0)))), (.lit (wn 0)), (.lit (wn 0))]), [], none⟩, ⟨some 12, none, .mov (.const (tx [])), [], none⟩, ⟨some 13, none, .mov (.const (jn 0)), [], none⟩]) (.seq (.reg [⟨some 21, none, .mov (.tmp 0), [], none⟩, ⟨some 22, none, .load true 165 (.tmp 6), [], none⟩, ⟨some 23, none, .xc (.dir 19) [.tmp 21, .tmp 22] [] [], [], none⟩, ⟨some 14, none, .mov (.tmp 23), [], none⟩]) (.seq (.seq (.reg [⟨some 24, none, .mov (.tmp 14), [], none⟩, ⟨some 25, none, .nilc (.tmp 24), [], none⟩, ⟨some 26, none, .faddr 1 1 (.tmp 25), [], none⟩, ⟨some 27, none, .faddr 163 8 (.tmp 26), [], none⟩, ⟨some 28, none, .load false 1 (.tmp 27), [], none⟩]) (.cond (.tmp 28) (.seq (.reg [⟨some 29, none, .mov (.tmp 14), [], none⟩, ⟨some 30, none, .nilc (.tmp 29), [], none⟩, ⟨some 31, none, .faddr 0 0 (.tmp 30), [], none⟩, ⟨some 32, none, .load false 1 (.tmp 31), [], none⟩, ⟨some 33, none, .mov (.tmp 2), [], none⟩, ⟨some 34, none, .xc (.inv "Draw") [.tmp 32, .tmp 33] [] [], [], none⟩, ⟨some 15, none, .alloc 32 (.arr 1 (List.replicate 32 (.lit (bn 0)))), [], none⟩, ⟨none, none, .store 32 (.tmp 15) (.tmp 34), [], none⟩]) (.seq (.reg [⟨some 36, none, .mov (.tmp 14), [], none⟩, ⟨some 37, none, .nilc (.tmp 36), [], none⟩, ⟨some 38, none, .faddr 0 0 (.tmp 37), [], none⟩, ⟨some 39, none, .load false 1 (.tmp 38), [16], (.some 14)⟩, ⟨some 40, none, .load true 32 (.tmp 15), [16], .none⟩, ⟨some 41, none, .mov (.tmp 14), [], none⟩, ⟨some 42, none, .nilc (.tmp 41), [], none⟩, ⟨some 43, none, .faddr 1 1 (.tmp 42), [], none⟩, ⟨some 44, none, .faddr 32 1 (.tmp 43), [], none⟩, ⟨some 45, none, .load true 32 (.tmp 44), [16], .none⟩, ⟨some 46, none, .rdp .nilv [.tmp 39], [], none⟩, ⟨some 47, none, .mov (.tmp 39), [], none⟩, ⟨some 48, none, .xc (.inv "Agree") [.tmp 47, .tmp 40, .tmp 45] [] [16], [], none⟩, ⟨some 35, none, .mov (.tmp 48), [], none⟩, ⟨some 49, none, .ext (.tmp 35) 0, [], none⟩, ⟨some 50, none, .ext (.tmp 35) 1, [], none⟩, ⟨some 16, none, .alloc 32 (.arr 1 (List.replicate 32 (.lit (bn 0)))), [], none⟩, ⟨none, none, .store 32 (.tmp 16) (.tmp 49), [], none⟩, ⟨some 17, none, .mov (.tmp 50), [], none⟩]) (.seq (.seq (.reg [⟨some 51, none, .mov (.tmp 17), [], none⟩, ⟨some 52, none, .un .not (.tmp 51), [], none⟩]) (.cond (.tmp 52) (.seq (.reg [⟨some 53, none, .load true 165 (.tmp 6), [], none⟩, ⟨some 54, none, .build (.st [32, 1, 1] [(.arr 1 (List.replicate 32 (.lit (bn 0)))), (.lit (wn 0)), (.lit (wn 0))]) [], [], none⟩, ⟨none, none, .store 165 (.tmp 10) (.tmp 53), [], none⟩, ⟨none, none, .store 34 (.tmp 11) (.tmp 54), [], none⟩, ⟨some 12, none, .mov (.const (tx [])), [], none⟩, ⟨some 13, none, .mov (.const (jn 12)), [], none⟩]) .ret) .skip)) (.seq (.reg [⟨some 55, none, .mov (.tmp 14), [], none⟩, ⟨some 56, none, .mov (.tmp 14), [], none⟩, ⟨some 57, none, .load true 32 (.tmp 15), [], (.some 15)⟩, ⟨some 58, none, .mov (.tmp 14), [], none⟩, ⟨some 59, none, .load true 32 (.tmp 16), [14], .none⟩, ⟨some 60, none, .xc (.dir 20) [.tmp 58, .tmp 59] [15] [], [], none⟩, ⟨some 61, none, .nilc (.tmp 55), [], none⟩, ⟨some 62, none, .faddr 1 1 (.tmp 61), [], none⟩, ⟨some 63, none, .faddr 0 0 (.tmp 62), [], none⟩, ⟨none, none, .store 32 (.tmp 63) (.tmp 57), [], (.some 14)⟩, ⟨some 64, none, .nilc (.tmp 56), [], none⟩, ⟨some 65, none, .faddr 1 1 (.tmp 64), [], none⟩, ⟨some 66, none, .faddr 96 3 (.tmp 65), [], none⟩, ⟨none, none, .store 32 (.tmp 66) (.tmp 60), [], none⟩]) (.reg [⟨some 67, none, .mov (.tmp 14), [], none⟩, ⟨some 68, none, .mov (.tmp 14), [], none⟩, ⟨some 69, none, .mov (.tmp 14), [], none⟩, ⟨some 70, none, .mov (.tmp 14), [], none⟩, ⟨some 71, none, .nilc (.tmp 70), [], none⟩, ⟨some 72, none, .faddr 1 1 (.tmp 71), [], none⟩, ⟨some 73, none, .faddr 160 5 (.tmp 72), [], none⟩, ⟨some 74, none, .load false 1 (.tmp 73), [], none⟩, ⟨some 75, none, .nilc (.tmp 67), [], none⟩, ⟨some 76, none, .faddr 1 1 (.tmp 75), [], none⟩, ⟨some 77, none, .faddr 162 7 (.tmp 76), [], none⟩, ⟨none, none, .store 1 (.tmp 77) (.tmp 74), [], none⟩, ⟨some 78, none, .nilc (.tmp 68), [], none⟩, ⟨some 79, none, .faddr 1 1 (.tmp 78), [], none⟩, ⟨some 80, none, .faddr 160 5 (.tmp 79), [], none⟩, ⟨none, none, .store 1 (.tmp 80) (.const (wn 0)), [], none⟩, ⟨some 81, none, .nilc (.tmp 69), [], none⟩, ⟨some 82, none, .faddr 1 1 (.tmp 81), [], none⟩, ⟨some 83, none, .faddr 163 8 (.tmp 82), [], none⟩, ⟨none, none, .store 1 (.tmp 83) (.const (.bool false)), [], none⟩]))))) .skip)) (.seq (.seq (.reg [⟨some 84, none, .mov (.tmp 14), [], none⟩, ⟨some 85, none, .nilc (.tmp 84), [], none⟩, ⟨some 86, none, .faddr 1 1 (.tmp 85), [], none⟩, ⟨some 87, none, .faddr 160 5 (.tmp 86), [], none⟩, ⟨some 88, none, .load false 1 (.tmp 87), [], none⟩, ⟨some 89, none, .bin .eql (.tmp 88) (.const (wn 4294967295)), [], none⟩]) (.cond (.tmp 89) (.seq (.reg [⟨some 90, none, .load true 165 (.tmp 6), [], none⟩, ⟨some 91, none, .build (.st [32, 1, 1] [(.arr 1 (List.replicate 32 (.lit (bn 0)))), (.lit (wn 0)), (.lit (wn 0))]) [], [], none⟩, ⟨none, none, .store 165 (.tmp 10) (.tmp 90), [], none⟩, ⟨none, none, .store 34 (.tmp 11) (.tmp 91), [], none⟩, ⟨some 12, none, .mov (.const (tx [])), [], none⟩, ⟨some 13, none, .mov (.const (jn 5)), [], none⟩]) .ret) .skip)) (.seq (.reg [⟨some 93, none, .mov (.tmp 14), [], none⟩, ⟨some 94, none, .rdp (.mkifc 68) [.tmp 93], [], none⟩, ⟨some 95, none, .mov (.tmp 14), [], none⟩, ⟨some 96, none, .nilc (.tmp 95), [], none⟩, ⟨some 97, none, .faddr 1 1 (.tmp 96), [], none⟩, ⟨some 98, none, .faddr 96 3 (.tmp 97), [], none⟩, ⟨some 99, none, .load true 32 (.tmp 98), [], none⟩, ⟨some 100, none, .bslice 32 (.arr 1 (List.replicate 32 (.lit (bn 0)))) 1 [(0, (.tmp 99))], [], none⟩, ⟨some 101, none, .xc (.dir 21) [(.tmp 94), (.const (tx [115, 116, 101, 112])), (.tmp 100)] [] [], [], none⟩, ⟨some 92, none, .mov (.tmp 101), [], none⟩, ⟨some 102, none, .ext (.tmp 92) 0, [], none⟩, ⟨some 103, none, .ext (.tmp 92) 1, [], none⟩, ⟨some 18, none, .alloc 32 (.arr 1 (List.replicate 32 (.lit (bn 0)))), [], none⟩, ⟨some 19, none, .alloc 32 (.arr 1 (List.replicate 32 (.lit (bn 0)))), [], none⟩, ⟨none, none, .store 32 (.tmp 18) (.tmp 102), [], none⟩, ⟨none, none, .store 32 (.tmp 19) (.tmp 103), [], none⟩]) (.seq (.reg [⟨some 104, none, .mov (.tmp 14), [], none⟩, ⟨some 105, none, .nilc (.tmp 104), [], none⟩, ⟨some 106, none, .faddr 0 0 (.tmp 105), [], none⟩, ⟨some 107, none, .load false 1 (.tmp 106), [20], (.some 14)⟩, ⟨some 108, none, .mov (.tmp 14), [], none⟩, ⟨some 109, none, .nilc (.tmp 108), [], none⟩, ⟨some 110, none, .faddr 1 1 (.tmp 109), [], none⟩, ⟨some 111, none, .faddr 0 0 (.tmp 110), [], none⟩, ⟨some 112, none, .load true 32 (.tmp 111), [20], .none⟩, ⟨some 113, none, .rdp .nilv [.tmp 107], [], none⟩, ⟨some 114, none, .mov (.tmp 107), [], none⟩, ⟨some 115, none, .xc (.inv "Pub") [.tmp 114, .tmp 112] [14, 14] [20], [], none⟩, ⟨some 116, none, .mov (.tmp 14), [], none⟩, ⟨some 117, none, .nilc (.tmp 116), [], none⟩, ⟨some 118, none, .faddr 1 1 (.tmp 117), [], none⟩, ⟨some 119, none, .faddr 160 5 (.tmp 118), [], none⟩, ⟨some 120, none, .load false 1 (.tmp 119), [20], (.some 14)⟩, ⟨some 121, none, .mov (.tmp 14), [], none⟩, ⟨some 122, none, .nilc (.tmp 121), [], none⟩, ⟨some 123, none, .faddr 1 1 (.tmp 122), [], none⟩, ⟨some 124, none, .faddr 162 7 (.tmp 123), [], none⟩, ⟨some 125, none, .load false 1 (.tmp 124), [20], (.some 14)⟩, ⟨some 126, none, .build (.st [32, 1, 1] [(.arr 1 (List.replicate 32 (.lit (bn 0)))), (.lit (wn 0)), (.lit (wn 0))]) [(0, (.tmp 115)), (1, (.tmp 120)), (2, (.tmp 125))], [], none⟩, ⟨some 20, none, .alloc 34 (.st [32, 1, 1] [(.arr 1 (List.replicate 32 (.lit (bn 0)))), (.lit (wn 0)), (.lit (wn 0))]), [], none⟩, ⟨none, none, .store 34 (.tmp 20) (.tmp 126), [], none⟩]) (.seq (.reg [⟨some 127, none, .mov (.tmp 14), [], none⟩, ⟨some 128, none, .load true 32 (.tmp 19), [], none⟩, ⟨some 129, none, .nilc (.tmp 127), [], none⟩, ⟨some 130, none, .faddr 1 1 (.tmp 129), [], none⟩, ⟨some 131, none, .faddr 96 3 (.tmp 130), [], none⟩, ⟨none, none, .store 32 (.tmp 131) (.tmp 128), [], none⟩]) (.seq (.reg [⟨some 132, none, .mov (.tmp 14), [], none⟩, ⟨some 133, none, .nilc (.tmp 132), [], none⟩, ⟨some 134, none, .faddr 1 1 (.tmp 133), [], none⟩, ⟨some 135, none, .faddr 160 5 (.tmp 134), [], none⟩, ⟨some 136, none, .load false 1 (.tmp 135), [], none⟩, ⟨some 137, none, .bin .add (.tmp 136) (.const (wn 1)), [], none⟩, ⟨some 138, none, .nilc (.tmp 132), [], none⟩, ⟨some 139, none, .faddr 1 1 (.tmp 138), [], none⟩, ⟨some 140, none, .faddr 160 5 (.tmp 139), [], none⟩, ⟨none, none, .store 1 (.tmp 140) (.tmp 137), [], none⟩]) (.seq (.reg [⟨some 141, none, .mov (.tmp 14), [], none⟩, ⟨some 142, none, .nilc (.tmp 141), [], none⟩, ⟨some 143, none, .faddr 1 1 (.tmp 142), [], none⟩, ⟨some 144, none, .load true 165 (.tmp 143), [], (.some 14)⟩, ⟨some 145, none, .load true 34 (.tmp 20), [10], (.some 20)⟩, ⟨some 146, none, .mov (.tmp 14), [], none⟩, ⟨some 147, none, .nilc (.tmp 146), [], none⟩, ⟨some 148, none, .faddr 0 0 (.tmp 147), [], none⟩, ⟨some 149, none, .load false 1 (.tmp 148), [10, 11], (.some 14)⟩, ⟨some 150, none, .load true 32 (.tmp 18), [10, 11], (.some 18)⟩, ⟨some 151, none, .mov (.tmp 14), [], none⟩, ⟨some 152, none, .rdp (.mkifc 68) [.tmp 151], [], none⟩, ⟨some 153, none, .load true 34 (.tmp 20), [10, 11], (.some 20)⟩, ⟨some 154, none, .load true 32 (.tmp 8), [10, 11], (.some 8)⟩, ⟨some 155, none, .xc (.dir 22) [.tmp 152, .tmp 153, .tmp 154] [14, 20, 14, 18] [], [], none⟩, ⟨some 156, none, .mov (.tmp 4), [], none⟩, ⟨some 157, none, .rdp .nilv [.tmp 149], [], none⟩, ⟨some 158, none, .mov (.tmp 149), [], none⟩, ⟨some 159, none, .xc (.inv "Seal") [(.tmp 158), (.tmp 150), (.tmp 155), (.const (tx [])), (.tmp 156)] [14, 20] [], [], none⟩, ⟨none, none, .store 165 (.tmp 10) (.tmp 144), [], (.some 10)⟩, ⟨none, none, .store 34 (.tmp 11) (.tmp 145), [], (.some 11)⟩, ⟨some 12, none, .mov (.tmp 159), [], none⟩, ⟨some 13, none, .mov (.const (jn 0)), [], none⟩]) .ret)))))))))
def fc910 : FC := ⟨5, 160, [(.cell 10 .true 165), (.cell 11 .true 34), (.tmp 12), (.tmp 13)], fb910⟩
theorem fc910_eq : compF Go.Proofs.Tryd.prog 10 = some fc910 := by kernel_rfl
structure Bg (N : Nat) (t : Tb) (S : Sb) (x : Ses) (Vc : Value) (L : List (Option Blk)) (p q : Nat) : Prop where
  b : S.b = N + p
  c : S.c = N + q
  pq : p ≠ q
  hb : L[p]? = some (some (sbk t S x Vc))
  hc : L[q]? = some (some (swk x Vc))
theorem Bg.st {H : List (Option Blk)} {t : Tb} {V0 V Vc : Value} {ts0 ts : List Term} (hh : TbOk H t V0 ts0) {S : Sb} {x : Ses} {L : List (Option Blk)} {p q : Nat} (h : Bg H.length t S x Vc L p q) : StT (tbOf H t V ts ++ L) t S x Vc V ts := by
  have l := tbOf_len H t V ts
  have lb := hh.lb; have lj := hh.lj; have lm := hh.lm
  have e1 := h.b; have e2 := h.c; have e3 := h.pq
  refine ⟨hh.at V ts L, ⟨by omega, ⟨by omega, by omega, by omega⟩, ⟨by omega, by omega, by omega⟩, ?_, ?_⟩⟩
  · rw [e1, cat1 _ _ _ _ l]; exact h.hb
  · rw [e2, cat1 _ _ _ _ l]; exact h.hc
theorem bg_set {H : List (Option Blk)} {t : Tb} {V0 V V' Vc Vc' : Value} {ts0 ts ts' : List Term} (hh : TbOk H t V0 ts0) {S : Sb} {x x' : Ses} {L : List (Option Blk)} {p q : Nat} (h : Bg H.length t S x Vc L p q) :
    tbOf (stOf (tbOf H t V ts ++ L) t S x' Vc') t V' ts' = tbOf H t V' ts' ++ (L.set p (some (sbk t S x' Vc'))).set q (some (swk x' Vc')) := by
  have l := tbOf_len H t V ts
  unfold stOf stB
  rw [h.b, h.c, cat2 _ _ _ _ _ l, cat2 _ _ _ _ _ l, hh.at_of]
theorem wp_place {P : Program} {b : AC} {Q : AX → AS → Prop} {N n B : Nat} {tm : List AV} {H Lo Lo2 : List (Option Blk)} {t : Tb} {V : Value} {ts : List Term} {l : Nat × Nat} {x : Ses} {Vc : Value} (p q : Nat) (tm' : List AV) (hN : H.length = N) (hLo : Lo.length = n)
    (hd : Lo2 = Lo ++ [some (sbk t (nSb B l) x Vc), some (swk x Vc)]) (hp : p < n) (hq : q < n) (hpq : p ≠ q) (ht : leA tm tm')
    (k : b.wp P ⟨N, tm', tbOf H t V ts ++ (Lo.set p (some (sbk t ⟨N + p, l, N + q⟩ x Vc))).set q (some (swk x Vc))⟩ Q) :
    ∃ s0, Le ⟨N, tm, tbOf H t V ts ++ Lo2⟩ s0 ∧ b.wp P s0 Q := by
  subst hN hd
  have hl := tbOf_len H t V ts
  refine ⟨_, ?_, k⟩
  generalize tbOf H t V ts = A at *
  generalize H.length = N at *
  obtain ⟨a1, a2⟩ := leA_get ht
  have hlt : ∀ (k : Nat) (y : Blk), ((A ++ (Lo.set p (some (sbk t ⟨N + p, l, N + q⟩ x Vc))).set q (some (swk x Vc)))[k]?).join = some y → k < N + n := fun k y hy => by
    by_cases h : k < N + n
    · exact h
    · rw [List.getElem?_eq_none (by simp; omega)] at hy; cases hy
  refine Le.genR a1 a2 (fun k => if k = N + p then N + n else if k = N + q then N + n + 1 else k) (fun k k' y z hy hz e => ?_) (fun k y hy => ?_)
  · have h1 := hlt k y hy
    have h2 := hlt k' z hz
    try simp only at e
    split at e <;> split at e <;> (try split at e) <;> (try split at e) <;> omega
  · have h1 := hlt k y hy
    simp only at hy ⊢
    have e0 : ∀ i, (A ++ (Lo ++ [some (sbk t (nSb B l) x Vc), some (swk x Vc)]))[N + n + i]? = [some (sbk t (nSb B l) x Vc), some (swk x Vc)][i]? := fun i => by
      rw [show N + n + i = N + (n + i) by omega, cat1 N A _ _ hl, List.getElem?_append_right (by omega), hLo, Nat.add_sub_cancel_left]
    by_cases h2 : k = N + p
    · subst h2
      rw [cat1 N A _ _ hl, List.getElem?_set_ne hpq.symm, List.getElem?_set_self (by omega)] at hy
      simp at hy
      subst hy
      rw [if_pos rfl]
      exact ⟨_, by rw [show N + n = N + n + 0 by omega, e0]; rfl, BlkLe.box AVle.side⟩
    · rw [if_neg h2]
      by_cases h3 : k = N + q
      · subst h3
        rw [cat1 N A _ _ hl, List.getElem?_set_self (by simp; omega)] at hy
        simp at hy
        subst hy
        rw [if_pos rfl, e0]
        exact ⟨_, rfl, BlkLe.refl _⟩
      · rw [if_neg h3]
        refine ⟨y, ?_, BlkLe.refl _⟩
        by_cases h4 : k < N
        · rw [List.getElem?_append_left (by omega)] at hy ⊢
          exact hy
        · obtain ⟨i, rfl⟩ : ∃ i, k = N + i := ⟨k - N, by omega⟩
          rw [cat1 N A _ _ hl, List.getElem?_set_ne (by omega), List.getElem?_set_ne (by omega)] at hy
          rw [cat1 N A _ _ hl, List.getElem?_append_left (by omega)]
          exact hy
theorem areg_sb {P : Program} {N : Nat} {tm : List AV} {L H : List (Option Blk)} {t : Tb} {V0 V : Value} {ts0 ts ts' : List Term} {r : AV} {K : AS → Prop} {xs : List AOp} {d : Option Tmp} {g : XT} {ys : List Operand} {keep : List Tmp} {fo : List Tmp} {ow : Option Tmp} {vs : List AV} {f : FuncId} {S : Sb} {x x' : Ses} {Vc : Value} {p q : Nat}
    (us : List AV) (hh : TbOk H t V0 ts0) (hN : H.length = N) (hB : Bg N t S x Vc L p q) (ha : (ys.map fun x => AS.ev ⟨N, tm, tbOf H t V ts ++ L⟩ x) = us) (ht : tgtA P g us = some (f, vs))
    (hc : ∀ G V Vc, StT G t S x Vc V ts → XCall P f vs G fun r' H' => r' = r ∧ ∃ V' Vc', H' = tbOf (stOf G t S x' Vc') t V' ts')
    (hk : ∀ t' ∈ keep, ∀ b, (AS.ev ⟨N, tm, tbOf H t V ts ++ L⟩ (.tmp t')).place = some b → N ≤ b ∧ b ≠ N + p ∧ b ≠ N + q)
    (h : ∀ V' Vc', AReg P xs { AS.put ⟨N, tm, tbOf H t V ts ++ L⟩ d r with hp := tbOf H t V' ts' ++ (L.set p (some (sbk t S x' Vc'))).set q (some (swk x' Vc')) } K) : AReg P (⟨d, none, .xc g ys keep [], fo, ow⟩ :: xs) ⟨N, tm, tbOf H t V ts ++ L⟩ K := by
  subst hN
  refine areg_xq (us := us) (K' := fun r' H' => r' = r ∧ ∃ V' Vc', H' = tbOf H t V' ts' ++ (L.set p (some (sbk t S x' Vc'))).set q (some (swk x' Vc'))) ha ht ?_ ⟨_, _, rfl, .slice none 0 0, .slice none 0 0, rfl⟩ (fun r' hp' hK t' ht' b hb => ?_) ?_
  · refine XCall.mono (hc _ V Vc (hB.st hh)) ?_
    rintro r' H' ⟨e, V', Vc', h2⟩
    exact ⟨e, V', Vc', by rw [h2, bg_set hh hB]⟩
  · obtain ⟨_, V', Vc', rfl⟩ := hK
    obtain ⟨k1, k2, k3⟩ := hk t' ht' b hb
    obtain ⟨i, rfl⟩ : ∃ i, b = H.length + i := ⟨b - H.length, by omega⟩
    rw [cat1 _ _ _ _ (tbOf_len _ _ _ _), cat1 _ _ _ _ (tbOf_len _ _ _ _), List.getElem?_set_ne (by omega), List.getElem?_set_ne (by omega)]
  · rintro r' hp' ⟨rfl, V', Vc', rfl⟩
    exact h V' Vc'
theorem areg_sb0 {P : Program} {N : Nat} {tm : List AV} {L H : List (Option Blk)} {t : Tb} {V0 V : Value} {ts0 ts ts' : List Term} {r : AV} {K : AS → Prop} {xs : List AOp} {d : Option Tmp} {g : XT} {ys : List Operand} {keep : List Tmp} {fo : List Tmp} {ow : Option Tmp} {vs : List AV} {f : FuncId} {S : Sb} {x : Ses} {Vc : Value} {p q : Nat}
    (us : List AV) (hh : TbOk H t V0 ts0) (hN : H.length = N) (hB : Bg N t S x Vc L p q) (ha : (ys.map fun x => AS.ev ⟨N, tm, tbOf H t V ts ++ L⟩ x) = us) (ht : tgtA P g us = some (f, vs))
    (hc : ∀ G V Vc, StT G t S x Vc V ts → XCall P f vs G fun r' H' => r' = r ∧ ∃ V', H' = tbOf G t V' ts')
    (hk : ∀ t' ∈ keep, ∀ b, (AS.ev ⟨N, tm, tbOf H t V ts ++ L⟩ (.tmp t')).place = some b → N ≤ b)
    (h : ∀ V', AReg P xs { AS.put ⟨N, tm, tbOf H t V ts ++ L⟩ d r with hp := tbOf H t V' ts' ++ L } K) : AReg P (⟨d, none, .xc g ys keep [], fo, ow⟩ :: xs) ⟨N, tm, tbOf H t V ts ++ L⟩ K := by
  subst hN
  refine areg_xq (us := us) (K' := fun r' H' => r' = r ∧ ∃ V', H' = tbOf H t V' ts' ++ L) ha ht ?_ ⟨_, _, rfl, .slice none 0 0, rfl⟩ (fun r' hp' hK t' ht' b hb => ?_) ?_
  · refine XCall.mono (hc _ V Vc (hB.st hh)) ?_
    rintro r' H' ⟨e, V', h2⟩
    exact ⟨e, V', by rw [h2, hh.at_of]⟩
  · obtain ⟨_, V', rfl⟩ := hK
    have k1 := hk t' ht' b hb
    obtain ⟨i, rfl⟩ : ∃ i, b = H.length + i := ⟨b - H.length, by omega⟩
    rw [cat1 _ _ _ _ (tbOf_len _ _ _ _), cat1 _ _ _ _ (tbOf_len _ _ _ _)]
  · rintro r' hp' ⟨rfl, V', rfl⟩
    exact h V'
section
variable {H : List (Option Blk)} {t : Tb} {V0 : Value} {ts0 ts : List Term}
theorem pub_k (hh : TbOk H t V0 ts0) (hn : ts.length < 100000) {k : List UInt8} (hk : k.length = 32) : KC Go.Proofs.Tryd.prog 75 [.ptr t.b t.l 0 [], keyA k] H t ts (keyA (nameK (putN ts (pubT k)))) (putT ts (pubT k)) :=
  KC.of hh fun H V h => pub_call h hn hk
theorem sealZ_k (hh : TbOk H t V0 ts0) (hn : ts.length < 100000) {k b s : List UInt8} {ks : List (List UInt8)} (hk : k.length = 32) (hb : b.length = 32) (hs : s.length < 100000) (hks : ks.length < 90000) (h32 : ∀ x ∈ ks, x.length = 32) :
    KC Go.Proofs.Tryd.prog 76 [.ptr t.b t.l 0 [], keyA k, keyA b, .lit (tx s), .sl 32 (klA ks)] H t ts (.lit (tx (nameK (putN ts (sealK k b s ks))))) (putT ts (sealK k b s ks)) :=
  KC.of hh fun H V h => sealK_call h hn hk hb hs hks h32
theorem agreeZ_k (hh : TbOk H t V0 ts0) (hts : TsOk ts) {a p : List UInt8} (ha : a.length = 32) (hp : p.length = 32) {y : Term} (hy : agreeX ts a p = some y) :
    KC Go.Proofs.Tryd.prog 72 [.ptr t.b t.l 0 [], keyA a, keyA p] H t ts (.tup [keyA (nameK (putN ts y)), .lit (.bool true)]) (putT ts y) :=
  KC.of hh fun H V h => XCall.mono (agree_call h hts ha hp) fun r H' hr => by rw [hy] at hr; exact hr
end
theorem tgt_beginZ (a b : AV) : tgtA Go.Proofs.Tryd.prog (.dir 19) [a, b] = some (19, [a, b]) := by kernel_rfl
theorem tgt_bindZ (a b c : AV) : tgtA Go.Proofs.Tryd.prog (.dir 22) [a, b, c] = some (22, [a, b, c]) := by kernel_rfl
theorem tgt_turnZ (a b : AV) : tgtA Go.Proofs.Tryd.prog (.dir 20) [a, b] = some (20, [a, b]) := by kernel_rfl
theorem tgt_drawI (b : Nat) (l : Nat × Nat) (x : AV) : tgtA Go.Proofs.Tryd.prog (.inv "Draw") [freeI b l, x] = some (8, [.ptr b l 0 [], x]) := by kernel_rfl
theorem tgt_pubI (b : Nat) (l : Nat × Nat) (x : AV) : tgtA Go.Proofs.Tryd.prog (.inv "Pub") [freeI b l, x] = some (75, [.ptr b l 0 [], x]) := by kernel_rfl
theorem tgt_agreeI (b : Nat) (l : Nat × Nat) (x y : AV) : tgtA Go.Proofs.Tryd.prog (.inv "Agree") [freeI b l, x, y] = some (72, [.ptr b l 0 [], x, y]) := by kernel_rfl
theorem tgt_sealI (b : Nat) (l : Nat × Nat) (x y z u : AV) : tgtA Go.Proofs.Tryd.prog (.inv "Seal") [freeI b l, x, y, z, u] = some (76, [.ptr b l 0 [], x, y, z, u]) := by kernel_rfl
def zsA : AV := .st [32, 32, 32, 32, 32, 1, 1, 1, 1, 1] [keyA zk, keyA zk, keyA zk, keyA zk, keyA zk, .lit (wn 0), .lit (wn 0), .lit (wn 0), .lit (.bool false), .lit (.slice none 0 0)]
def zhA : AV := .st [32, 1, 1] [keyA zk, .lit (wn 0), .lit (wn 0)]
def turnX (x : Ses) (mine root send : List UInt8) : Ses := { x with mine := mine, root := root, send := send, pn := x.ns, ns := 0, turn := false }
def sendS (ts : List Term) (x : Ses) (by_ : List UInt8) (ks : List (List UInt8)) : (Ses × HeadV × List UInt8) × List Term :=
  let tv := twoV ts txStep [x.send]
  let pub := nameK (putN tv.2 (pubT x.mine))
  let ts2 := putT tv.2 (pubT x.mine)
  let h : HeadV := ⟨pub, x.ns, x.pn⟩
  let b := nameK (putN ts2 (bindT h by_))
  let ts3 := putT ts2 (bindT h by_)
  (({ x with send := tv.1.2, ns := x.ns + 1 }, h, nameK (putN ts3 (sealK tv.1.1 b [] ks))), putT ts3 (sealK tv.1.1 b [] ks))
theorem bin_eqlw (a b : Nat) : binVal .eql (wn a) (wn b) = some (.bool (decide (a = b))) := by simp [binVal, wn, Int.ofNat_inj, BEq.beq]
def TurnOk (ts : List Term) (x : Ses) (draw : List UInt8) (x1 : Ses) (ts1 : List Term) : Prop :=
  x.turn = false ∧ x1 = x ∧ ts1 = ts ∨ x.turn = true ∧ TsOk (putT ts (drawT draw)) ∧ ∃ y, agreeX (putT ts (drawT draw)) (nameK (putN ts (drawT draw))) x.theirs = some y ∧
    x1 = turnX x (nameK (putN ts (drawT draw))) (twoV (putT (putT ts (drawT draw)) y) txTurn [x.root, nameK (putN (putT ts (drawT draw)) y)]).1.1 (twoV (putT (putT ts (drawT draw)) y) txTurn [x.root, nameK (putN (putT ts (drawT draw)) y)]).1.2 ∧
    ts1 = (twoV (putT (putT ts (drawT draw)) y) txTurn [x.root, nameK (putN (putT ts (drawT draw)) y)]).2
end Go.Cab
namespace Go.Cab
open Go.RowKit
open Classical
def fb914 : AC := (.seq (.reg [⟨some 8, none, .box 32 (.tmp 2), [], none⟩, ⟨some 9, none, .box 32 (.tmp 3), [], none⟩, ⟨some 10, none, .box 32 (.tmp 4), [], none⟩, ⟨some 11, none, .box 32 (.tmp 5), [], none⟩, ⟨some 12, none, .alloc 165 (.st [32, 32, 32, 32, 32, 1, 1, 1, 1, 1] [(.arr 1 (List.replicate 32 (.lit (bn 0)))), (.arr 1 (List.replicate 32 (.lit (bn 0)))), (.arr 1 (List.replicate 32 (.lit (bn 0)))), (.arr 1 (List.replicate 32 (.lit (bn 0)))), (.arr 1 (List.replicate 32 (.lit (bn 0)))), (.lit (wn 0)), (.lit (wn 0)), (.lit (wn 0)), (.lit (.bool false)), (.lit (.slice .none 0 0))]), [], none⟩, ⟨some 13, none, .mov (.const (.bool false)), [], none⟩]) (.seq (.reg [⟨some 14, none, .ef (.aown 95 32 (List.replicate 4 (.arr 1 (List.replicate 32 (.lit (bn 0)))))) [], [], none⟩]) (.seq (.seq (.reg [⟨some 20, none, .load true 32 (.tmp 8), [], none⟩, ⟨some 21, none, .load true 32 (.tmp 10), [], none⟩, ⟨some 22, none, .build (.arr 32 [(.arr 1 (List.replicate 32 (.lit (bn 0)))), (.arr 1 (List.replicate 32 (.lit (bn 0))))]) [(0, (.tmp 20)), (1, (.tmp 21))], [], none⟩, ⟨some 23, none, .load true 32 (.tmp 8), [], none⟩, ⟨some 24, none, .load true 32 (.tmp 11), [], none⟩, ⟨some 25, none, .build (.arr 32 [(.arr 1 (List.replicate 32 (.lit (bn 0)))), (.arr 1 (List.replicate 32 (.lit (bn 0))))]) [(0, (.tmp 23)), (1, (.tmp 24))], [], none⟩, ⟨some 26, none, .load true 32 (.tmp 9), [], none⟩, ⟨some 27, none, .load true 32 (.tmp 10), [], none⟩, ⟨some 28, none, .build (.arr 32 [(.arr 1 (List.replicate 32 (.lit (bn 0)))), (.arr 1 (List.replicate 32 (.lit (bn 0))))]) [(0, (.tmp 26)), (1, (.tmp 27))], [], none⟩, ⟨some 29, none, .load true 32 (.tmp 9), [], none⟩, ⟨some 30, none, .load true 32 (.tmp 11), [], none⟩, ⟨some 31, none, .build (.arr 32 [(.arr 1 (List.replicate 32 (.lit (bn 0)))), (.arr 1 (List.replicate 32 (.lit (bn 0))))]) [(0, (.tmp 29)), (1, (.tmp 30))], [], none⟩, ⟨some 32, none, .build (.arr 64 (List.replicate 4 (.arr 32 [(.arr 1 (List.replicate 32 (.lit (bn 0)))), (.arr 1 (List.replicate 32 (.lit (bn 0))))]))) [(0, (.tmp 22)), (1, (.tmp 25)), (2, (.tmp 28)), (3, (.tmp 31))], [], none⟩, ⟨some 33, none, .mov (.const (jn 0)), [], none⟩]) (.block 0 (.loop (.seq (.reg [⟨some 34, none, .bin .lss (.tmp 33) (.const (jn 4)), [], none⟩]) (.seq (.cond (.tmp 34) .skip (.exit 0)) (.seq (.block 1 (.seq (.reg [⟨some 35, none, .mov (.tmp 33), [], none⟩, ⟨some 36, none, .rdp (.aix 64 4 true) [.tmp 32, .tmp 33], [], none⟩, ⟨some 16, none, .alloc 64 (.arr 32 [(.arr 1 (List.replicate 32 (.lit (bn 0)))), (.arr 1 (List.replicate 32 (.lit (bn 0))))]), [], none⟩, ⟨some 15, none, .mov (.tmp 35), [], none⟩, ⟨none, none, .store 64 (.tmp 16) (.tmp 36), [], none⟩]) (.seq (.reg [⟨some 17, none, .mov (.const (.bool false)), [], none⟩]) (.seq (.reg [⟨some 38, none, .mov (.tmp 15), [], none⟩, ⟨some 39, none, .mov (.tmp 0), [], none⟩, ⟨some 40, none, .iaddrA 2 32 (.tmp 16) (.const (jn 0)), [], none⟩, ⟨some 41, none, .load true 32 (.tmp 40), [], none⟩, ⟨some 42, none, .iaddrA 2 32 (.tmp 16) (.const (jn 1)), [], none⟩, ⟨some 43, none, .load true 32 (.tmp 42), [], none⟩, ⟨some 44, none, .xc (.inv "Agree") [.tmp 39, .tmp 41, .tmp 43] [] [], [], none⟩, ⟨some 37, none, .mov (.tmp 44), [], none⟩, ⟨some 45, none, .ext (.tmp 37) 0, [], none⟩, ⟨some 46, none, .ext (.tmp 37) 1, [], none⟩, ⟨some 47, none, .iaddrA 4 32 (.tmp 14) (.tmp 38), [], none⟩, ⟨none, none, .store 32 (.tmp 47) (.tmp 45), [], none⟩, ⟨some 17, none, .mov (.tmp 46), [], none⟩]) (.seq (.reg [⟨some 48, none, .mov (.tmp 17), [], none⟩, ⟨some 49, none, .un .not (.tmp 48), [], none⟩]) (.cond (.tmp 49) (.seq (.reg [⟨some 50, none, .build (.st [32, 32, 32, 32, 32, 1, 1, 1, 1, 1] [(.arr 1 (List.replicate 32 (.lit (bn 0)))), (.arr 1 (List.replicate 32 (.lit (bn 0)))), (.arr 1 (List.replicate 32 (.lit (bn 0)))), (.arr 1 (List.replicate 32 (.lit (bn 0)))), (.arr 1 (List.replicate 32 (.lit (bn 0)))), (.lit (wn 0)), (.lit (wn 0)), (.lit (wn 0)), (.lit (.bool false)), (.lit (.slice .none 0 0))]) [], [], none⟩, ⟨none, none, .store 165 (.tmp 12) (.tmp 50), [], none⟩, ⟨some 13, none, .mov (.const (.bool false)), [], none⟩]) .ret) .skip)))))) (.reg [⟨some 51, none, .bin .add (.tmp 33) (.const (jn 1)), [], none⟩, ⟨some 33, none, .mov (.tmp 51), [], none⟩]))))))) (.seq (.seq (.reg [⟨some 52, none, .mov (.tmp 1), [], none⟩, ⟨some 53, none, .un .not (.tmp 52), [], none⟩]) (.cond (.tmp 53) (.reg [⟨some 54, none, .iaddrA 4 32 (.tmp 14) (.const (jn 2)), [], none⟩, ⟨some 55, none, .load true 32 (.tmp 54), [], none⟩, ⟨some 56, none, .iaddrA 4 32 (.tmp 14) (.const (jn 1)), [], none⟩, ⟨some 57, none, .load true 32 (.tmp 56), [], none⟩, ⟨some 58, none, .iaddrA 4 32 (.tmp 14) (.const (jn 1)), [], none⟩, ⟨none, none, .store 32 (.tmp 58) (.tmp 55), [], none⟩, ⟨some 59, none, .iaddrA 4 32 (.tmp 14) (.const (jn 2)), [], none⟩, ⟨none, none, .store 32 (.tmp 59) (.tmp 57), [], none⟩]) .skip)) (.seq (.reg [⟨some 60, none, .mov (.tmp 0), [], none⟩, ⟨some 61, none, .rdp (.vslice 32 4 false false) [.tmp 14], [], none⟩, ⟨some 62, none, .rdp (.mkfn (.method "Hash") 1) [.tmp 60], [], none⟩, ⟨some 63, none, .rdp .nilv [.tmp 62], [], none⟩, ⟨some 64, none, .mov (.tmp 60), [], none⟩, ⟨some 65, none, .xc (.inv "Hash") [(.tmp 64), (.const (tx [98, 97, 115, 101])), (.tmp 61)] [] [18], [], none⟩, ⟨some 18, none, .alloc 32 (.arr 1 (List.replicate 32 (.lit (bn 0)))), [], none⟩, ⟨none, none, .store 32 (.tmp 18) (.tmp 65), [], none⟩]) (.seq (.reg [⟨some 66, none, .load true 32 (.tmp 9), [19], (.some 9)⟩, ⟨some 67, none, .load true 32 (.tmp 11), [19], (.some 11)⟩, ⟨some 68, none, .mov (.tmp 0), [], none⟩, ⟨some 69, none, .load true 32 (.tmp 18), [19], (.some 18)⟩, ⟨some 70, none, .bslice 32 (.arr 1 (List.replicate 32 (.lit (bn 0)))) 1 [(0, (.tmp 69))], [], none⟩, ⟨some 71, none, .xc (.inv "Hash") [(.tmp 68), (.const (tx [114, 111, 111, 116])), (.tmp 70)] [9, 11] [19], [], none⟩, ⟨some 72, none, .mov (.tmp 1), [], none⟩, ⟨some 73, none, .build (.st [32, 32, 32, 32, 32, 1, 1, 1, 1, 1] [(.arr 1 (List.replicate 32 (.lit (bn 0)))), (.arr 1 (List.replicate 32 (.lit (bn 0)))), (.arr 1 (List.replicate 32 (.lit (bn 0)))), (.arr 1 (List.replicate 32 (.lit (bn 0)))), (.arr 1 (List.replicate 32 (.lit (bn 0)))), (.lit (wn 0)), (.lit (wn 0)), (.lit (wn 0)), (.lit (.bool false)), (.lit (.slice .none 0 0))]) [(0, (.tmp 66)), (1, (.tmp 67)), (2, (.tmp 71)), (8, (.tmp 72))], [], none⟩, ⟨some 19, none, .alloc 165 (.st [32, 32, 32, 32, 32, 1, 1, 1, 1, 1] [(.arr 1 (List.replicate 32 (.lit (bn 0)))), (.arr 1 (List.replicate 32 (.lit (bn 0)))), (.arr 1 (List.replicate 32 (.lit (bn 0)))), (.arr 1 (List.replicate 32 (.lit (bn 0)))), (.arr 1 (List.replicate 32 (.lit (bn 0)))), (.lit (wn 0)), (.lit (wn 0)), (.lit (wn 0)), (.lit (.bool false)), (.lit (.slice .none 0 0))]), [], none⟩, ⟨none, none, .store 165 (.tmp 19) (.tmp 73), [], none⟩]) (.seq (.reg [⟨some 74, none, .mov (.tmp 0), [], none⟩, ⟨some 75, none, .load true 32 (.tmp 18), [], (.some 18)⟩, ⟨some 76, none, .bslice 32 (.arr 1 (List.replicate 32 (.lit (bn 0)))) 1 [(0, (.tmp 75))], [], none⟩, ⟨some 77, none, .xc (.inv "Hash") [(.tmp 74), (.const (tx [117, 112])), (.tmp 76)] [18] [], [], none⟩, ⟨some 78, none, .mov (.tmp 0), [], none⟩, ⟨some 79, none, .load true 32 (.tmp 18), [19], (.some 18)⟩, ⟨some 80, none, .bslice 32 (.arr 1 (List.replicate 32 (.lit (bn 0)))) 1 [(0, (.tmp 79))], [], none⟩, ⟨some 81, none, .xc (.inv "Hash") [(.tmp 78), (.const (tx [100, 111, 119, 110])), (.tmp 80)] [] [], [], none⟩, ⟨some 82, none, .faddr 96 3 (.tmp 19), [], none⟩, ⟨none, none, .store 32 (.tmp 82) (.tmp 77), [], (.some 19)⟩, ⟨some 83, none, .faddr 128 4 (.tmp 19), [], none⟩, ⟨none, none, .store 32 (.tmp 83) (.tmp 81), [], none⟩]) (.seq (.seq (.reg [⟨some 84, none, .mov (.tmp 1), [], none⟩, ⟨some 85, none, .un .not (.tmp 84), [], none⟩]) (.cond (.tmp 85) (.reg [⟨some 86, none, .faddr 128 4 (.tmp 19), [], none⟩, ⟨some 87, none, .load true 32 (.tmp 86), [], none⟩, ⟨some 88, none, .faddr 96 3 (.tmp 19), [], none⟩, ⟨some 89, none, .load true 32 (.tmp 88), [], none⟩, ⟨some 90, none, .faddr 96 3 (.tmp 19), [], none⟩, ⟨none, none, .store 32 (.tmp 90) (.tmp 87), [], none⟩, ⟨some 91, none, .faddr 128 4 (.tmp 19), [], none⟩, ⟨none, none, .store 32 (.tmp 91) (.tmp 89), [], none⟩]) .skip)) (.seq (.reg [⟨some 92, none, .load true 165 (.tmp 19), [], none⟩, ⟨none, none, .store 165 (.tmp 12) (.tmp 92), [], none⟩, ⟨some 13, none, .mov (.const (.bool true)), [], none⟩]) .ret)))))))))
def fc914 : FC := ⟨6, 93, [(.cell 12 .true 165), (.tmp 13)], fb914⟩
theorem fc914_eq : compF Go.Proofs.Tryd.prog 17 = some fc914 := by kernel_rfl
attribute [local irreducible] AReg
theorem nilv_hash (b : Nat) (l : Nat × Nat) : rdA Go.Proofs.Tryd.prog (fun _ => none) .nilv [.fnv (.method "Hash") [freeI b l] []] = some (.fnv (.method "Hash") [freeI b l] []) := by kernel_rfl
theorem locA (g n : Nat) : locOf (allV g n) = (g, 0) := rfl
theorem areg_aown {P : Program} {s : AS} {K : AS → Prop} {xs : List AOp} {d : Tmp} {fo : List Tmp} {ow : Option Tmp} {t : TypeId} {esz : Nat} {els : List AV}
    (h : ∀ g, AReg P xs ⟨s.nr, s.tm.set d (.ptr (s.nr + d) (g, 0) 0 []), s.hp.set (s.nr + d) (some (.row t (allV g els.length) esz els 0))⟩ K) : AReg P (⟨some d, none, .ef (.aown t esz els) [], fo, ow⟩ :: xs) s K := by
  unfold AReg AOp.go
  simp only [AI.go]
  exact ⟨by cases ow <;> trivial, fun V => ⟨_, _, rfl, h _⟩⟩
theorem setE_ne {c : Nat} : ∀ (E : List (Tmp × Blk)) (L : List (Option Blk)), (∀ e ∈ E, e.1 ≠ c) → (setE 0 L E)[c]? = L[c]?
  | [], _, _ => rfl
  | (t, x) :: E, L, h => by
    show (setE 0 (L.set (0 + t) (some x)) E)[c]? = _
    rw [setE_ne E _ fun e he => h e (by simp [he]), List.getElem?_set_ne]
    have := h (t, x) (by simp)
    simpa using this
theorem setE_set {c : Nat} {y : Option Blk} : ∀ (E : List (Tmp × Blk)) (L : List (Option Blk)), (∀ e ∈ E, e.1 ≠ c) → (setE 0 L E).set c y = setE 0 (L.set c y) E
  | [], _, _ => rfl
  | (t, x) :: E, L, h => by
    show (setE 0 (L.set (0 + t) (some x)) E).set c y = setE 0 ((L.set c y).set (0 + t) (some x)) E
    rw [setE_set E _ fun e he => h e (by simp [he]), List.set_comm]
    have := h (t, x) (by simp)
    simpa using this
theorem areg_kv {P : Program} {N c g n : Nat} {tm : List AV} {L H : List (Option Blk)} {t : Tb} {V : Value} {ts ts' : List Term} {r : AV} {K : AS → Prop} {xs : List AOp} {d : Option Tmp} {gg : XT} {ys : List Operand} {fresh : List Tmp} {fo : List Tmp} {ow : Option Tmp} {f : FuncId} {u v : AV} {e esz sl : Nat} {els : List AV}
    (us : List AV) (hN : H.length = N) (ha : (ys.map fun x => AS.ev ⟨N, tm, tbOf H t V ts ++ L⟩ x) = us) (ht : tgtA P gg us = some (f, [u, v, .view (N + c) (g, 0) 0 [] esz 0 n n])) (hc : KC P f [u, v, .sl esz els] H t ts r ts') (hL : L[c]? = some (some (.row e (allV g n) esz els sl))) (hlt : ∀ t' ∈ fresh, t' < L.length ∧ t' ≠ c)
    (h : ∀ V', AReg P xs { AS.put ⟨N, tm, tbOf H t V ts ++ L⟩ d r with hp := tbOf H t V' ts' ++ L.set c none } K) : AReg P (⟨d, none, .xc gg ys [] fresh, fo, ow⟩ :: xs) ⟨N, tm, tbOf H t V ts ++ L⟩ K := by
  subst hN
  refine areg_xf (us := us) (K' := fun r' H' => r' = r ∧ ∃ V', H' = tbOf H t V' ts' ++ L.set c none) ha ht (fun E hE => ?_) ⟨_, _, rfl, .slice none 0 0, rfl⟩ (fun t' ht' => by simp [tbOf_len]; exact (hlt t' ht').1) (fun r' hp' hK => ⟨fun t' ht' => (by cases ht'), ?_⟩) ?_
  · have hne : ∀ x ∈ E, x.1 ≠ c := fun x hx => (hlt _ (hE x hx)).2
    rw [setE_cat _ _ (tbOf_len _ _ _ _)]
    refine XCall.args (m := [u, v, .own (H.length + c) (allV g n)]) ⟨RelLe.refl _, RelLe.refl _, fun Imm w V h => ?_, trivial⟩ ?_
    · rcases h with h | ⟨cs, h, e⟩
      · cases h
      · cases h; exact .inr ⟨_, .own _ (allV g n) rfl, e⟩
    · refine XCall.mono (KC.seal (i := 2) (c := c) (e := e) (esz := esz) (els := els) (sl := sl) (V := allV g n) (vs := [u, v, .own (H.length + c) (allV g n)]) hc rfl (by rw [setE_ne E L hne]; exact hL)) ?_
      rintro r' H' ⟨h1, V', h2⟩
      refine ⟨_, ⟨h1, V', rfl⟩, ?_⟩
      rw [h2, setE_set E L hne, setE_cat _ _ (tbOf_len _ _ _ _)]
  · obtain ⟨_, V', rfl⟩ := hK
    simp [tbOf_len]
  · rintro r' hp' ⟨rfl, V', rfl⟩
    exact h V'
def txBase : List UInt8 := [98, 97, 115, 101]
def txRoot : List UInt8 := [114, 111, 111, 116]
def txUp : List UInt8 := [117, 112]
def txDown : List UInt8 := [100, 111, 119, 110]
def startV (ts : List Term) (up : Bool) (pre tp : List UInt8) (gs : List (List UInt8)) : Ses × List Term :=
  let b := nameK (putN ts ⟨2, txBase, gs⟩)
  let t1 := putT ts ⟨2, txBase, gs⟩
  let r := nameK (putN t1 ⟨2, txRoot, [b]⟩)
  let t2 := putT t1 ⟨2, txRoot, [b]⟩
  let u := nameK (putN t2 ⟨2, txUp, [b]⟩)
  let t3 := putT t2 ⟨2, txUp, [b]⟩
  let d := nameK (putN t3 ⟨2, txDown, [b]⟩)
  (⟨pre, tp, r, if up then u else d, if up then d else u, 0, 0, 0, up, []⟩, putT t3 ⟨2, txDown, [b]⟩)
theorem nil_ses {a b c d e f g h i : AV} {l : List AV} : RelLe (.tup (.st [32, 32, 32, 32, 32, 1, 1, 1, 1, 1] [a, b, c, d, e, f, g, h, i, .lit (.slice none 0 0)] :: l)) (.tup (.st [32, 32, 32, 32, 32, 1, 1, 1, 1, 1] [a, b, c, d, e, f, g, h, i, .sl 65 []] :: l)) := by
  refine RelLe.tup fun Imm w cs hr => ?_
  cases hr with
  | tup1 _ _ c d h1 h2 =>
    have hn : AVle (.lit (.slice none 0 0)) (.sl 65 []) := fun Imm w cs h => by cases h; exact .slnil 65
    have hs := (AVle.st1 (n := 32) (AVle.refl a) (AVle.st1 (n := 32) (AVle.refl b) (AVle.st1 (n := 32) (AVle.refl _) (AVle.st1 (n := 32) (AVle.refl _) (AVle.st1 (n := 32) (AVle.refl _) (AVle.st1 (n := 1) (AVle.refl _) (AVle.st1 (n := 1) (AVle.refl _) (AVle.st1 (n := 1) (AVle.refl _) (AVle.st1 (n := 1) (AVle.refl _) (AVle.st1 (n := 1) hn AVle.st0)))))))))) Imm w c h1
    exact .tup1 _ _ c d hs h2
def stT (N : Nat) (t : Tb) (up : Bool) (id pre ti tp : List UInt8) (l8 l9 l10 l11 l12 : Nat × Nat) (g : Nat) : List AV :=
  [freeI t.b t.l, .lit (.bool up), .any, .any, .any, .any, .any, .any, .any, .ptr (N + 9) l9 0 [], .any, .ptr (N + 11) l11 0 [], .ptr (N + 12) l12 0 [], .lit (.bool false), .ptr (N + 14) (g, 0) 0 []] ++ List.replicate 78 .any
def stL (pre tp : List UInt8) (l9 l11 l12 : Nat × Nat) (g : Nat) (gs : List (List UInt8)) : List (Option Blk) :=
  [none, none, none, none, none, none, none, none, none, some (.box l9 32 (keyA pre)), none, some (.box l11 32 (keyA tp)), some (.box l12 165 zsA), none, some (.row 95 (allV g 4) 32 (klA gs) 0)] ++ List.replicate 78 none
set_option maxRecDepth 100000 in
set_option maxHeartbeats 64000000 in
theorem start_call {H : List (Option Blk)} {t : Tb} {V : Value} {ts : List Term} (hh : TbOk H t V ts) (hts : TsOk ts) (hn : ts.length + 100 < 90000) (up : Bool) {id pre ti tp : List UInt8} (h1 : id.length = 32) (h2 : pre.length = 32) (h3 : ti.length = 32) (h4 : tp.length = 32) {y0 y1 y2 y3 : Term} {g0 g1' g2' g3 : List UInt8} {t1 t2 t3 t4 : List Term}
    (a0 : agreeX ts id ti = some y0) (b0 : nameK (putN ts y0) = g0) (c0 : putT ts y0 = t1) (a1 : agreeX t1 id tp = some y1) (b1 : nameK (putN t1 y1) = g1') (c1 : putT t1 y1 = t2) (a2 : agreeX t2 pre ti = some y2) (b2 : nameK (putN t2 y2) = g2') (c2 : putT t2 y2 = t3) (a3 : agreeX t3 pre tp = some y3) (b3 : nameK (putN t3 y3) = g3) (c3 : putT t3 y3 = t4) :
    XCall Go.Proofs.Tryd.prog 17 [freeI t.b t.l, .lit (.bool up), keyA id, keyA pre, keyA ti, keyA tp] H fun r H' => r = .tup [sesA (startV t4 up pre tp (if up then [g0, g1', g2', g3] else [g0, g2', g1', g3])).1, .lit (.bool true)] ∧ ∃ V', H' = tbOf H t V' (startV t4 up pre tp (if up then [g0, g1', g2', g3] else [g0, g2', g1', g3])).2 := by
  have h914 := fc914_eq
  refine XCall.le ?_
  have hself := hh.self
  have g1 : ∀ V' ts' L k, (tbOf H t V' ts' ++ L)[H.length + k]? = L[k]? := fun V' ts' L k => cat1 _ _ _ _ (tbOf_len _ _ _ _)
  have g2 : ∀ V' ts' L k x, (tbOf H t V' ts' ++ L).set (H.length + k) x = tbOf H t V' ts' ++ L.set k x := fun V' ts' L k x => cat2 _ _ _ _ _ (tbOf_len _ _ _ _)
  obtain ⟨w0, x0⟩ := agreeX_ok hts h1 h3 a0
  have m0 := putT_len ts y0
  have v1 := hts.put w0 x0 (by omega)
  rw [c0] at m0 v1
  have k0 := agreeZ_k hh hts h1 h3 a0
  have n0 := nameK_len (putN ts y0)
  rw [b0] at k0 n0
  rw [c0] at k0
  obtain ⟨w1, x1⟩ := agreeX_ok v1 h1 h4 a1
  have m1 := putT_len t1 y1
  have v2 := v1.put w1 x1 (by omega)
  rw [c1] at m1 v2
  have k1 := agreeZ_k hh v1 h1 h4 a1
  have n1 := nameK_len (putN t1 y1)
  rw [b1] at k1 n1
  rw [c1] at k1
  obtain ⟨w2, x2⟩ := agreeX_ok v2 h2 h3 a2
  have m2 := putT_len t2 y2
  have v3 := v2.put w2 x2 (by omega)
  rw [c2] at m2 v3
  have k2 := agreeZ_k hh v2 h2 h3 a2
  have n2 := nameK_len (putN t2 y2)
  rw [b2] at k2 n2
  rw [c2] at k2
  obtain ⟨w3, x3⟩ := agreeX_ok v3 h2 h4 a3
  have m3 := putT_len t3 y3
  have v4 := v3.put w3 x3 (by omega)
  rw [c3] at m3 v4
  have k3 := agreeZ_k hh v3 h2 h4 a3
  have n3 := nameK_len (putN t3 y3)
  rw [b3] at k3 n3
  rw [c3] at k3
  refine XCall.of h914 rfl ?_; show AC.wp _ fb914 ⟨H.length, [freeI t.b t.l, .lit (.bool up), keyA id, keyA pre, keyA ti, keyA tp] ++ List.replicate (93 - 6) .any, H ++ List.replicate 93 none⟩ (fun x s => match x with | .exit _ => False | _ => ∃ s1, Le s s1 ∧ FinX [(.cell 12 .true 165), (.tmp 13)] s1 _); unfold fb914
  rw [← hself]
  rw [tbOf_len]
  simp only [hh.of_of]
  generalize hN : H.length = N at *
  refine wp_sg (areg_bx rfl (by simp [AS.ev, keyA, AV.sz, bl, h1]) fun l8 => areg_bx rfl (by simp [AS.ev, AS.put, keyA, AV.sz, bl, h2]) fun l9 => areg_bx rfl (by simp [AS.ev, AS.put, keyA, AV.sz, bl, h3]) fun l10 => areg_bx rfl (by simp [AS.ev, AS.put, keyA, AV.sz, bl, h4]) fun l11 => areg_al' (z' := zsA) (by rw [zsA, zk_eq]) fun l12 => areg_end (by simp [push_cast, g2]; exact rfl) ?_)
  refine wp_sg (areg_aown fun g => areg_end (by simp [push_cast, g2]; exact rfl) ?_)
  refine wp_seq' ?_
  refine wp_sg ?_
  refine areg_run 2 (by simp [push_cast, g1, h1, h3]; exact rfl) ?_
  refine areg_bd (z' := .arr 32 [keyA id, keyA ti]) (fill_ar rfl rfl rfl (by simp [AV.sz, AS.ev, AS.put, h1, bl_len]) (fill_ar rfl rfl rfl (by simp [AV.sz, AS.ev, AS.put, h3, bl_len]) rfl)) ?_
  refine areg_run 2 (by simp [push_cast, g1, h1, h4]; exact rfl) ?_
  refine areg_bd (z' := .arr 32 [keyA id, keyA tp]) (fill_ar rfl rfl rfl (by simp [AV.sz, AS.ev, AS.put, h1, bl_len]) (fill_ar rfl rfl rfl (by simp [AV.sz, AS.ev, AS.put, h4, bl_len]) rfl)) ?_
  refine areg_run 2 (by simp [push_cast, g1, h2, h3]; exact rfl) ?_
  refine areg_bd (z' := .arr 32 [keyA pre, keyA ti]) (fill_ar rfl rfl rfl (by simp [AV.sz, AS.ev, AS.put, h2, bl_len]) (fill_ar rfl rfl rfl (by simp [AV.sz, AS.ev, AS.put, h3, bl_len]) rfl)) ?_
  refine areg_run 2 (by simp [push_cast, g1, h2, h4]; exact rfl) ?_
  refine areg_bd (z' := .arr 32 [keyA pre, keyA tp]) (fill_ar rfl rfl rfl (by simp [AV.sz, AS.ev, AS.put, h2, bl_len]) (fill_ar rfl rfl rfl (by simp [AV.sz, AS.ev, AS.put, h4, bl_len]) rfl)) ?_
  refine areg_bd (z' := .arr 64 [.arr 32 [keyA id, keyA ti], .arr 32 [keyA id, keyA tp], .arr 32 [keyA pre, keyA ti], .arr 32 [keyA pre, keyA tp]]) (fill_ar rfl rfl rfl (by simp [AV.sz, AS.ev, AS.put]) (fill_ar rfl rfl rfl (by simp [AV.sz, AS.ev, AS.put]) (fill_ar rfl rfl rfl (by simp [AV.sz, AS.ev, AS.put]) (fill_ar rfl rfl rfl (by simp [AV.sz, AS.ev, AS.put]) rfl)))) ?_
  refine areg_end (by simp [push_cast]; exact rfl) ?_
  refine wp_block' (wp_loopN 5 (loopN_succ ?_))
  refine wp_sr (by simp [push_cast]; exact rfl) (wp_seq' (wp_cond_t (by simp [AS.ev]) (wp_skip' ?_)))
  refine wp_seq' (wp_block' (wp_sg ?_))
  refine areg_run 2 (by simp [push_cast]; exact rfl) ?_
  refine areg_al' (z' := .arr 32 [keyA zk, keyA zk]) (by rw [zk_eq]) fun l16a => areg_end (by simp [push_cast, g1, g2, h1, h3, zk_len]; exact rfl) ?_
  refine wp_sr (by simp [push_cast]; exact rfl) ?_
  refine wp_sg ?_
  refine areg_run 6 (by simp [push_cast, g1, h1, h3]; exact rfl) ?_
  refine areg_k [freeI t.b t.l, keyA id, keyA ti] hN rfl (tgt_agreeI _ _ _ _) k0 (by simp) (by simp) fun V0 => ?_
  refine areg_end (by simp [push_cast, g1, g2, n0, zk_len, locA]; exact rfl) ?_
  refine wp_seq' (wp_r (by simp [push_cast]; exact rfl) ?_)
  refine wp_cond_f (by simp [AS.ev]) (wp_skip' ?_)
  refine wp_r (by simp [push_cast]; exact rfl) (loopN_succ ?_)
  refine wp_sr (by simp [push_cast]; exact rfl) (wp_seq' (wp_cond_t (by simp [AS.ev]) (wp_skip' ?_)))
  refine wp_seq' (wp_block' (wp_sg ?_))
  refine areg_run 2 (by simp [push_cast]; exact rfl) ?_
  refine areg_al' (z' := .arr 32 [keyA zk, keyA zk]) (by rw [zk_eq]) fun l16b => areg_end (by simp [push_cast, g1, g2, h1, h4, zk_len]; exact rfl) ?_
  refine wp_sr (by simp [push_cast]; exact rfl) ?_
  refine wp_sg ?_
  refine areg_run 6 (by simp [push_cast, g1, h1, h4]; exact rfl) ?_
  refine areg_k [freeI t.b t.l, keyA id, keyA tp] hN rfl (tgt_agreeI _ _ _ _) k1 (by simp) (by simp) fun V1 => ?_
  refine areg_end (by simp [push_cast, g1, g2, n1, zk_len, locA]; exact rfl) ?_
  refine wp_seq' (wp_r (by simp [push_cast]; exact rfl) ?_)
  refine wp_cond_f (by simp [AS.ev]) (wp_skip' ?_)
  refine wp_r (by simp [push_cast]; exact rfl) (loopN_succ ?_)
  refine wp_sr (by simp [push_cast]; exact rfl) (wp_seq' (wp_cond_t (by simp [AS.ev]) (wp_skip' ?_)))
  refine wp_seq' (wp_block' (wp_sg ?_))
  refine areg_run 2 (by simp [push_cast]; exact rfl) ?_
  refine areg_al' (z' := .arr 32 [keyA zk, keyA zk]) (by rw [zk_eq]) fun l16c => areg_end (by simp [push_cast, g1, g2, h2, h3, zk_len]; exact rfl) ?_
  refine wp_sr (by simp [push_cast]; exact rfl) ?_
  refine wp_sg ?_
  refine areg_run 6 (by simp [push_cast, g1, h2, h3]; exact rfl) ?_
  refine areg_k [freeI t.b t.l, keyA pre, keyA ti] hN rfl (tgt_agreeI _ _ _ _) k2 (by simp) (by simp) fun V2 => ?_
  refine areg_end (by simp [push_cast, g1, g2, n2, zk_len, locA]; exact rfl) ?_
  refine wp_seq' (wp_r (by simp [push_cast]; exact rfl) ?_)
  refine wp_cond_f (by simp [AS.ev]) (wp_skip' ?_)
  refine wp_r (by simp [push_cast]; exact rfl) (loopN_succ ?_)
  refine wp_sr (by simp [push_cast]; exact rfl) (wp_seq' (wp_cond_t (by simp [AS.ev]) (wp_skip' ?_)))
  refine wp_seq' (wp_block' (wp_sg ?_))
  refine areg_run 2 (by simp [push_cast]; exact rfl) ?_
  refine areg_al' (z' := .arr 32 [keyA zk, keyA zk]) (by rw [zk_eq]) fun l16d => areg_end (by simp [push_cast, g1, g2, h2, h4, zk_len]; exact rfl) ?_
  refine wp_sr (by simp [push_cast]; exact rfl) ?_
  refine wp_sg ?_
  refine areg_run 6 (by simp [push_cast, g1, h2, h4]; exact rfl) ?_
  refine areg_k [freeI t.b t.l, keyA pre, keyA tp] hN rfl (tgt_agreeI _ _ _ _) k3 (by simp) (by simp) fun V3 => ?_
  refine areg_end (by simp [push_cast, g1, g2, n3, zk_len, locA]; exact rfl) ?_
  refine wp_seq' (wp_r (by simp [push_cast]; exact rfl) ?_)
  refine wp_cond_f (by simp [AS.ev]) (wp_skip' ?_)
  refine wp_r (by simp [push_cast]; exact rfl) (loopN_succ ?_)
  refine wp_sr (by simp [push_cast]; exact rfl) (wp_seq' (wp_cond_f (by simp [AS.ev]) (wp_exit' (if_hit rfl ?_))))
  refine wp_seqM (fun _ : Unit => ⟨N, stT N t up id pre ti tp l8 l9 l10 l11 l12 g, tbOf H t V3 t4 ++ stL pre tp l9 l11 l12 g (if up then [g0, g1', g2', g3] else [g0, g2', g1', g3])⟩) (fun _ => True) ?_ ?_
  rotate_left
  · cases up with
    | true =>
      refine wp_seq' (wp_r (by simp [push_cast]; exact rfl) ?_)
      refine wp_cond_f (by simp [AS.ev]) (wp_skip' ?_)
      refine ⟨(), trivial, Le.cat (by simp [stT, leT] <;> (repeat' (first | rfl | exact Or.inr rfl | apply And.intro))) (by simp [stL, leH, klA] <;> (repeat' (first | rfl | exact Or.inr rfl | apply And.intro)))⟩
    | false =>
      refine wp_seq' (wp_r (by simp [push_cast]; exact rfl) ?_)
      refine wp_cond_t (by simp [AS.ev]) ?_
      refine wp_r (by simp [push_cast, g1, g2, n1, n2, locA]; exact rfl) ?_
      refine ⟨(), trivial, Le.cat (by simp [stT, leT] <;> (repeat' (first | rfl | exact Or.inr rfl | apply And.intro))) (by simp [stL, leH, klA] <;> (repeat' (first | rfl | exact Or.inr rfl | apply And.intro)))⟩
  rintro _ _
  have hgs : ∀ k ∈ (if up then [g0, g1', g2', g3] else [g0, g2', g1', g3]), k.length = 32 := by
    cases up <;> simp [n0, n1, n2, n3]
  have hgl : (if up then [g0, g1', g2', g3] else [g0, g2', g1', g3]).length = 4 := by cases up <;> rfl
  generalize (if up then [g0, g1', g2', g3] else [g0, g2', g1', g3]) = gs at *
  clear k0 k1 k2 k3 n0 n1 n2 n3
  unfold startV
  dsimp only
  have q0 := putT_len t4 ⟨2, txBase, gs⟩
  have kb := hash_k hh (ts := t4) (by omega) (s := txBase) (by simp [txBase]) (ks := gs) (by omega) hgs
  have n0 := nameK_len (putN t4 ⟨2, txBase, gs⟩)
  generalize nameK (putN t4 ⟨2, txBase, gs⟩) = b at *
  generalize putT t4 ⟨2, txBase, gs⟩ = t5 at *
  have q1 := putT_len t5 ⟨2, txRoot, [b]⟩
  have kr := hash_k hh (ts := t5) (by omega) (s := txRoot) (by simp [txRoot]) (ks := [b]) (by simp) (by simp [n0])
  have n1 := nameK_len (putN t5 ⟨2, txRoot, [b]⟩)
  generalize nameK (putN t5 ⟨2, txRoot, [b]⟩) = r at *
  generalize putT t5 ⟨2, txRoot, [b]⟩ = t6 at *
  have q2 := putT_len t6 ⟨2, txUp, [b]⟩
  have ku := hash_k hh (ts := t6) (by omega) (s := txUp) (by simp [txUp]) (ks := [b]) (by simp) (by simp [n0])
  have n2 := nameK_len (putN t6 ⟨2, txUp, [b]⟩)
  generalize nameK (putN t6 ⟨2, txUp, [b]⟩) = u at *
  generalize putT t6 ⟨2, txUp, [b]⟩ = t7 at *
  have kd := hash_k hh (ts := t7) (by omega) (s := txDown) (by simp [txDown]) (ks := [b]) (by simp) (by simp [n0])
  have n3 := nameK_len (putN t7 ⟨2, txDown, [b]⟩)
  generalize nameK (putN t7 ⟨2, txDown, [b]⟩) = dn at *
  generalize putT t7 ⟨2, txDown, [b]⟩ = t8 at *
  unfold stT
  refine wp_sg ?_
  refine areg_run 2 (by simp [push_cast, g1]; exact rfl) ?_
  refine areg_rdp (us := [freeI t.b t.l]) rfl (mkfn_draw _ _ _) ?_
  refine areg_rdp (us := [.fnv (.method "Hash") [freeI t.b t.l] []]) rfl (nilv_hash _ _) ?_
  refine areg_run 1 (by simp [push_cast]; exact rfl) ?_
  refine areg_kv (c := 14) (g := g) (n := 4) (e := 95) (sl := 0) (esz := 32) (els := klA gs) [freeI t.b t.l, .lit (tx txBase), .view (N + 14) (g, 0) 0 [] 32 0 4 4] hN rfl (tgt_hashI _ _ _ _) kb rfl (by simp [stL]) fun V4 => ?_
  refine areg_al' zk_eq.symm fun l18 => areg_end (by simp [push_cast, g1, g2, n0, stL]; exact rfl) ?_
  refine wp_sg ?_
  refine areg_run 4 (by simp [push_cast, g1, h2, h4, n0]; exact rfl) ?_
  refine areg_bsl (k := 32) (els := klA [b]) (fill_ar rfl rfl rfl (by simp [AV.sz, AS.ev, AS.put, n0, bl_len]) rfl) ?_
  refine areg_k [freeI t.b t.l, .lit (tx txRoot), .sl 32 (klA [b])] hN rfl (tgt_hashI _ _ _ _) kr (by simp) (by simp [AS.ev, AV.place]) fun V5 => ?_
  refine areg_run 1 (by simp [push_cast]; exact rfl) ?_
  refine areg_bd (z' := .st [32, 32, 32, 32, 32, 1, 1, 1, 1, 1] [keyA pre, keyA tp, keyA r, .arr 1 (List.replicate 32 (.lit (bn 0))), .arr 1 (List.replicate 32 (.lit (bn 0))), .lit (wn 0), .lit (wn 0), .lit (wn 0), .lit (.bool up), .lit (.slice none 0 0)]) (fill_st rfl rfl rfl rfl (by simp [AV.sz, AS.ev, AS.put, h2, bl_len, keyA]) (fill_st rfl rfl rfl rfl (by simp [AV.sz, AS.ev, AS.put, h4, bl_len, keyA]) (fill_st rfl rfl rfl rfl (by simp [AV.sz, AS.ev, AS.put, n1, bl_len, keyA]) (fill_st rfl rfl rfl rfl rfl rfl)))) ?_
  refine areg_al' (z' := zsA) (by rw [zsA, zk_eq]) fun l19 => areg_end (by simp [push_cast, g1, g2, zsA, zk_len, h2, h4, n1]; exact rfl) ?_
  refine wp_sg ?_
  refine areg_run 2 (by simp [push_cast, g1, n0]; exact rfl) ?_
  refine areg_bsl (k := 32) (els := klA [b]) (fill_ar rfl rfl rfl (by simp [AV.sz, AS.ev, AS.put, n0, bl_len]) rfl) ?_
  refine areg_k [freeI t.b t.l, .lit (tx txUp), .sl 32 (klA [b])] hN rfl (tgt_hashI _ _ _ _) ku (by simp) (by simp [AS.ev, AV.place]) fun V6 => ?_
  refine areg_run 2 (by simp [push_cast, g1, n0]; exact rfl) ?_
  refine areg_bsl (k := 32) (els := klA [b]) (fill_ar rfl rfl rfl (by simp [AV.sz, AS.ev, AS.put, n0, bl_len]) rfl) ?_
  refine areg_k [freeI t.b t.l, .lit (tx txDown), .sl 32 (klA [b])] hN rfl (tgt_hashI _ _ _ _) kd (by simp) (by simp [AS.ev, AV.place]) fun V7 => ?_
  refine areg_end (by simp [push_cast, g1, g2, n2, n3, zk_len]; exact rfl) ?_
  cases up with
  | true =>
    refine wp_seq' (wp_seq' (wp_r (by simp [push_cast]; exact rfl) ?_))
    refine wp_cond_f (by simp [AS.ev]) (wp_skip' ?_)
    refine wp_sr (by simp [push_cast, g1, g2, n1, n2, n3, zsA, zk_len, h2, h4]; exact rfl) (wp_ret' ?_)
    refine ⟨_, Le.refl _, [], _, ⟨_, rfl, by simp [AS.seals, RVals, RVal, AS.ev, AS.peek, AS.blk, g1, Blk.loc, Blk.cont, Blk.n, AV.nav, AV.isAgg, AV.isTup, AS.coe]; rfl, by simp⟩, .tup [sesA ⟨pre, tp, r, u, dn, 0, 0, 0, true, []⟩, .lit (.bool true)], tbOf H t V7 t8, nil_ses, by simp, HpLe.trim _ _, rfl, V7, rfl⟩
  | false =>
    refine wp_seq' (wp_seq' (wp_r (by simp [push_cast]; exact rfl) ?_))
    refine wp_cond_t (by simp [AS.ev]) ?_
    refine wp_r (by simp [push_cast, g1, g2, n2, n3]; exact rfl) ?_
    refine wp_sr (by simp [push_cast, g1, g2, n1, n2, n3, zsA, zk_len, h2, h4]; exact rfl) (wp_ret' ?_)
    refine ⟨_, Le.refl _, [], _, ⟨_, rfl, by simp [AS.seals, RVals, RVal, AS.ev, AS.peek, AS.blk, g1, Blk.loc, Blk.cont, Blk.n, AV.nav, AV.isAgg, AV.isTup, AS.coe]; rfl, by simp⟩, .tup [sesA ⟨pre, tp, r, dn, u, 0, 0, 0, false, []⟩, .lit (.bool true)], tbOf H t V7 t8, nil_ses, by simp, HpLe.trim _ _, rfl, V7, rfl⟩
end Go.Cab
namespace Go.Cab
open Classical
def Want (W : List (List UInt8)) (x : Term) : Prop := x.kind = 2 ∧ ∃ q ∈ x.keys, q ∈ W
def HidS (s : List UInt8) : Prop := s = [97] ∨ s = [99] ∨ ∃ r, s = 115 :: r
theorem dig8_nat {n : Nat} (h : n < 10) : (dig8 n).toNat = 48 + n := by
  unfold dig8
  rw [UInt8.toNat_ofNat']
  omega
theorem digs_lo {n : Nat} (h : n < 10) : digs n = [dig8 n] := by rw [digs]; simp [h]
theorem digs_hi {n : Nat} (h : ¬ n < 10) : digs n = digs (n / 10) ++ [dig8 (n % 10)] := by rw [digs]; simp [h]
theorem dig8_ne {n : Nat} (h : n < 10) : dig8 n ≠ 32 := fun e => by
  have := congrArg UInt8.toNat e
  rw [dig8_nat h] at this
  simp at this
  omega
theorem digs_ne (n : Nat) : 0 < (digs n).length ∧ ∀ b ∈ digs n, b ≠ 32 := by
  induction n using Nat.strongRecOn with
  | _ n ih =>
    by_cases hn : n < 10
    · rw [digs_lo hn]
      refine ⟨by simp, fun b hb => ?_⟩
      simp only [List.mem_singleton] at hb
      subst hb
      exact dig8_ne hn
    · rw [digs_hi hn]
      obtain ⟨h1, h2⟩ := ih (n / 10) (by omega)
      refine ⟨by simp, fun b hb => ?_⟩
      rcases List.mem_append.1 hb with hb | hb
      · exact h2 b hb
      · simp only [List.mem_singleton] at hb
        subst hb
        exact dig8_ne (by omega)
theorem dig8_inj {a b : Nat} (ha : a < 10) (hb : b < 10) (h : dig8 a = dig8 b) : a = b := by
  have := congrArg UInt8.toNat h
  rw [dig8_nat ha, dig8_nat hb] at this
  omega
theorem digs_inj (n : Nat) : ∀ m, digs n = digs m → n = m := by
  induction n using Nat.strongRecOn with
  | _ n ih =>
    intro m h
    by_cases hn : n < 10
    · rw [digs_lo hn] at h
      by_cases hm : m < 10
      · rw [digs_lo hm] at h
        simp only [List.cons.injEq, and_true] at h
        exact dig8_inj hn hm h
      · rw [digs_hi hm] at h
        have := congrArg List.length h
        have h2 := (digs_ne (m / 10)).1
        simp at this
        rw [this] at h2
        simp at h2
    · rw [digs_hi hn] at h
      by_cases hm : m < 10
      · rw [digs_lo hm] at h
        have := congrArg List.length h
        have h2 := (digs_ne (n / 10)).1
        simp at this
        rw [this] at h2
        simp at h2
      · rw [digs_hi hm] at h
        obtain ⟨h1, h2⟩ := List.append_inj' h rfl
        have e := ih (n / 10) (by omega) (m / 10) h1
        simp only [List.cons.injEq, and_true] at h2
        have := dig8_inj (by omega) (by omega) h2
        omega
def MineS (i : Nat) (s : List UInt8) : Prop := s = [98] ∨ s = [100] ∨ ∃ j, j < i ∧ s = 116 :: digs j
theorem hid_mine {i : Nat} {s : List UInt8} (h : HidS s) (k : MineS i s) : False := by
  rcases h with rfl | rfl | ⟨r, rfl⟩ <;> rcases k with h | h | ⟨j, _, h⟩ <;> simp at h
structure HidW (ts : List Term) (W : List (List UInt8)) : Prop where
  old : ∀ k ∈ W, ∃ x, TermOk x ∧ Nm ts x k ∧ ((∃ s, x = drawT s ∧ HidS s) ∨ Want W x ∨ x.kind = 4 ∧ 2 ≤ x.keys.length ∧ ∀ q ∈ x.keys, q ∈ W)
  box : ∀ y ∈ ts, y.kind = 6 → y.keys.getD 0 zk ∈ W
def Open (ts : List Term) (W : List (List UInt8)) (k : List UInt8) : Prop := (∃ x, TermOk x ∧ Nm ts x k) ∧ k ∉ W
def Cur (ts : List Term) (W : List (List UInt8)) (k : List UInt8) : Prop := (∃ x, TermOk x ∧ Nm ts x k ∧ Want W x) ∧ k ∉ W
def Mine (ts : List Term) (i : Nat) (k : List UInt8) : Prop := ∃ s, TermOk (drawT s) ∧ Nm ts (drawT s) k ∧ MineS i s
theorem Cur.open {ts : List Term} {W : List (List UInt8)} {k : List UInt8} (h : Cur ts W k) : Open ts W k := by
  obtain ⟨⟨x, h1, h2, _⟩, h3⟩ := h
  exact ⟨⟨x, h1, h2⟩, h3⟩
theorem Mine.open {ts : List Term} (hts : TsOk ts) {W : List (List UInt8)} (hW : HidW ts W) {i : Nat} {k : List UInt8} (h : Mine ts i k) : Open ts W k := by
  obtain ⟨s, h1, h2, h3⟩ := h
  refine ⟨⟨_, h1, h2⟩, fun hk => ?_⟩
  obtain ⟨y, g1, g2, g3⟩ := hW.old k hk
  have e := g2.inj h2 hts g1 h1
  subst e
  rcases g3 with ⟨s', e, g⟩ | ⟨e, _⟩ | ⟨e, _⟩
  · simp only [drawT, Term.mk.injEq, true_and, and_true] at e
    subst e
    exact hid_mine g h3
  · cases e
  · cases e
theorem open_kind {ts : List Term} (hts : TsOk ts) {W : List (List UInt8)} (hW : HidW ts W) {x : Term} {k : List UInt8} (hx : TermOk x) (h : Nm ts x k) (hk : x.kind = 3 ∨ x.kind = 6) : Open ts W k := by
  refine ⟨⟨_, hx, h⟩, fun hm => ?_⟩
  obtain ⟨y, g1, g2, g3⟩ := hW.old k hm
  have e := g2.inj h hts g1 hx
  subst e
  rcases g3 with ⟨s', e, g⟩ | ⟨e, _⟩ | ⟨e, _⟩
  · subst e; simp [drawT] at hk
  · omega
  · omega
theorem new_hash {ts : List Term} (hts : TsOk ts) {W : List (List UInt8)} (hW : HidW ts W) {x : Term} {k : List UInt8} (hx : TermOk x) (h : Nm ts x k) (h2 : x.kind = 2) (hn : ∀ q ∈ x.keys, q ∉ W) : k ∉ W ∧ ∀ z, Cur ts W z → k ≠ z := by
  refine ⟨fun hm => ?_, fun z hz e => ?_⟩
  · obtain ⟨y, g1, g2, g3⟩ := hW.old k hm
    have e := g2.inj h hts g1 hx
    subst e
    rcases g3 with ⟨s', e, g⟩ | ⟨_, q, hq, hq2⟩ | ⟨e, _⟩
    · subst e; simp [drawT] at h2
    · exact hn q hq hq2
    · omega
  · subst e
    obtain ⟨⟨y, g1, g2, _, q, hq, hq2⟩, _⟩ := hz
    have e := g2.inj h hts g1 hx
    subst e
    exact hn q hq hq2
theorem HidW.mono {ts us : List Term} {W : List (List UInt8)} (h : HidW ts W) (p : ts <+: us) (hb : ∀ y ∈ us, y.kind = 6 → y.keys.getD 0 zk ∈ W) : HidW us W :=
  ⟨fun k hk => by obtain ⟨x, h1, h2, h3⟩ := h.old k hk; exact ⟨x, h1, h2.mono p, h3⟩, hb⟩
theorem Cur.mono {ts us : List Term} {W : List (List UInt8)} {k : List UInt8} (h : Cur ts W k) (p : ts <+: us) : Cur us W k := by
  obtain ⟨⟨x, h1, h2, h3⟩, h4⟩ := h
  exact ⟨⟨x, h1, h2.mono p, h3⟩, h4⟩
theorem Open.mono {ts us : List Term} {W : List (List UInt8)} {k : List UInt8} (h : Open ts W k) (p : ts <+: us) : Open us W k := by
  obtain ⟨⟨x, h1, h2⟩, h4⟩ := h
  exact ⟨⟨x, h1, h2.mono p⟩, h4⟩
theorem Mine.mono {ts us : List Term} {i : Nat} {k : List UInt8} (h : Mine ts i k) (p : ts <+: us) : Mine us i k := by
  obtain ⟨s, h1, h2, h3⟩ := h
  exact ⟨s, h1, h2.mono p, h3⟩
theorem Mine.up {ts : List Term} {i : Nat} {k : List UInt8} (h : Mine ts i k) : Mine ts (i + 1) k := by
  obtain ⟨s, h1, h2, h3⟩ := h
  refine ⟨s, h1, h2, ?_⟩
  rcases h3 with h3 | h3 | ⟨j, h3, h4⟩
  · exact .inl h3
  · exact .inr (.inl h3)
  · exact .inr (.inr ⟨j, by omega, h4⟩)
theorem Mine.ne {ts : List Term} (hts : TsOk ts) {i : Nat} {k m : List UInt8} (h : Mine ts i k) (hm : Nm ts (drawT (116 :: digs i)) m) (ho : TermOk (drawT (116 :: digs i))) : m ≠ k := fun e => by
  subst e
  obtain ⟨s, h1, h2, h3⟩ := h
  have e := h2.inj hm hts h1 ho
  simp only [drawT, Term.mk.injEq, true_and, and_true] at e
  rcases h3 with rfl | rfl | ⟨j, h3, h4⟩
  · simp at e
  · simp at e
  · rw [h4] at e
    simp only [List.cons.injEq, true_and] at e
    have := digs_inj _ _ e
    omega
theorem Want.up {W W' : List (List UInt8)} {x : Term} (h : Want W x) (hw : ∀ k ∈ W, k ∈ W') : Want W' x := by
  obtain ⟨h1, q, h2, h3⟩ := h
  exact ⟨h1, q, h2, hw q h3⟩
theorem HidW.up {ts : List Term} {W V : List (List UInt8)} (h : HidW ts W) (hV : ∀ k ∈ V, ∃ x, TermOk x ∧ Nm ts x k ∧ ((∃ s, x = drawT s ∧ HidS s) ∨ Want (W ++ V) x)) : HidW ts (W ++ V) := by
  refine ⟨fun k hk => ?_, fun y hy h6 => List.mem_append_left _ (h.box y hy h6)⟩
  rcases List.mem_append.1 hk with hk | hk
  · obtain ⟨x, h1, h2, h3⟩ := h.old k hk
    refine ⟨x, h1, h2, ?_⟩
    rcases h3 with h3 | h3 | ⟨h3, h4, h5⟩
    · exact .inl h3
    · exact .inr (.inl (h3.up fun k hk => List.mem_append_left _ hk))
    · exact .inr (.inr ⟨h3, h4, fun q hq => List.mem_append_left _ (h5 q hq)⟩)
  · obtain ⟨x, h1, h2, h3⟩ := hV k hk
    exact ⟨x, h1, h2, h3.imp id .inl⟩
theorem seen_of {ts : List Term} (hts : TsOk ts) {Q : Term → Prop} {x : Term} {k : List UInt8} (hx : TermOk x) (h : Nm ts x k) (hq : Q x) : Kn (setOf ts Q) (be32 k) := by
  obtain ⟨n, rfl, hi⟩ := h
  have hl := hts.len
  have hlt := hi.lt
  rw [be32_name (by omega)]
  exact (setOf_kn (hi.get hts hx)).2 hq
theorem HidW.hides {ts : List Term} (hts : TsOk ts) {W : List (List UInt8)} (h : HidW ts W) {seen : List (List UInt8)} (hs : ∀ k ∈ seen, Open ts W k) {K : List Bool} (hK : FolOk ts seen K) : ∀ k ∈ W, hasV K k = false := by
  have hno : ∀ q ∈ W, hasV (setOf ts fun y => ¬ ∃ k ∈ W, Nm ts y k) q = true → False := fun q hq hh => by
    obtain ⟨z, g1, g2, _⟩ := h.old q hq
    exact (hasV_set hts g1 g2).1 hh ⟨q, hq, g2⟩
  have hclo : Clo ts (setOf ts fun y => ¬ ∃ k ∈ W, Nm ts y k) := by
    refine ⟨setOf_len _ _, fun i y hy hmd => (setOf_kn hy).2 ?_, fun i y hy h6 _ hh k hk => ?_⟩
    · rintro ⟨k, hk, hn⟩
      obtain ⟨z, h1, h2, h3⟩ := h.old k hk
      have e := h2.inj hn hts h1 (hts.ok y (List.mem_of_getElem? hy))
      subst e
      unfold madeV at hmd
      rcases h3 with ⟨s, rfl, _⟩ | ⟨h3, q, hq, hqW⟩ | ⟨h3, h4, h5⟩
      · simp [drawT] at hmd
      · rw [if_neg (by omega), if_neg (by omega), List.all_eq_true] at hmd
        exact hno q hqW (hmd q hq)
      · obtain ⟨a, b, r, hk2⟩ : ∃ a b r, z.keys = a :: b :: r := by
          match hz : z.keys, h4 with
          | a :: b :: r, _ => exact ⟨a, b, r, rfl⟩
          | [_], h4 => simp at h4
          | [], h4 => simp at h4
        rw [if_neg (by omega), if_pos h3, hk2] at hmd
        simp only [List.getD_cons_zero, List.getD_cons_succ, Bool.or_eq_true, Bool.and_eq_true] at hmd
        rcases hmd with ⟨hmd, _⟩ | ⟨hmd, _⟩
        · exact hno a (h5 a (by simp [hk2])) hmd
        · exact hno b (h5 b (by simp [hk2])) hmd
    · exact (hno _ (h.box y (List.mem_of_getElem? hy) h6) hh).elim
  have hle := hK.in hclo fun k hk e1 e2 => by
    obtain ⟨⟨x, hx, hn⟩, hno2⟩ := hs k hk
    refine seen_of hts hx hn ?_
    rintro ⟨k', hk', hn'⟩
    rw [hn'.fun hn] at hk'
    exact hno2 hk'
  intro k hk
  rw [Bool.eq_false_iff]
  intro e
  exact hno k hk (hasV_mono hle e)
end Go.Cab
namespace Go.Cab
open Go.RowKit
open Classical
attribute [local irreducible] AReg
def sndT (N : Nat) (t : Tb) (l : Nat × Nat) (x : Ses) (draw by_ : List UInt8) (ks : List (List UInt8)) (l6 l8 l10 l11 : Nat × Nat) : List AV :=
  [freeI t.b t.l, sesA x, .lit (tx draw), keyA by_, .sl 32 (klA ks), .any, .ptr (N + 6) l6 0 [], .any, .ptr (N + 8) l8 0 [], .any, .ptr (N + 10) l10 0 [], .ptr (N + 11) l11 0 [], .lit (tx []), .lit (jn 0), .ptr (N + 14) l 0 []] ++ List.replicate 145 .any
def sndL (N : Nat) (t : Tb) (l : Nat × Nat) (x0 : Ses) (by_ : List UInt8) (l6 l8 l10 l11 : Nat × Nat) (x : Ses) (Vc : Value) : List (Option Blk) :=
  [some (swk x Vc), none, none, none, none, none, some (.box l6 165 (sesA x0)), none, some (.box l8 32 (keyA by_)), none, some (.box l10 165 zsA), some (.box l11 34 zhA), none, none, some (sbk t ⟨N + 14, l, N + 0⟩ x Vc)] ++ List.replicate 145 none
set_option maxRecDepth 100000 in
set_option maxHeartbeats 64000000 in
theorem send_call {H : List (Option Blk)} {t : Tb} {V : Value} {ts : List Term} (hh : TbOk H t V ts) (hn : ts.length + 100 < 90000) {x : Ses} (hx : SeOk x) {draw by_ : List UInt8} (hd : draw.length < 1000) (hb : by_.length = 32) {ks : List (List UInt8)} (hkl : ks.length < 1000) (h32 : ∀ k ∈ ks, k.length = 32)
    {x1 : Ses} {ts1 : List Term} (hT : TurnOk ts x draw x1 ts1) (hx1 : SeOk x1) (hn1 : ts1.length + 50 < 90000) (e1 : x1.ns < 99) (e2 : x1.pn < 99) :
    XCall Go.Proofs.Tryd.prog 10 [freeI t.b t.l, sesA x, .lit (tx draw), keyA by_, .sl 32 (klA ks)] H fun r H' => r = .tup [sesA (sendS ts1 x1 by_ ks).1.1, headA (sendS ts1 x1 by_ ks).1.2.1, .lit (tx (sendS ts1 x1 by_ ks).1.2.2), .lit (jn 0)] ∧ ∃ V', H' = tbOf H t V' (sendS ts1 x1 by_ ks).2 := by
  have h910 := fc910_eq
  refine XCall.le ?_
  have hself := hh.self
  have g1 : ∀ V' ts' L k, (tbOf H t V' ts' ++ L)[H.length + k]? = L[k]? := fun V' ts' L k => cat1 _ _ _ _ (tbOf_len _ _ _ _)
  have g2 : ∀ V' ts' L k x, (tbOf H t V' ts' ++ L).set (H.length + k) x = tbOf H t V' ts' ++ L.set k x := fun V' ts' L k x => cat2 _ _ _ _ _ (tbOf_len _ _ _ _)
  have cB := fun H' => zbegin_call (H := H') (t := t) hx
  have zA := sesV_sz hx (.sl 65 (x.skips.map skA))
  have hsA : sesA x = .st [32, 32, 32, 32, 32, 1, 1, 1, 1, 1] [keyA x.mine, keyA x.theirs, keyA x.root, keyA x.send, keyA x.recv, .lit (wn x.ns), .lit (wn x.nr), .lit (wn x.pn), .lit (.bool x.turn), .sl 65 (x.skips.map skA)] := rfl
  refine XCall.of h910 rfl ?_; show AC.wp _ fb910 ⟨H.length, [freeI t.b t.l, sesA x, .lit (tx draw), keyA by_, .sl 32 (klA ks)] ++ List.replicate (160 - 5) .any, H ++ List.replicate 160 none⟩ (fun x s => match x with | .exit _ => False | _ => ∃ s1, Le s s1 ∧ FinX [(.cell 10 .true 165), (.cell 11 .true 34), (.tmp 12), (.tmp 13)] s1 _); unfold fb910
  rw [← hself]
  rw [tbOf_len]
  generalize hN : H.length = N at *
  refine wp_sg (areg_bx rfl (by simp [AS.ev, hsA, AV.sz]) fun l6 => areg_bx rfl (by simp [AS.ev, AS.put, keyA, AV.sz, bl, hb]) fun l8 => areg_al' (z' := zsA) (by rw [zsA, zk_eq]) fun l10 => areg_al' (z' := zhA) (by rw [zhA, zk_eq]) fun l11 => areg_end (by simp [push_cast, g2]; exact rfl) ?_)
  refine wp_sgL ?_
  refine areg_run 2 (by simp [push_cast, g1, hsA]; exact rfl) ?_
  refine areg_xq (us := [freeI t.b t.l, sesA x]) rfl (tgt_beginZ _ _) (cB _) (BegZ.ex _ _ _) (fun r hp' hK t' ht' => by cases ht') ?_
  rintro r H' ⟨l, Vc, rfl, rfl⟩
  refine areg_end (by simp [push_cast]; exact rfl) ?_
  refine wp_place (N := N) (n := 160) (B := (tbOf H t V ts).length + 160) (l := l) (x := x) (Vc := Vc) (Lo := [none, none, none, none, none, none, some (.box l6 165 (sesA x)), none, some (.box l8 32 (keyA by_)), none, some (.box l10 165 zsA), some (.box l11 34 zhA)] ++ List.replicate 148 none) 14 0 (sndT N t l x draw by_ ks l6 l8 l10 l11) hN rfl rfl (by decide) (by decide) (by decide) ?_ ?_
  · simp [sndT, leA, RelLe.refl', RelLe.ptr', hsA, keyA, nSb]
  clear cB hself
  refine wp_seqM (fun y : Value × Value => ⟨N, sndT N t l x draw by_ ks l6 l8 l10 l11, tbOf H t y.1 ts1 ++ sndL N t l x by_ l6 l8 l10 l11 x1 y.2⟩) (fun _ => True) ?_ ?_
  rotate_left
  · unfold sndT
    rcases hT with ⟨ht, rfl, rfl⟩ | ⟨ht, hts, y, hy, rfl, rfl⟩
    · refine wp_seq' (wp_r (by simp [push_cast, g1, sbk, sdA, sesV]; exact rfl) ?_)
      refine wp_cond_f (by simp [AS.ev, ht]) (wp_skip' ?_)
      exact ⟨(V, Vc), trivial, Le.cat (by simp [leT] <;> exact .inr rfl) (by simp [sndL, leH, sbk, sdA, sesV, keyA])⟩
    · have hd32 := nameK_len (putN ts (drawT draw))
      have kd := draw_k hh (ts := ts) (by omega) (s := draw) (by omega)
      have lA := putT_len ts (drawT draw)
      generalize nameK (putN ts (drawT draw)) = mine at *
      generalize putT ts (drawT draw) = tsA at *
      have ka := agreeZ_k hh (ts := tsA) hts hd32 hx.theirs hy
      have hw32 := nameK_len (putN tsA y)
      have lB := putT_len tsA y
      generalize nameK (putN tsA y) = w at *
      generalize putT tsA y = tsB at *
      have kt := fun G V Vc (hG : StT G t ⟨N + 14, l, N + 0⟩ x Vc V tsB) => turn_call hG (by omega) hx hw32
      have n1 : (twoV tsB txTurn [x.root, w]).1.1.length = 32 := nameK_len _
      have n2 : (twoV tsB txTurn [x.root, w]).1.2.length = 32 := nameK_len _
      generalize twoV tsB txTurn [x.root, w] = tv at *
      obtain ⟨⟨r1, c1⟩, tsC⟩ := tv
      simp only at kt n1 n2 hn1 hx1 e1 e2 ⊢
      obtain ⟨x1', x2', x3', x4', x5', x6', x7', x8', x9', x10'⟩ := hx
      refine wp_seq' (wp_r (by simp [push_cast, g1, sbk, sdA, sesV]; exact rfl) ?_)
      refine wp_cond_t (by simp [AS.ev, ht]) ?_
      refine wp_sg ?_
      refine areg_run 5 (by simp [push_cast, g1, sbk, sdA]; exact rfl) ?_
      refine areg_k [freeI t.b t.l, .lit (tx draw)] hN rfl (tgt_drawI _ _ _) kd (by simp) (by simp) fun V1 => ?_
      refine areg_al' zk_eq.symm fun l15 => areg_end (by simp [push_cast, g1, g2, hd32]; exact rfl) ?_
      refine wp_sg ?_
      refine areg_run 10 (by simp [push_cast, g1, sbk, sdA, sesV, hd32, x2', freeI]; exact rfl) ?_
      refine areg_rdp (us := [freeI t.b t.l]) rfl (nilv_free _ _) ?_
      refine areg_run 1 (by simp [push_cast]; exact rfl) ?_
      refine areg_k [freeI t.b t.l, keyA mine, keyA x.theirs] hN rfl (tgt_agreeI _ _ _ _) ka (by simp) (by simp) fun V2 => ?_
      refine areg_run 3 (by simp [push_cast]; exact rfl) ?_
      refine areg_al' zk_eq.symm fun l16 => areg_end (by simp [push_cast, g1, g2, hw32]; exact rfl) ?_
      refine wp_seq' (wp_seq' (wp_r (by simp [push_cast]; exact rfl) ?_))
      refine wp_cond_f (by simp [AS.ev]) (wp_skip' ?_)
      refine wp_sg ?_
      refine areg_run 5 (by simp [push_cast, g1, hd32, hw32]; exact rfl) ?_
      refine areg_sb (x := x) (x' := { x with root := r1 }) (S := ⟨N + 14, l, N + 0⟩) (Vc := Vc) (p := 14) (q := 0) [.ptr (N + 14) l 0 [], keyA w] hh hN ⟨rfl, rfl, by decide, rfl, rfl⟩ rfl (tgt_turnZ _ _) kt (by simp [AS.ev, AV.place]) fun V3 Vc3 => ?_
      refine areg_end (by simp [push_cast, g1, g2, sbk, sdA, sesV, hd32, n2, x1', x4']; exact rfl) ?_
      refine wp_r (by simp [push_cast, g1, g2]; exact rfl) ?_
      exact ⟨(V3, Vc3), trivial, Le.cat (by simp [leT, keyA] <;> exact .inr rfl) (by simp [sndL, leH, sbk, sdA, sesV, keyA, turnX] <;> rfl)⟩
  · rintro ⟨V1, Vc1⟩ _
    unfold sndT
    have hx1' := hx1
    obtain ⟨x1', x2', x3', x4', x5', x6', x7', x8', x9', x10'⟩ := hx1
    clear hT
    have k2 := fun G V Vc (hG : StT G t ⟨N + 14, l, N + 0⟩ x1 Vc V ts1) => two_gen hG.tb (by omega) (s := txStep) (by simp [txStep]) (ks := [x1.send]) (by simp) (by simp [x4']) (I := zI ⟨N + 14, l, N + 0⟩) fun V' ts' L a b => tgt_zHash (((hG.st.tbOf V' ts').app L).hb) a b
    have n1 : (twoV ts1 txStep [x1.send]).1.1.length = 32 := nameK_len _
    have n2 : (twoV ts1 txStep [x1.send]).1.2.length = 32 := nameK_len _
    have n3 := twoV_len ts1 txStep [x1.send]
    unfold sendS
    generalize twoV ts1 txStep [x1.send] = tv at *
    obtain ⟨⟨key, next⟩, ts2⟩ := tv
    simp only at k2 n1 n2 n3 ⊢
    have kp := pub_k hh (ts := ts2) (by omega) x1'
    have n4 := nameK_len (putN ts2 (pubT x1.mine))
    have n5 := putT_len ts2 (pubT x1.mine)
    generalize nameK (putN ts2 (pubT x1.mine)) = pub at *
    generalize putT ts2 (pubT x1.mine) = ts3 at *
    have kb := fun G V Vc (hG : StT G t ⟨N + 14, l, N + 0⟩ { x1 with send := next, ns := x1.ns + 1 } Vc V ts3) => bind_call (h := ⟨pub, x1.ns, x1.pn⟩) (by_ := by_) hG (by omega) n4 hb (by simp only; omega) (by simp only; omega)
    have n6 := nameK_len (putN ts3 (bindT ⟨pub, x1.ns, x1.pn⟩ by_))
    have n7 := putT_len ts3 (bindT ⟨pub, x1.ns, x1.pn⟩ by_)
    generalize nameK (putN ts3 (bindT ⟨pub, x1.ns, x1.pn⟩ by_)) = bd at *
    generalize putT ts3 (bindT ⟨pub, x1.ns, x1.pn⟩ by_) = ts4 at *
    have ke := sealZ_k hh (ts := ts4) (by omega) (k := key) (b := bd) (s := []) (ks := ks) n1 n6 (by simp) (by omega) h32
    have n8 := nameK_len (putN ts4 (sealK key bd [] ks))
    generalize nameK (putN ts4 (sealK key bd [] ks)) = body at *
    generalize putT ts4 (sealK key bd [] ks) = ts5 at *
    have c1 : binVal .eql (wn x1.ns) (wn 4294967295) = some (.bool false) := by rw [bin_eqlw]; simp; omega
    have c2 := bin_addw x1.ns 1 (by omega)
    refine wp_seq' (wp_seq' (wp_r (by simp [push_cast, g1, sndL, sbk, sdA, sesV, c1]; exact rfl) ?_))
    refine wp_cond_f (by simp [AS.ev]) (wp_skip' ?_)
    refine wp_sg ?_
    refine areg_run 1 (by simp [push_cast]; exact rfl) ?_
    refine areg_rdp (us := [.ptr (N + 14) l 0 []]) rfl (mkifc_z _ _) ?_
    refine areg_run 5 (by simp [push_cast, g1, x4']; exact rfl) ?_
    refine areg_bsl (k := 32) (els := klA [x1.send]) (fill_ar rfl rfl rfl (by simp [AV.sz, AS.ev, AS.put, x4', bl_len]) rfl) ?_
    refine areg_sb0 (x := x1) (S := ⟨N + 14, l, N + 0⟩) (Vc := Vc1) (p := 14) (q := 0) [zI ⟨N + 14, l, N + 0⟩, .lit (tx txStep), .sl 32 (klA [x1.send])] hh hN ⟨rfl, rfl, by decide, rfl, rfl⟩ rfl (tgt_two _ _ _) k2 (by simp) fun V2 => ?_
    refine areg_run 3 (by simp [push_cast]; exact rfl) ?_
    refine areg_al' zk_eq.symm fun l18 => areg_al' zk_eq.symm fun l19 => areg_end (by simp [push_cast, g1, g2, n1, n2]; exact rfl) ?_
    refine wp_sg ?_
    refine areg_run 9 (by simp [push_cast, g1, x1', freeI]; exact rfl) ?_
    refine areg_rdp (us := [freeI t.b t.l]) rfl (nilv_free _ _) ?_
    refine areg_run 1 (by simp [push_cast]; exact rfl) ?_
    refine areg_k [freeI t.b t.l, keyA x1.mine] hN rfl (tgt_pubI _ _ _) kp (by simp) (by simp [AS.ev, AV.place]) fun V3 => ?_
    refine areg_run 10 (by simp [push_cast, g1]; exact rfl) ?_
    refine areg_bd (z' := headA ⟨pub, x1.ns, x1.pn⟩) (fill_st rfl rfl rfl rfl (by simp [AV.sz, AS.ev, AS.put, n4, bl_len, keyA]) (fill_st rfl rfl rfl rfl rfl (fill_st rfl rfl rfl rfl rfl rfl))) ?_
    refine areg_al' (z' := zhA) (by rw [zhA, zk_eq]) fun l20 => areg_end (by simp [push_cast, g1, g2, headA, n4, zhA, zk_len]; exact rfl) ?_
    refine wp_sr (by simp [push_cast, g1, g2, n2, x4']; exact rfl) ?_
    refine wp_sr (by simp [push_cast, g1, g2, c2]; exact rfl) ?_
    refine wp_sg ?_
    refine areg_run 11 (by simp [push_cast, g1, freeI, n1, n4, bl_len]; exact rfl) ?_
    refine areg_rdp (us := [.ptr (N + 14) l 0 []]) rfl (mkifc_z _ _) ?_
    refine areg_run 2 (by simp [push_cast, g1, hb, n4]; exact rfl) ?_
    refine areg_sb0 (x := { x1 with send := next, ns := x1.ns + 1 }) (S := ⟨N + 14, l, N + 0⟩) (Vc := Vc1) (p := 14) (q := 0) [zI ⟨N + 14, l, N + 0⟩, headA ⟨pub, x1.ns, x1.pn⟩, keyA by_] hh hN ⟨rfl, rfl, by decide, rfl, rfl⟩ rfl (tgt_bindZ _ _ _) kb (by simp [AS.ev, AV.place]) fun V4 => ?_
    refine areg_run 1 (by simp [push_cast]; exact rfl) ?_
    refine areg_rdp (us := [freeI t.b t.l]) rfl (nilv_free _ _) ?_
    refine areg_run 1 (by simp [push_cast]; exact rfl) ?_
    refine areg_k [freeI t.b t.l, keyA key, keyA bd, .lit (tx []), .sl 32 (klA ks)] hN rfl (tgt_sealI _ _ _ _ _ _) ke (by simp) (by simp [AS.ev, AV.place]) fun V5 => ?_
    refine areg_end (by simp [push_cast, g1, g2, n4, zsA, zhA, zk_len]; exact rfl) (wp_ret' ?_)
    refine ⟨_, Le.sealedF (b := N + 10) (j := N + 0) (n := 165) (i := 9) (e := 80) (esz := 65) (sl := 0) (l := l10) (ns := [32, 32, 32, 32, 32, 1, 1, 1, 1, 1]) (fs := [keyA x1.mine, keyA x1.theirs, keyA x1.root, keyA next, keyA x1.recv, .lit (wn (x1.ns + 1)), .lit (wn x1.nr), .lit (wn x1.pn), .lit (.bool x1.turn), .own (N + 0) Vc1]) (els := x1.skips.map skA) (V := Vc1) (by simp only [AS.blk, g1]; rfl) rfl (by simp only [AS.blk, g1]; rfl), ?_⟩
    refine ⟨[], _, ⟨_, rfl, by simp [AS.seals, RVals, RVal, AS.ev, AS.peek, AS.blk, g1, g2, Blk.loc, Blk.cont, Blk.n, AV.nav, AV.isAgg, AV.isTup, AS.coe]; rfl, by simp [headA, sesA, sesV]⟩, .tup [sesA { x1 with send := next, ns := x1.ns + 1 }, headA ⟨pub, x1.ns, x1.pn⟩, .lit (tx body), .lit (jn 0)], tbOf H t V5 ts5, RelLe.refl _, by simp, ?_, rfl, V5, (hh.of_of _ _ _ _).symm⟩
    simp only [AS.seals, g2]
    exact HpLe.trim _ _
end Go.Cab
namespace Go.Cab
open Go.RowKit
open Classical
def fb918 : AC := (.seq (.reg [⟨some 4, none, .mov (.const (jn 0)), [], none⟩]) (.seq (.seq (.reg [⟨some 6, none, .mov (.tmp 0), [], none⟩, ⟨some 7, none, .len false (.tmp 6), [], none⟩, ⟨some 8, none, .mov (.const (jn 0)), [], none⟩]) (.block 0 (.loop (.seq (.reg [⟨some 9, none, .bin .lss (.tmp 8) (.tmp 7), [], none⟩]) (.seq (.cond (.tmp 9) .skip (.exit 0)) (.seq (.block 1 (.seq (.reg [⟨some 10, none, .mov (.tmp 8), [], none⟩, ⟨some 5, none, .mov (.tmp 10), [], none⟩]) (.seq (.reg [⟨some 11, none, .mov (.tmp 1), [], none⟩, ⟨some 12, none, .mov (.tmp 0), [], none⟩, ⟨some 13, none, .mov (.tmp 5), [], none⟩, ⟨some 14, none, .iaddrS 65 (.tmp 12) (.tmp 13), [], none⟩, ⟨some 15, none, .load true 65 (.tmp 14), [], none⟩, ⟨some 16, none, .xc .val [.tmp 11, .tmp 15] [] [], [], none⟩]) (.cond (.tmp 16) (.seq (.reg [⟨some 17, none, .mov (.tmp 5), [], none⟩, ⟨some 4, none, .mov (.tmp 17), [], none⟩]) .ret) .skip)))) (.reg [⟨some 18, none, .bin .add (.tmp 8) (.const (jn 1)), [], none⟩, ⟨some 8, none, .mov (.tmp 18), [], none⟩]))))))) (.seq (.reg [⟨some 4, none, .mov (.const (.int .i64 (-1))), [], none⟩]) .ret)))
def fc918 : FC := ⟨2, 19, [(.tmp 4)], fb918⟩
theorem fc918_eq : compF Go.Proofs.Tryd.prog 23 = some fc918 := by kernel_rfl
def fb919 : AC := (.seq (.reg [⟨some 2, none, .box 65 (.tmp 0), [], none⟩, ⟨some 3, none, .mov (.const (.bool false)), [], none⟩]) (.seq (.reg [⟨some 4, none, .faddr 0 0 (.tmp 2), [], none⟩, ⟨some 5, none, .load true 32 (.tmp 4), [], none⟩, ⟨some 6, none, .faddr 0 0 (.tmp 1), [], none⟩, ⟨some 7, none, .load true 32 (.tmp 6), [], none⟩, ⟨some 8, none, .eqv 29 false (.tmp 5) (.tmp 7), [], none⟩, ⟨some 9, none, .mov (.tmp 8), [], none⟩, ⟨some 10, some (9, true), .faddr 32 1 (.tmp 2), [], none⟩, ⟨some 11, some (9, true), .load false 1 (.tmp 10), [], none⟩, ⟨some 12, some (9, true), .faddr 32 1 (.tmp 1), [], none⟩, ⟨some 13, some (9, true), .load false 1 (.tmp 12), [], none⟩, ⟨some 14, some (9, true), .bin .eql (.tmp 11) (.tmp 13), [], none⟩, ⟨some 15, none, .pick (.tmp 9) (.tmp 14) (.const (.bool false)), [], none⟩, ⟨some 3, none, .mov (.tmp 15), [], none⟩]) .ret))
def fc919 : FC := ⟨1, 16, [(.tmp 3)], fb919⟩
theorem fc919_eq : compF Go.Proofs.Tryd.prog 24 = some fc919 := by kernel_rfl
attribute [local irreducible] AReg
def idxQ {α : Type} (p : α → Bool) : List α → Nat → Option Nat
  | [], _ => none
  | k :: ks, i => if p k then some i else idxQ p ks (i + 1)
def skP (pub : List UInt8) (n : Nat) (s : SkV) : Bool := decide (s.pub = pub) && decide (s.n = n)
set_option maxHeartbeats 8000000 in
theorem skIs_call {H : List (Option Blk)} {c : Nat} {lc : Nat × Nat} {h : HeadV} (hc : H[c]? = some (some (.box lc 34 (headA h)))) (hp : h.pub.length = 32) {s : SkV} (hs : SkOk s) :
    XCall Go.Proofs.Tryd.prog 24 [skA s, .ptr c lc 0 []] H fun r H' => r = .lit (.bool (skP h.pub h.n s)) ∧ H' = H := by
  have h919 := fc919_eq
  refine XCall.le ?_
  have lcc := (List.getElem?_eq_some_iff.1 hc).1
  obtain ⟨pub, n, prev⟩ := h
  obtain ⟨pb, m, key⟩ := s
  obtain ⟨s1, s2, s3⟩ := hs
  simp only at hp s1 s2 s3
  have e1 := eq_key s1 hp
  have h2 : binVal .eql (wn m) (wn n) = some (.bool (decide (m = n))) := bin_eqlw _ _
  unfold skA skP
  unfold headA at hc
  simp only at hc ⊢
  generalize decide (m = n) = b2 at *
  generalize decide (pb = pub) = b1 at *
  refine XCall.ofC h919 (by show 2 ≤ 16; omega) ?_; show AC.wp _ fb919 ⟨H.length, [.st [32, 1, 32] [keyA pb, .lit (wn m), keyA key], .ptr c lc 0 []] ++ List.replicate (16 - 2) .any, H ++ List.replicate 16 none⟩ (fun x s => match x with | .exit _ => False | _ => ∃ s1, Le s s1 ∧ FinX [(.tmp 3)] s1 _); unfold fb919
  generalize hN : H.length = N at *
  have q1 : ∀ L k, (H ++ L)[N + k]? = L[k]? := fun L k => cat1 N H L k hN
  have q2 : ∀ L k x, (H ++ L).set (N + k) x = H ++ L.set k x := fun L k x => cat2 N H L k x hN
  have q3 := fun L => (cat4 N H L c hN lcc).trans hc
  refine wp_sg (areg_bx rfl rfl fun l => areg_end (by simp [push_cast, q2]; exact rfl) ?_)
  refine wp_sg ?_
  refine areg_run 4 (by simp [push_cast, q1, q3, s1, hp]; exact rfl) ?_
  refine areg_eq (by simp [AS.ev, AS.put] <;> exact rfl) (by simp [AS.ev, AS.put] <;> exact rfl) e1 rfl rfl ?_
  cases b1 with
  | false =>
    refine areg_end (by simp [push_cast, q1, q3, h2]; exact rfl) (wp_ret' ?_)
    exact ⟨_, Le.refl _, finX1 (v := .lit (.bool false)) (by simp [AS.seals, RVals, RVal, AS.ev, AS.coe]) (by simp) ⟨.lit (.bool false), H, RelLe.refl _, by simp, HpLe.trim _ _, by simp, rfl⟩⟩
  | true =>
    refine areg_end (by simp [push_cast, q1, q3, h2]; exact rfl) (wp_ret' ?_)
    exact ⟨_, Le.refl _, finX1 (v := .lit (.bool b2)) (by simp [AS.seals, RVals, RVal, AS.ev, AS.coe]) (by simp) ⟨.lit (.bool b2), H, RelLe.refl _, by simp, HpLe.trim _ _, by simp, rfl⟩⟩
def cloZ (c : Nat) (lc : Nat × Nat) : AV := .fnv (.func 24) [] [.ptr c lc 0 []]
theorem tgt_cloZ (c : Nat) (lc : Nat × Nat) (x : AV) : tgtA Go.Proofs.Tryd.prog .val [cloZ c lc, x] = some (24, [x, .ptr c lc 0 []]) := by kernel_rfl
theorem mkfn_cloZ (c : Nat) (lc : Nat × Nat) : rdA Go.Proofs.Tryd.prog (fun _ => none) (.mkfn (.func 24) 0) [.ptr c lc 0 []] = some (cloZ c lc) := by kernel_rfl
theorem tgt_idxZ (x y : AV) : tgtA Go.Proofs.Tryd.prog (.dir 23) [x, y] = some (23, [x, y]) := by kernel_rfl
set_option maxHeartbeats 8000000 in
theorem idxZ_call {H : List (Option Blk)} {c d : Nat} {lc : Nat × Nat} {h : HeadV} {l : List SkV} {Vd : Value} (hc : H[c]? = some (some (.box lc 34 (headA h)))) (hd : H[d]? = some (some (.row 80 Vd 65 (l.map skA) 0))) (hp : h.pub.length = 32) (hl : ∀ s ∈ l, SkOk s) (hks : l.length < 100000) :
    XCall Go.Proofs.Tryd.prog 23 [.own d Vd, cloZ c lc] H fun r H' => r = .lit (idxV (idxQ (skP h.pub h.n) l 0)) ∧ H' = H := by
  have h918 := fc918_eq
  refine XCall.le ?_
  have lcc := (List.getElem?_eq_some_iff.1 hc).1
  have ldd := (List.getElem?_eq_some_iff.1 hd).1
  have cc := fun L s (hs : SkOk s) => skIs_call (H := H ++ L) (s := s) (by rw [List.getElem?_append_left lcc]; exact hc) hp hs
  have hml : (l.map skA).length = l.length := List.length_map _
  have hget : ∀ i a, l[i]? = some a → (l.map skA)[i]? = some (skA a) := fun i a h => by rw [List.getElem?_map, h]; rfl
  generalize (l.map skA) = T at *
  refine XCall.of h918 rfl ?_; show AC.wp _ fb918 ⟨H.length, [.own d Vd, cloZ c lc] ++ List.replicate (19 - 2) .any, H ++ List.replicate 19 none⟩ (fun x s => match x with | .exit _ => False | _ => ∃ s1, Le s s1 ∧ FinX [(.tmp 4)] s1 _); unfold fb918
  generalize hN : H.length = N at *
  have pd : ∀ L, (H ++ L)[d]? = some (some (.row 80 Vd 65 T 0)) := fun L => (cat4 N H L d hN ldd).trans hd
  generalize hp0 : skP h.pub h.n = p at *
  refine wp_sr (by simp [push_cast]; exact rfl) ?_
  refine wp_seq' (wp_seq' (wp_r (by simp [push_cast, hml, pd]; exact rfl) ?_))
  refine wp_block' (wp_loop_m (fun i => ⟨N, [.own d Vd, cloZ c lc, .any, .any, .lit (jn 0), .any, .own d Vd, .lit (jn l.length), .lit (jn i)] ++ List.replicate 10 .any, H ++ List.replicate 19 none⟩) (fun i => l.length - i) (fun i => idxQ p (l.drop i) i = idxQ p l 0 ∧ i ≤ l.length) 0 ?_ ⟨rfl, by simp⟩ ?_)
  · exact Le.mk rfl (by simp [leT]) (leH_refl _)
  · rintro i ⟨hI, hi⟩
    simp only at hI hi ⊢
    by_cases hlt : i < l.length
    · obtain ⟨x, hx⟩ : ∃ x, l[i]? = some x := ⟨_, List.getElem?_eq_getElem hlt⟩
      have hdrop : l.drop i = x :: l.drop (i + 1) := by
        rw [List.drop_eq_getElem_cons hlt]
        rw [List.getElem?_eq_getElem hlt] at hx
        rw [Option.some.inj hx]
      rw [hdrop, idxQ] at hI
      have hxo := hl x (List.mem_of_getElem? hx)
      have c := fun L => cc L x hxo
      have g1 := hget i x hx
      have g2 : ∀ h, T[i]'h = skA x := fun h => by rw [List.getElem?_eq_getElem h] at g1; exact Option.some.inj g1
      have q1 : i + 1 < 9223372036854775808 := by omega
      refine wp_sr (by simp [push_cast, hlt]; exact rfl) (wp_seq' (wp_cond_t (by simp [AS.ev]) (wp_skip' ?_)))
      refine wp_seq' (wp_block' (wp_sr (by simp [push_cast]; exact rfl) ?_))
      refine wp_seq' (wp_rg ?_)
      refine areg_run 5 (by simp [push_cast, g1, g2, hlt, hml, pd, skA]; exact rfl) ?_
      refine areg_xq (us := [cloZ _ lc, skA x]) rfl (tgt_cloZ _ _ _) (c _) ⟨_, _, rfl, rfl⟩ (fun r hp' _ t' ht' => by cases ht') ?_
      rintro r H' ⟨rfl, rfl⟩
      refine areg_end (by simp [push_cast]; exact rfl) ?_
      by_cases hk : p x = true
      · rw [if_pos hk] at hI
        refine wp_cond_t (by simp [AS.ev, AS.put, hk]) ?_
        refine wp_sr (by simp [push_cast]; exact rfl) (wp_ret' ?_)
        exact ⟨_, Le.refl _, finX1 (v := .lit (jn i)) rfl (by simp) ⟨_, H, RelLe.refl _, by simp, HpLe.trim _ _, by rw [← hI]; rfl, rfl⟩⟩
      · rw [if_neg hk] at hI
        refine wp_cond_f (by simp [AS.ev, AS.put, hk]) (wp_skip' ?_)
        refine wp_r (by simp [push_cast, q1]; exact rfl) ?_
        exact Exists.intro (i + 1) ⟨⟨hI, by omega⟩, by omega, Le.mk rfl (by simp [leT]) (leH_refl _)⟩
    · have hin : i = l.length := by omega
      subst hin
      rw [List.drop_length, idxQ] at hI
      refine wp_sr (by simp [push_cast]; exact rfl) (wp_seq' (wp_cond_f (by simp [AS.ev]) (wp_exit' (if_hit rfl ?_))))
      refine wp_sr (by simp [push_cast]; exact rfl) (wp_ret' ?_)
      exact ⟨_, Le.refl _, finX1 (v := .lit (.int .i64 (-1))) rfl (by simp) ⟨_, H, RelLe.refl _, by simp, HpLe.trim _ _, by rw [← hI]; rfl, rfl⟩⟩
end Go.Cab
namespace Go.Cab
open Go.RowKit Go.Lib Go.Sort Go.Proofs
noncomputable def Zw : Array Value := Tryd.zeroCells80
theorem Zw_size : Zw.size = 65 := by kernel_rfl
theorem Zw_one : Zw.all (fun v => v.oneCell') = true := by kernel_rfl
noncomputable def zlw (n : Nat) : List Value := (Builtin.zeroCells Zw n).toList
theorem zlw_len (n : Nat) : (zlw n).length = n * 65 := by
  unfold zlw
  rw [Array.length_toList, size_zeroCells, Zw_size]
theorem zlw_one {n : Nat} {v : Value} (h : v ∈ zlw n) : v.oneCell' = true := by
  unfold zlw Builtin.zeroCells at h
  rw [Array.toList_map, List.mem_map] at h
  obtain ⟨i, _, rfl⟩ := h
  have hi : i % Zw.size < Zw.size := Nat.mod_lt _ (by rw [Zw_size]; decide)
  show (Zw[i % Zw.size]!).oneCell' = true
  rw [getElem!_pos Zw (i % Zw.size) hi]
  exact Array.all_eq_true.1 Zw_one _ hi
theorem run_clear65 (W : World) (ty : TypeId) (b o n c : Nat) (hn : 0 < n) (hc : ∀ j, j < n * 65 → (W.cell? ⟨b, o + j, none⟩).isSome = true) (hf : ∀ j, j < n * 65 → W.frozen? ⟨b, o + j, none⟩ = false) :
    (Builtin.clear_ #[31] ty #[.slice (some ⟨b, o, none⟩) n c]).run Tryd.prog W = .ok (.tuple #[]) (W.setCells b o (zlw n)) := by
  have hv : ∀ w, (zeroValue 80).run Tryd.prog w = .ok (.agg Zw) w := Tryd.zeroValue80
  have hst := run_storeCells_cells (P := Tryd.prog) b o (zlw n) 0 W (by simpa [zlw_len] using hc) (by simpa [zlw_len] using hf) (by intro v hv'; exact zlw_one hv')
  simp only [Nat.add_zero] at hst
  obtain ⟨m, rfl⟩ : ∃ m, n = m + 1 := ⟨n - 1, by omega⟩
  have hz : (Value.agg (Zw)).cells = Zw := rfl
  simp [Builtin.clear_, run_underlying Tryd.underlying31, hv, hz, show (Builtin.zeroCells Zw (m + 1)).toList = zlw (m + 1) from rfl, hst]
set_option maxHeartbeats 4000000 in
set_option maxRecDepth 1000000 in
theorem del_raw (g cap i j n : Nat) (cs : List Value) (w : World) (hlen : cs.length = n * 65) (hcell : ∀ k u, cs[k]? = some u → w.cell? ⟨g, 0 + k, none⟩ = some u) (hfz : ∀ k, k < n * 65 → w.frozen? ⟨g, 0 + k, none⟩ = false)
    (h1c : ∀ u ∈ cs, u.oneCell' = true) (hcap : n ≤ cap) (hm : cap ≤ 9223372036854775807) (hij : i < j) (hj : j ≤ n) :
    Calls Tryd.prog 25 #[.slice (some ⟨g, 0, none⟩) n cap, .int .i64 i, .int .i64 j] w fun e w' => e = .returned (.slice (some ⟨g, 0, none⟩) (i + (n - j)) cap) ∧
      w' = (w.drew.setCells g (i * 65) (cs.drop (j * 65))).setCells g ((i + (n - j)) * 65) (zlw (j - i)) := by
  have mixed : Tryd.prog.follows .mixedOrders = true := by kernel_rfl
  obtain ⟨i0, hi0, hz0, hz1, hz2⟩ := info_parts (P := Tryd.prog) (e := 80) (by kernel_rfl : (Tryd.prog.info? 80).map (fun i => (i.zero, i.size, i.bytes)) = some (some (.agg Zw), 65, 68))
  have t0 := @Tryd.underlying0; have t3 := @Tryd.underlying3; have t4 := @Tryd.underlying4; have t27 := @Tryd.underlying31
  have heq : i ≠ j := by omega
  obtain ⟨news, hnews⟩ : ∃ news, news = cs.drop (j * 65) := ⟨_, rfl⟩
  have hnl : news.length = (n - j) * 65 := by rw [hnews, List.length_drop, hlen]; omega
  have hget : ∀ t u, news[t]? = some u → w.cell? ⟨g, 0 + (j * 65 + t), none⟩ = some u := fun t u hu => by
    rw [hnews, List.getElem?_drop] at hu
    exact hcell _ _ hu
  obtain ⟨A, hA, hsrc⟩ : ∃ A : Addr, (if cap = j then some (⟨g, 0, none⟩ : Addr) else some ⟨g, j * 65, none⟩) = some A ∧ Hid (∀ t u, news[t]? = some u → w.drew.cell? (A.add t) = some u) := by
    by_cases h : cap = j
    · refine ⟨⟨g, 0, none⟩, by simp [h], fun t u hu => ?_⟩
      have h0 : news.length = 0 := by rw [hnl]; omega
      rw [List.length_eq_zero_iff.1 h0] at hu
      simp at hu
    · refine ⟨⟨g, j * 65, none⟩, by simp [h], fun t u hu => ?_⟩
      rw [Addr.add_lit]
      have := hget t u hu
      rwa [Nat.zero_add] at this
  have s1 : Hid (news.length = (n - j) * 65) := hnl
  have s2 : Hid (∀ u ∈ news, u.oneCell' = true) := by
    intro u hu
    rw [hnews] at hu
    exact h1c u (List.mem_of_mem_drop hu)
  have s3 : Hid (∀ t, t < news.length → (w.drew.cell? ⟨g, 0 + i * 65 + t, none⟩).isSome = true ∧ w.drew.frozen? ⟨g, 0 + i * 65 + t, none⟩ = false) := by
    intro t ht
    rw [hnl] at ht
    have hlt : i * 65 + t < cs.length := by omega
    refine ⟨?_, ?_⟩
    · rw [Nat.add_assoc]
      show (w.cell? _).isSome = true
      rw [hcell (i * 65 + t) _ (List.getElem?_eq_getElem hlt)]; rfl
    · rw [Nat.add_assoc]; exact hfz _ (by omega)
  obtain ⟨W1, hW1⟩ : ∃ W1, W1 = w.drew.setCells g (0 + i * 65) news := ⟨_, rfl⟩
  have hcl : ∀ ty, (Builtin.clear_ #[31] ty #[.slice (some ⟨g, (i + (n - j)) * 65, none⟩) (n - (i + (n - j))) (cap - (i + (n - j)))]).run Tryd.prog W1 = .ok (.tuple #[]) (W1.setCells g ((i + (n - j)) * 65) (zlw (n - (i + (n - j))))) := by
    intro ty
    refine run_clear65 W1 ty g _ _ _ (by omega) (fun t ht => ?_) (fun t ht => ?_)
    · rw [hW1]
      refine World.isSome_setCells g news _ _ _ ?_
      have hlt : (i + (n - j)) * 65 + t < cs.length := by omega
      have := hcell _ _ (List.getElem?_eq_getElem hlt)
      rw [Nat.zero_add] at this
      show (w.cell? _).isSome = true
      rw [this]; rfl
    · rw [hW1, World.frozen?_setCells]
      have := hfz ((i + (n - j)) * 65 + t) (by omega)
      rwa [Nat.zero_add] at this
  have X : Aside (W1 = w.drew.setCells g (0 + i * 65) news) := hW1
  have hW : Hid (W1 = w.drew.setCells g (0 + i * 65) news) := hW1
  have hN : Hid (news = cs.drop (j * 65)) := hnews
  have hic : i ≤ cap := by omega
  have hjc : j ≤ cap := by omega
  clear hW1 hcell hfz h1c hnews hnl hget hlen
  go_enter Tryd.func25, Tryd.ntmps25
  go_wp2_with fail
  go_region_law_o (refine step_append_room rfl (.tmp 22) (.tmp 25) 31 rfl 80 i0 65 t27 hi0 hz1 g 0 i cap (by simp [Act.eval, Act.put]) A (n - j) (cap - j) news (by simp [Act.eval, Act.put]) s1.out hsrc.out s2.out (by omega) s3.out ?_; rw [← hW.out])
  go_wp2
  go_ret
  refine ⟨rfl, ?_⟩
  rw [X.out, hN.out, show n - (i + (n - j)) = j - i by omega, Nat.zero_add]
theorem turnRow {w0 wk w w' : World} {regs : List (Nat × Nat × Nat)} {St Imm : Nat → Nat → Prop} {hp : List (Option Blk)} {c g : Nat} {x x' : Blk} (hfr : Fr regs w0 w) (h1 : ImmOk w0 wk St Imm w) (h3 : HeapOk w0 regs Imm hp w) (hb : (hp[c]?).join = some x)
    (hfx : ∀ b o, x.foot b o ↔ b = g) (hfx' : ∀ b o, x'.foot b o ↔ b = g) (hI : ∀ o, ¬ Imm g o) (hos : w'.os = w.os) (htp : w'.tape = w.tape) (hot : w'.output = w.output) (hsize : w'.heap.size = w.heap.size)
    (hoth : ∀ k, k ≠ g → w'.heap[k]? = w.heap[k]?) (hfro : ∀ k o, w'.frozen? ⟨k, o, none⟩ = w.frozen? ⟨k, o, none⟩) (hx' : x'.ok Imm w') : Fr regs w0 w' ∧ ImmOk w0 wk St Imm w' ∧ HeapOk w0 regs Imm (hp.set c (some x')) w' := by
  obtain ⟨hok, hfoot⟩ := h3.ok _ _ hb
  have hcell : ∀ k o, k ≠ g → w'.cell? ⟨k, o, none⟩ = w.cell? ⟨k, o, none⟩ := fun k o hk => by
    simp only [World.cell?, hoth k hk]
  have hImm : ∀ b o, Imm b o → w'.cell? ⟨b, o, none⟩ = w.cell? ⟨b, o, none⟩ := fun b o hb => hcell b o (fun he => hI o (he ▸ hb))
  have hreg : g < w0.heap.size → ∀ o, inReg regs g o := fun h o => ((hfoot g o ((hfx g o).2 rfl)).2.resolve_left (by omega))
  refine ⟨?_, ⟨h1.sub, h1.old, fun b o hb => by rw [hImm b o hb]; exact h1.there b o hb, fun b o hb => by rw [hImm b o (h1.sub b o hb)]; exact h1.val b o hb⟩, ⟨fun k y hy => ?_, fun k k' y z hne hy hz => ?_⟩⟩
  · refine ⟨hos.trans hfr.os, htp.trans hfr.tape, hot.trans hfr.output, by rw [hsize]; exact hfr.size, fun k hk hr => ?_, fun b o hlb hn => ?_, fun b o hlb => by rw [hfro]; exact hfr.frozen b o hlb⟩
    · rw [hoth k (fun he => ?_)]
      · exact hfr.block k hk hr
      · subst he
        obtain ⟨q, hq, e, _⟩ := hreg hk 0
        exact hr q hq e.symm
    · rw [hcell b o (fun he => ?_)]
      · exact hfr.cell b o hlb hn
      · subst he; exact hn (hreg hlb o)
  · rcases hp_set hy with ⟨rfl, rfl⟩ | ⟨hkb, hy'⟩
    · refine ⟨hx', fun b' o hf => ?_⟩
      obtain rfl := (hfx' b' o).1 hf
      rw [hsize]
      exact hfoot b' o ((hfx b' o).2 rfl)
    · obtain ⟨hyo, hyf⟩ := h3.ok k y hy'
      have hne : ∀ b' o, y.foot b' o → b' ≠ g := fun b' o hf he => by
        subst he
        exact h3.apart k c y x hkb hy' hb b' o hf ((hfx b' o).2 rfl)
      refine ⟨hyo.keep (fun _ _ h => h) hImm (fun _ _ _ h => h) (fun b' o hf => hcell b' o (hne b' o hf)) (fun b' o _ => hfro b' o) (fun b' hw => hoth b' (hne b' 0 (Blk.whole_foot hw 0))), fun b' o hf => by rw [hsize]; exact hyf b' o hf⟩
  · intro b' o hf hf'
    rcases hp_set hy with ⟨rfl, rfl⟩ | ⟨hkb, hy'⟩
    · rcases hp_set hz with ⟨rfl, rfl⟩ | ⟨hkb', hz'⟩
      · exact hne rfl
      · exact h3.apart _ k' x z hne hb hz' b' o ((hfx b' o).2 ((hfx' b' o).1 hf)) hf'
    · rcases hp_set hz with ⟨rfl, rfl⟩ | ⟨hkb', hz'⟩
      · exact h3.apart k _ y x hne hy' hb b' o hf ((hfx b' o).2 ((hfx' b' o).1 hf'))
      · exact h3.apart k k' y z hne hy' hz' b' o hf hf'
theorem wsetCells (b : Nat) : ∀ (vs : List Value) (o : Nat) (w : World), w.setCells b o vs = Cab.setCells b o vs w
  | [], _, _ => rfl
  | v :: vs, o, w => by rw [World.setCells, Cab.setCells, wsetCells b vs]
set_option maxHeartbeats 4000000 in
theorem delete_call {H : List (Option Blk)} {c i j e : Nat} {V : Value} {els : List AV} (hc : H[c]? = some (some (.row e V 65 els 0))) (hij : i < j) (hj : j ≤ els.length) :
    XCall Go.Proofs.Tryd.prog 25 [.own c V, .lit (jn i), .lit (jn j)] H fun r H' => ∃ V', r = .own c V' ∧ H' = H.set c (some (.row e V' 65 (els.take i ++ els.drop j) 0)) := by
  intro w0 w regs Imm Vs hfr hth hheap hargs
  match Vs, hargs with
  | [V0, V1, V2], ⟨a0, a1, a2, _⟩ =>
    obtain ⟨rfl, _⟩ := a1.lit
    obtain ⟨rfl, _⟩ := a2.lit
    have hV : V0 = V := by
      rcases a0 with h | ⟨cs, h, e⟩
      · cases h
      · cases h; exact e
    subst hV
    have hcj : (H[c]?).join = some (.row e V0 65 els 0) := by rw [hc]; rfl
    obtain ⟨⟨cs, hR, hown, hsV, _, hnI⟩, hfoot⟩ := hheap.ok c _ hcj
    obtain ⟨hlen, hown2⟩ := hown
    rcases hown2 with ⟨_, hn⟩ | ⟨g, cap, cur, rfl, h0, hg, hcapn, hcapm, hcs, htake⟩
    · omega
    have hscs : ∀ u ∈ cs, sc u = true := hR.scs rfl
    have hcellw : ∀ k, w.cell? ⟨g, k, none⟩ = cur[k]? := fun k => cell_of_row w g k cur e (0, 0) hg
    have hcur : ∀ k u, cs[k]? = some u → cur[k]? = some u := fun k u hu => by
      rw [← htake, List.getElem?_take] at hu
      split at hu
      · simpa using hu
      · cases hu
    have hraw := del_raw g cap i j els.length cs w hlen (fun k u hu => by rw [Nat.zero_add, hcellw]; exact hcur k u hu) (fun k hk => frozen_of_row w g _ cur e hg) (fun u hu => oneCell_of_sc (hscs u hu)) hcapn (by simp only [maxLen] at hcapm; omega) hij hj
    refine Calls.mono hraw ?_
    rintro e' w' ⟨rfl, rfl⟩
    rw [wsetCells, wsetCells]
    have hel : (els.take i ++ els.drop j).length = i + (els.length - j) := by rw [List.length_append, List.length_take, List.length_drop]; omega
    have hnl : (cs.drop (j * 65)).length = (els.length - j) * 65 := by rw [List.length_drop, hlen]; omega
    have hdrew : w.drew.heap[g]? = some (.cells cur e (0, 0)) := hg
    obtain ⟨cur1, hg1, hs1⟩ := setCells_heap_same g (cs.drop (j * 65)) (i * 65) w.drew cur e (0, 0) hdrew
    obtain ⟨cur2, hg2, hs2⟩ := setCells_heap_same g (zlw (j - i)) ((i + (els.length - j)) * 65) _ cur1 e (0, 0) hg1
    have hw2 := setCells_os g (zlw (j - i)) ((i + (els.length - j)) * 65) (Cab.setCells g (i * 65) (cs.drop (j * 65)) w.drew)
    have hw1 := setCells_os g (cs.drop (j * 65)) (i * 65) w.drew
    have hz2 := setCells_size g (zlw (j - i)) ((i + (els.length - j)) * 65) (Cab.setCells g (i * 65) (cs.drop (j * 65)) w.drew)
    have hz1 := setCells_size g (cs.drop (j * 65)) (i * 65) w.drew
    have hcell2 : ∀ k, k < (i + (els.length - j)) * 65 → (Cab.setCells g ((i + (els.length - j)) * 65) (zlw (j - i)) (Cab.setCells g (i * 65) (cs.drop (j * 65)) w.drew)).cell? ⟨g, k, none⟩ = (cs.take (i * 65) ++ cs.drop (j * 65))[k]? := fun k hk => by
      rw [setCells_out _ _ _ _ _ _ (.inr (.inl hk))]
      have hlt : (cs.take (i * 65)).length = i * 65 := by rw [List.length_take, hlen]; omega
      by_cases hki : k < i * 65
      · rw [setCells_out _ _ _ _ _ _ (.inr (.inl hki)), List.getElem?_append_left (by omega), List.getElem?_take, if_pos hki]
        have h2 : k < cs.length := by omega
        show w.cell? ⟨g, k, none⟩ = _
        rw [hcellw, List.getElem?_eq_getElem h2]
        exact hcur k _ (List.getElem?_eq_getElem h2)
      · obtain ⟨t, rfl⟩ : ∃ t, k = i * 65 + t := ⟨k - i * 65, by omega⟩
        have h2 : t < (cs.drop (j * 65)).length := by omega
        rw [List.getElem?_append_right (by omega), hlt, Nat.add_sub_cancel_left, List.getElem?_eq_getElem h2]
        refine setCells_in g _ _ _ (fun q hq => ?_) t _ (List.getElem?_eq_getElem h2)
        show (w.cell? _).isSome = true
        have h3 : i * 65 + q < cs.length := by omega
        rw [hcellw, hcur _ _ (List.getElem?_eq_getElem h3)]; rfl
    generalize hW2 : Cab.setCells g ((i + (els.length - j)) * 65) (zlw (j - i)) (Cab.setCells g (i * 65) (cs.drop (j * 65)) w.drew) = W2 at *
    have hoth : ∀ k, k ≠ g → W2.heap[k]? = w.heap[k]? := fun k hk => by
      rw [← hW2, setCells_heap_other _ _ _ _ _ hk, setCells_heap_other _ _ _ _ _ hk]; rfl
    have hfro : ∀ k o, W2.frozen? ⟨k, o, none⟩ = w.frozen? ⟨k, o, none⟩ := fun k o => by
      rw [← hW2, setCells_frozen, setCells_frozen]; rfl
    have hng : ∀ o, ¬ Imm g o := fun o => hnI g o rfl (by omega)
    have hImmW : ∀ b o, Imm b o → W2.cell? ⟨b, o, none⟩ = w.cell? ⟨b, o, none⟩ := fun b o hb => by
      have : b ≠ g := fun he => hng o (he ▸ hb)
      simp only [World.cell?, hoth b this]
    have hR' : R Imm W2 (.arr 65 (els.take i ++ els.drop j)) (cs.take (i * 65) ++ cs.drop (j * 65)) := (R.app (R_arr_drop i hR).2 (R_arr_drop j hR).1).mono (fun _ _ h => h) hImmW
    have hcl : (cs.take (i * 65) ++ cs.drop (j * 65)).length = (i + (els.length - j)) * 65 := by rw [List.length_append, List.length_take, hnl, hlen]; omega
    have hx' : (Blk.row e (.slice (some ⟨g, 0, none⟩) (i + (els.length - j)) cap) 65 (els.take i ++ els.drop j) 0).ok Imm W2 := by
      refine ⟨_, hR', ⟨by rw [hel]; exact hcl, .inr ⟨g, cap, cur2, by rw [hel], Nat.zero_le _, hg2, by rw [hel]; omega, hcapm, by rw [hs2, hs1]; exact hcs, ?_⟩⟩, rfl, Nat.zero_le _, fun b o hb _ => by
        have : g = b := by simpa [Value.ownBlock] using hb
        subst this
        exact hng o⟩
      rw [hel]
      apply List.ext_getElem?
      intro k
      rw [List.getElem?_take]
      by_cases hk : k < (i + (els.length - j)) * 65
      · rw [if_pos hk, ← hcell2 k hk, cell_of_row W2 g k cur2 e (0, 0) hg2]
        simp
      · rw [if_neg hk, List.getElem?_eq_none (by omega)]
    have hf0 : ∀ (n' : Nat) (es : List AV) (b o : Nat), (Blk.row e (.slice (some ⟨g, 0, none⟩) n' cap) 65 es 0).foot b o ↔ b = g := fun n' es b o => by
      simp only [Blk.foot, Value.ownBlock, Option.map_some, Option.some.injEq]
      exact eq_comm
    obtain ⟨f1, f2, f3⟩ := turnRow (wk := w) (St := Imm) hfr ⟨fun _ _ h => h, fun _ _ h _ => h, hth.there, fun _ _ _ => rfl⟩ hheap hcj (hf0 _ _) (hf0 (i + (els.length - j)) (els.take i ++ els.drop j)) hng (hw2.1.trans hw1.1) (hw2.2.1.trans hw1.2.1) (hw2.2.2.trans hw1.2.2) (hz2.trans hz1) hoth hfro hx'
    exact ⟨_, .own c (.slice (some ⟨g, 0, none⟩) (i + (els.length - j)) cap), _, Imm, rfl, ⟨_, rfl, rfl⟩, f1, f2, .inr ⟨_, .own c _ rfl, rfl⟩, by simp, f3⟩
end Go.Cab
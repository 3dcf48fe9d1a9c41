/- Part 9 of what the proof stands on: H4, H5, H6, H7, H8. -/
import Derived.Test.YtbioecfkifbkbaaDoorCab08
import Derived.Test.YtbioecfkifbkbaaDoorCab06
set_option linter.unusedSimpArgs false
set_option linter.unnecessarySimpa false
set_option linter.unusedVariables false
set_option linter.unusedSectionVars false
/- Frame and kit: a new list upon the caller's blocks; numbers' texts; label, By; Two. -/
-- TEXTS
-- KIT
namespace Go.Cab
open Go.RowKit
open Classical
def fb543 : AC := (.seq (.reg [⟨(.some 2), .none, (.mov (.const (tx []))), [], .none⟩]) (.seq (.seq (.reg [⟨(.some 3), .none, (.mov (.tmp 0)), [], .none⟩, ⟨(.some 4), .none, (.bin .lss (.tmp 3) (.const (jn 10))), [], .none⟩]) (.cond (.tmp 4) (.seq (.reg [⟨(.some 5), .none, (.mov (.tmp 0)), [], .none⟩, ⟨(.some 6), .none, (.mov (.tmp 0)), [], .none⟩, ⟨(.some 7), .none, (.bin .add (.tmp 6) (.const (jn 1))), [], .none⟩, ⟨(.some 8), .none, (.prim (.ssub .true .true) [(.const (tx [48, 49, 50, 51, 52, 53, 54, 55, 56, 57, 97, 98, 99, 100, 101, 102, 103, 104, 105, 106, 107, 108, 109, 110, 111, 112, 113, 114, 115, 116, 117, 118, 119, 120, 121, 122])), (.tmp 5), (.tmp 7)]), [], .none⟩, ⟨(.some 2), .none, (.mov (.tmp 8)), [], .none⟩]) .ret) .skip)) (.seq (.reg [⟨(.some 9), .none, (.mov (.tmp 0)), [], .none⟩, ⟨(.some 10), .none, (.bin .mul (.tmp 9) (.const (jn 2))), [], .none⟩, ⟨(.some 11), .none, (.mov (.tmp 0)), [], .none⟩, ⟨(.some 12), .none, (.bin .mul (.tmp 11) (.const (jn 2))), [], .none⟩, ⟨(.some 13), .none, (.bin .add (.tmp 12) (.const (jn 2))), [], .none⟩, ⟨(.some 14), .none, (.prim (.ssub .true .true) [(.const (tx [48, 48, 48, 49, 48, 50, 48, 51, 48, 52, 48, 53, 48, 54, 48, 55, 48, 56, 48, 57, 49, 48, 49, 49, 49, 50, 49, 51, 49, 52, 49, 53, 49, 54, 49, 55, 49, 56, 49, 57, 50, 48, 50, 49, 50, 50, 50, 51, 50, 52, 50, 53, 50, 54, 50, 55, 50, 56, 50, 57, 51, 48, 51, 49, 51, 50, 51, 51, 51, 52, 51, 53, 51, 54, 51, 55, 51, 56, 51, 57, 52, 48, 52, 49, 52, 50, 52, 51, 52, 52, 52, 53, 52, 54, 52, 55, 52, 56, 52, 57, 53, 48, 53, 49, 53, 50, 53, 51, 53, 52, 53, 53, 53, 54, 53, 55, 53, 56, 53, 57, 54, 48, 54, 49, 54, 50, 54, 51, 54, 52, 54, 53, 54, 54, 54, 55, 54, 56, 54, 57, 55, 48, 55, 49, 55, 50, 55, 51, 55, 52, 55, 53, 55, 54, 55, 55, 55, 56, 55, 57, 56, 48, 56, 49, 56, 50, 56, 51, 56, 52, 56, 53, 56, 54, 56, 55, 56, 56, 56, 57, 57, 48, 57, 49, 57, 50, 57, 51, 57, 52, 57, 53, 57, 54, 57, 55, 57, 56, 57, 57])), (.tmp 10), (.tmp 13)]), [], .none⟩, ⟨(.some 2), .none, (.mov (.tmp 14)), [], .none⟩]) .ret)))
def fc543 : FC := ⟨1, 15, [(.tmp 2)], fb543⟩
theorem fc543_eq : compF Go.Proofs.Tryd.prog 61 = some fc543 := by kernel_rfl
def fb542 : AC := (.seq (.reg [⟨(.some 4), .none, (.mov (.const (tx []))), [], .none⟩]) (.seq (.seq (.reg [⟨(.some 10), .none, (.mov (.tmp 1)), [], .none⟩, ⟨(.some 11), .none, (.bin .eql (.tmp 10) (.const (jn 10))), [], .none⟩]) (.cond (.tmp 11) (.seq (.seq (.reg [⟨(.some 12), .none, (.mov (.tmp 0)), [], .none⟩, ⟨(.some 13), .none, (.bin .leq (.const (jn 0)) (.tmp 12)), [], .none⟩, ⟨(.some 14), .none, (.mov (.tmp 13)), [], .none⟩, ⟨(.some 15), (.some (14, .true)), (.mov (.tmp 0)), [], .none⟩, ⟨(.some 16), (.some (14, .true)), (.bin .lss (.tmp 15) (.const (jn 100))), [], .none⟩, ⟨(.some 17), .none, (.pick (.tmp 14) (.tmp 16) (.const (.bool .false))), [], .none⟩]) (.cond (.tmp 17) (.seq (.reg [⟨(.some 18), .none, (.mov (.tmp 0)), [], .none⟩, ⟨(.some 19), .none, (.call 61 [(.tmp 18)]), [], .none⟩, ⟨(.some 4), .none, (.mov (.tmp 19)), [], .none⟩]) .ret) .skip)) (.seq (.reg [⟨(.some 5), .none, (.alloc 24 (.arr 1 (List.replicate 24 (.lit (bn 0))))), [], .none⟩]) (.seq (.reg [⟨(.some 20), .none, (.mov (.tmp 0)), [], .none⟩, ⟨(.some 21), .none, (.cvt .u64 (.tmp 20)), [], .none⟩, ⟨(.some 6), .none, (.mov (.tmp 21)), [], .none⟩]) (.seq (.seq (.reg [⟨(.some 22), .none, (.mov (.tmp 0)), [], .none⟩, ⟨(.some 23), .none, (.bin .lss (.tmp 22) (.const (jn 0))), [], .none⟩]) (.cond (.tmp 23) (.reg [⟨(.some 24), .none, (.mov (.tmp 6)), [], .none⟩, ⟨(.some 25), .none, (.un .neg (.tmp 24)), [], .none⟩, ⟨(.some 6), .none, (.mov (.tmp 25)), [], .none⟩]) .skip)) (.seq (.reg [⟨(.some 26), .none, (.mov (.tmp 6)), [], .none⟩, ⟨(.some 27), .none, (.call 62 [(.tmp 26)]), [], .none⟩, ⟨(.some 7), .none, (.mov (.tmp 27)), [], .none⟩]) (.seq (.reg [⟨(.some 28), .none, (.mov (.tmp 7)), [], .none⟩, ⟨(.some 29), .none, (.bin .add (.const (jn 1)) (.tmp 28)), [], .none⟩, ⟨(.some 30), .none, (.rdp (.vslice 1 24 .true .true) [(.tmp 5), (.const (jn 1)), (.tmp 29)]), [], .none⟩, ⟨(.some 31), .none, (.mov (.tmp 6)), [], .none⟩, ⟨(.some 32), .none, (.xc (.dir 63) [(.tmp 30), (.tmp 31)] [] []), [], .none⟩]) (.seq (.seq (.reg [⟨(.some 33), .none, (.mov (.tmp 0)), [], .none⟩, ⟨(.some 34), .none, (.bin .lss (.tmp 33) (.const (jn 0))), [], .none⟩]) (.cond (.tmp 34) (.seq (.reg [⟨(.some 35), .none, (.iaddrA 24 1 (.tmp 5) (.const (jn 0))), [], .none⟩, ⟨.none, .none, (.store 1 (.tmp 35) (.const (bn 45))), [], .none⟩]) (.seq (.reg [⟨(.some 36), .none, (.mov (.tmp 7)), [], .none⟩, ⟨(.some 37), .none, (.bin .add (.const (jn 1)) (.tmp 36)), [], .none⟩, ⟨(.some 38), .none, (.rdp (.vslice 1 24 .false .true) [(.tmp 5), (.tmp 37)]), [], .none⟩, ⟨(.some 39), .none, (.rd .b2sv [(.tmp 38)]), [], .none⟩, ⟨(.some 4), .none, (.mov (.tmp 39)), [], .none⟩]) .ret)) .skip)) (.seq (.reg [⟨(.some 40), .none, (.mov (.tmp 7)), [], .none⟩, ⟨(.some 41), .none, (.bin .add (.const (jn 1)) (.tmp 40)), [], .none⟩, ⟨(.some 42), .none, (.rdp (.vslice 1 24 .true .true) [(.tmp 5), (.const (jn 1)), (.tmp 41)]), [], .none⟩, ⟨(.some 43), .none, (.rd .b2sv [(.tmp 42)]), [], .none⟩, ⟨(.some 4), .none, (.mov (.tmp 43)), [], .none⟩]) .ret)))))))) .skip)) (.seq (.reg [⟨(.some 45), .none, (.mov (.tmp 0)), [], .none⟩, ⟨(.some 46), .none, (.cvt .u64 (.tmp 45)), [], .none⟩, ⟨(.some 47), .none, (.mov (.tmp 1)), [], .none⟩, ⟨(.some 48), .none, (.mov (.tmp 0)), [], .none⟩, ⟨(.some 49), .none, (.bin .lss (.tmp 48) (.const (jn 0))), [], .none⟩, ⟨(.some 50), .none, (.call 64 [(.const (.slice .none 0 0)), (.tmp 46), (.tmp 47), (.tmp 49), (.const (.bool .false))]), [], .none⟩, ⟨(.some 44), .none, (.mov (.tmp 50)), [], .none⟩, ⟨(.some 51), .none, (.ext (.tmp 44) 0), [], .none⟩, ⟨(.some 52), .none, (.ext (.tmp 44) 1), [], .none⟩, ⟨(.some 8), .none, (.mov (.tmp 51)), [], .none⟩, ⟨(.some 9), .none, (.mov (.tmp 52)), [], .none⟩]) (.seq (.reg [⟨(.some 53), .none, (.mov (.tmp 9)), [], .none⟩, ⟨(.some 4), .none, (.mov (.tmp 53)), [], .none⟩]) .ret))))
def fc542 : FC := ⟨2, 54, [(.tmp 4)], fb542⟩
theorem fc542_eq : compF Go.Proofs.Tryd.prog 59 = some fc542 := by kernel_rfl
def fb538 : AC := (.seq (.reg [⟨(.some 2), .none, (.mov (.const (tx []))), [], .none⟩]) (.seq (.reg [⟨(.some 3), .none, (.mov (.tmp 0)), [], .none⟩, ⟨(.some 4), .none, (.call 59 [(.tmp 3), (.const (jn 10))]), [], .none⟩, ⟨(.some 2), .none, (.mov (.tmp 4)), [], .none⟩]) .ret))
def fc538 : FC := ⟨1, 5, [(.tmp 2)], fb538⟩
theorem fc538_eq : compF Go.Proofs.Tryd.prog 52 = some fc538 := by kernel_rfl
def fb528 : AC := (.seq (.reg [⟨(.some 2), .none, (.mov (.const (tx []))), [], .none⟩]) (.seq (.reg [⟨(.some 3), .none, (.mov (.tmp 0)), [], .none⟩, ⟨(.some 4), .none, (.call 52 [(.tmp 3)]), [], .none⟩, ⟨(.some 2), .none, (.mov (.tmp 4)), [], .none⟩]) .ret))
def fc528 : FC := ⟨1, 5, [(.tmp 2)], fb528⟩
theorem fc528_eq : compF Go.Proofs.Tryd.prog 39 = some fc528 := by kernel_rfl
def fb522 : AC := (.seq (.reg [⟨(.some 1), .none, (.box 71 (.tmp 0)), [], .none⟩, ⟨(.some 2), .none, (.mov (.const (tx []))), [], .none⟩]) (.seq (.reg [⟨(.some 3), .none, (.mov (.const (tx [111, 112]))), [], .none⟩]) (.seq (.seq (.reg [⟨(.some 6), .none, (.faddr 3 3 (.tmp 1)), [], .none⟩, ⟨(.some 7), .none, (.load .false 1 (.tmp 6)), [], .none⟩, ⟨(.some 8), .none, (.faddr 0 0 (.tmp 1)), [], .none⟩, ⟨(.some 9), .none, (.load .false 1 (.tmp 8)), [], .none⟩, ⟨(.some 10), .none, (.faddr 1 1 (.tmp 1)), [], .none⟩, ⟨(.some 11), .none, (.load .false 1 (.tmp 10)), [], .none⟩, ⟨(.some 12), .none, (.cvt .i64 (.tmp 11)), [], .none⟩, ⟨(.some 13), .none, (.ef (.bown 3 1 (.lit (jn 0)) 3 [0, 1, 2]) [(.tmp 7), (.tmp 9), (.tmp 12)]), [], .none⟩, ⟨(.some 14), .none, (.faddr 4 4 (.tmp 1)), [], .none⟩, ⟨(.some 15), .none, (.load .false 1 (.tmp 14)), [], .none⟩, ⟨(.some 16), .none, (.append 3 1 8 (.tmp 13) (.tmp 15)), [], .none⟩, ⟨(.some 17), .none, (.len .false (.tmp 16)), [], .none⟩, ⟨(.some 18), .none, (.mov (.const (jn 0))), [], .none⟩]) (.block 0 (.loop (.seq (.reg [⟨(.some 19), .none, (.bin .lss (.tmp 18) (.tmp 17)), [], .none⟩]) (.seq (.cond (.tmp 19) .skip (.exit 0)) (.seq (.block 1 (.seq (.reg [⟨(.some 20), .none, (.iaddrS 1 (.tmp 16) (.tmp 18)), [], .none⟩, ⟨(.some 21), .none, (.load .false 1 (.tmp 20)), [], .none⟩, ⟨(.some 5), .none, (.mov (.tmp 21)), [], .none⟩]) (.reg [⟨(.some 22), .none, (.mov (.tmp 3)), [], .none⟩, ⟨(.some 23), .none, (.mov (.tmp 5)), [], .none⟩, ⟨(.some 24), .none, (.call 39 [(.tmp 23)]), [], .none⟩, ⟨(.some 25), .none, (.bin .add (.const (tx [32])) (.tmp 24)), [], .none⟩, ⟨(.some 26), .none, (.bin .add (.tmp 22) (.tmp 25)), [], .none⟩, ⟨(.some 3), .none, (.mov (.tmp 26)), [], .none⟩]))) (.reg [⟨(.some 27), .none, (.bin .add (.tmp 18) (.const (jn 1))), [], .none⟩, ⟨(.some 18), .none, (.mov (.tmp 27)), [], .none⟩]))))))) (.seq (.reg [⟨(.some 28), .none, (.mov (.tmp 3)), [], .none⟩, ⟨(.some 2), .none, (.mov (.tmp 28)), [], .none⟩]) .ret))))
def fc522 : FC := ⟨1, 29, [(.tmp 2)], fb522⟩
theorem fc522_eq : compF Go.Proofs.Tryd.prog 29 = some fc522 := by kernel_rfl
def fb519 : AC := (.seq (.reg [⟨(.some 3), .none, (.box 71 (.tmp 1)), [], .none⟩, ⟨(.some 4), .none, (.alloc 32 (.arr 1 (List.replicate 32 (.lit (bn 0))))), [], .none⟩]) (.seq (.seq (.reg [⟨(.some 5), .none, (.load .true 71 (.tmp 3)), [], .none⟩, ⟨(.some 6), .none, (.call 27 [(.tmp 5)]), [], .none⟩, ⟨(.some 7), .none, (.un .not (.tmp 6)), [], .none⟩]) (.cond (.tmp 7) (.seq (.reg [⟨(.some 8), .none, (.build (.arr 1 (List.replicate 32 (.lit (bn 0)))) []), [], .none⟩, ⟨.none, .none, (.store 32 (.tmp 4) (.tmp 8)), [], .none⟩]) .ret) .skip)) (.seq (.reg [⟨(.some 9), .none, (.mov (.tmp 0)), [], .none⟩, ⟨(.some 10), .none, (.load .true 71 (.tmp 3)), [], (.some 3)⟩, ⟨(.some 11), .none, (.callv 29 [(.tmp 10)]), [], (.some 1000000)⟩, ⟨(.some 12), .none, (.faddr 2 2 (.tmp 3)), [], .none⟩, ⟨(.some 13), .none, (.load .false 1 (.tmp 12)), [], (.some 3)⟩, ⟨(.some 14), .none, (.xc (.dir 24) [(.tmp 13)] [3] []), [], .none⟩, ⟨(.some 15), .none, (.faddr 5 5 (.tmp 3)), [], .none⟩, ⟨(.some 16), .none, (.load .true 32 (.tmp 15)), [], (.some 3)⟩, ⟨(.some 17), .none, (.build (.arr 1 (List.replicate 32 (.lit (bn 0)))) []), [], .none⟩, ⟨(.some 18), .none, (.bslice 32 (.arr 1 (List.replicate 32 (.lit (bn 0)))) 2 [(0, (.tmp 16)), (1, (.tmp 17))]), [], .none⟩, ⟨(.some 19), .none, (.append 29 32 32 (.tmp 14) (.tmp 18)), [], .none⟩, ⟨(.some 20), .none, (.rdp (.mkfn (.method "Hash") 1) [(.tmp 9)]), [], .none⟩, ⟨(.some 21), .none, (.rdp .nilv [(.tmp 20)]), [], .none⟩, ⟨(.some 22), .none, (.mov (.tmp 9)), [], .none⟩, ⟨(.some 23), .none, (.xc (.inv "Hash") [(.tmp 22), (.tmp 11), (.tmp 19)] [] []), [], .none⟩, ⟨.none, .none, (.store 32 (.tmp 4) (.tmp 23)), [], .none⟩]) .ret)))
def fc519 : FC := ⟨2, 24, [(.cell 4 .true 32)], fb519⟩
theorem fc519_eq : compF Go.Proofs.Tryd.prog 19 = some fc519 := by kernel_rfl
def fb515 : AC := (.seq (.reg [⟨(.some 6), .none, (.alloc 32 (.arr 1 (List.replicate 32 (.lit (bn 0))))), [], .none⟩, ⟨(.some 7), .none, (.alloc 32 (.arr 1 (List.replicate 32 (.lit (bn 0))))), [], .none⟩]) (.seq (.reg [⟨(.some 8), .none, (.mov (.tmp 0)), [], .none⟩, ⟨(.some 9), .none, (.mov (.tmp 1)), [], .none⟩, ⟨(.some 10), .none, (.bin .add (.tmp 9) (.const (tx [47, 49]))), [], .none⟩, ⟨(.some 11), .none, (.mov (.tmp 2)), [], .none⟩, ⟨(.some 12), .none, (.xc (.inv "Hash") [(.tmp 8), (.tmp 10), (.tmp 11)] [] []), [], .none⟩, ⟨(.some 13), .none, (.mov (.tmp 0)), [], .none⟩, ⟨(.some 14), .none, (.mov (.tmp 1)), [], .none⟩, ⟨(.some 15), .none, (.bin .add (.tmp 14) (.const (tx [47, 50]))), [], .none⟩, ⟨(.some 16), .none, (.mov (.tmp 2)), [], .none⟩, ⟨(.some 17), .none, (.xc (.inv "Hash") [(.tmp 13), (.tmp 15), (.tmp 16)] [] []), [], .none⟩, ⟨.none, .none, (.store 32 (.tmp 6) (.tmp 12)), [], .none⟩, ⟨.none, .none, (.store 32 (.tmp 7) (.tmp 17)), [], .none⟩]) .ret))
def fc515 : FC := ⟨3, 18, [(.cell 6 .true 32), (.cell 7 .true 32)], fb515⟩
theorem fc515_eq : compF Go.Proofs.Tryd.prog 12 = some fc515 := by kernel_rfl

/-- A new list is laid behind the caller's blocks. -/
theorem PCall.xrow {P : Program} {f : FuncId} {args : List AV} {e esz : Nat} {els : List AV} (H : List (Option Blk)) (h : PCall P f args (.row e esz els)) : XCall P f args H fun r H' => ∃ V, r = .own H.length V ∧ H' = H ++ [some (.row e V esz els 0)] := by
  intro w0 w regs Imm0 Vs hfr hth hheap hargs
  refine Calls.mono (h w Imm0 Vs ⟨hth.there, (hth.tab.go hfr).none⟩ hargs) ?_
  rintro e' w' ⟨V, Imm, he, hfr', hI, hsc, cs, hR, hown, hm⟩
  have hg : ∀ g, V.ownBlock = some g → w.heap.size ≤ g ∧ g < w'.heap.size := fun g hg => hown.lt g hg
  have hH := hheap.grow hfr' hI.sub hI.old hth.there
  have hget : ∀ (k : Nat) (x : Blk), ((H ++ [none])[k]?).join = some x → (H[k]?).join = some x := fun k x hx => by
    by_cases hk : k < H.length
    · rwa [List.getElem?_append_left hk] at hx
    · rw [List.getElem?_append_right (by omega)] at hx
      cases hk' : k - H.length with
      | zero => rw [hk'] at hx; simp at hx
      | succ n => rw [hk'] at hx; simp at hx
  have hH' : HeapOk w0 regs Imm (H ++ [none]) w' := ⟨fun k x hx => hH.ok k x (hget k x hx), fun k k' x y hne hx hy => hH.apart k k' x y hne (hget k x hx) (hget k' y hy)⟩
  refine ⟨V, .own H.length V, H ++ [some (.row e V esz els 0)], Imm, he, ⟨V, rfl, rfl⟩, hfr.trans (hfr'.any _), ⟨hI.sub, fun b o hb hlt => hI.old b o hb (Nat.lt_of_lt_of_le hlt hfr.size), hI.there, hI.val⟩, .inr ⟨_, .own _ V hsc, rfl⟩, by simp, ?_⟩
  have e1 : H ++ [some (Blk.row e V esz els 0)] = (H ++ [none]).set H.length (some (.row e V esz els 0)) := by simp
  rw [e1]
  refine hH'.lay (Blk.rowOk hR (ownsRow_base hown (fun _ _ => Nat.zero_le _)) hsc (Nat.zero_le _) fun g hg' o _ => hm g hg' o) (fun b o hf => ⟨(hg b hf).2, Nat.le_trans hfr.size (hg b hf).1⟩) fun k y _ hy b o hf hfy => ?_
  have := ((hheap.ok k y (hget k y hy)).2 b o hfy).1
  have := (hg b hf).1
  omega

theorem argsOk_of {Imm : Nat → Nat → Prop} {w : World} : ∀ {vs : List AV} {Vs : List Value}, vs.length = Vs.length → (∀ (t : Nat) (v : AV), vs[t]? = some v → Rel Imm w v (Vs.toArray.getD t undef)) → ArgsOk Imm w vs Vs
  | [], [], _, _ => trivial
  | v :: vs, V :: Vs, h, k => ⟨by simpa using k 0 v rfl, argsOk_of (by simpa using h) fun t u hu => by simpa using k (t + 1) u (by simpa using hu)⟩
  | [], _ :: _, h, _ => by simp at h
  | _ :: _, [], h, _ => by simp at h
/-- A call upon blocks that may be taken for others. -/
theorem XCall.ofLe {P : Program} {f : FuncId} {vs vs' : List AV} {H H2 : List (Option Blk)} {K : AV → List (Option Blk) → Prop} (hle : Le ⟨0, vs, H⟩ ⟨0, vs', H2⟩) (hl : vs'.length = vs.length) (h : XCall P f vs' H2 K) : XCall P f vs H K := by
  intro w0 w regs Imm0 Vs hfr hth hheap hargs
  obtain ⟨hlen, hget⟩ := argsOk_len hargs
  have hS : SRel w0 w regs Imm0 ⟨0, vs, H⟩ { tmps := Vs.toArray, defers := [] } w := by
    refine ⟨rfl, by simp [hlen], hth.tab, hfr, Imm0, ⟨fun _ _ h => h, fun _ _ h _ => h, hth.there, fun _ _ _ => rfl⟩, fun t v hv => ?_, hheap⟩
    obtain ⟨V, hV, hr⟩ := hget t v hv
    have : Vs.toArray.getD t undef = V := by
      obtain ⟨h1, h2⟩ := List.getElem?_eq_some_iff.1 hV
      simp [Array.getD, h1, h2]
    rw [this]; exact hr
  obtain ⟨Imm, i1, i2, i3⟩ := (hle _ _ _ _ _ _ hS).ex
  have hargs' : ArgsOk Imm w vs' Vs := argsOk_of (by rw [hl, hlen]) fun t v hv => i2 t v hv
  refine Calls.mono (h w0 w regs Imm Vs hfr ⟨i1.there, hth.tab⟩ i3 hargs') ?_
  rintro e w' ⟨V, r, hp', Imm', he, hk, g1, g2, g3, g4, g5⟩
  exact ⟨V, r, hp', Imm', he, hk, g1, ⟨fun b o hb => g2.sub b o (i1.sub b o hb), fun b o hb hlt => i1.old b o (g2.old b o hb hlt) hlt, g2.there, fun b o hb => g2.val b o (i1.sub b o hb)⟩, g3, g4, g5⟩

/-! ### Numbers' texts -/
def dec2 (n : Nat) : List UInt8 := if n < 10 then [dig8 n] else [dig8 (n / 10), dig8 (n % 10)]
theorem dec2_len (n : Nat) : (dec2 n).length ≤ 2 := by unfold dec2; split <;> simp
set_option maxRecDepth 20000 in
theorem small_call (n : Nat) (hn : n < 100) : PCall Go.Proofs.Tryd.prog 61 [.lit (jn n)] (.val (.lit (tx (dec2 n)))) := by
  have h543 := fc543_eq
  refine PCall.of h543 rfl ?_; show AC.wp _ fb543 (AS.init [.lit (jn n)] 1 15) (fun x s => match x with | .exit _ => False | _ => Fin [(.tmp 2)] s _); unfold fb543 AS.init
  refine wp_sr (by simp [push_cast]; exact rfl) ?_
  by_cases h10 : n < 10
  · refine wp_seq' (wp_seq' (wp_r (by simp [push_cast, h10]; exact rfl) (wp_cond_t rfl ?_)))
    have q1 : n + 1 < 9223372036854775808 := by omega
    have hd : ∀ n, n < 10 → (([48, 49, 50, 51, 52, 53, 54, 55, 56, 57, 97, 98, 99, 100, 101, 102, 103, 104, 105, 106, 107, 108, 109, 110, 111, 112, 113, 114, 115, 116, 117, 118, 119, 120, 121, 122] : List UInt8).take (n + 1)).drop n = dec2 n := by decide
    have hp := hd n h10
    have hsub : primVal (.ssub true true) [tx [48, 49, 50, 51, 52, 53, 54, 55, 56, 57, 97, 98, 99, 100, 101, 102, 103, 104, 105, 106, 107, 108, 109, 110, 111, 112, 113, 114, 115, 116, 117, 118, 119, 120, 121, 122], jn n, jn (n + 1)] = some (tx (dec2 n)) := by
      rw [prim_sub2, if_pos ⟨by simp only [List.length_cons, List.length_nil]; omega, by omega⟩, hp]
    generalize ([48, 49, 50, 51, 52, 53, 54, 55, 56, 57, 97, 98, 99, 100, 101, 102, 103, 104, 105, 106, 107, 108, 109, 110, 111, 112, 113, 114, 115, 116, 117, 118, 119, 120, 121, 122] : List UInt8) = dl at *
    refine wp_sg ?_
    refine areg_run 3 (by simp [push_cast, q1]; exact rfl) ?_
    refine AOp.ex_go (s' := _) (by simp only [AOp.ex, AOp.ex0, AOp.mineB, ex_prim, AS.lits, List.map_cons, List.map_nil, AS.ev, AS.put]; simp [primA_some, hsub]; exact rfl) ?_
    refine areg_end (by simp [push_cast]; exact rfl) (wp_ret' ?_)
    exact fin_tmp (by simp [RVal, AS.ev, AS.coe]) (by simp)
  · refine wp_seq' (wp_seq' (wp_r (by simp [push_cast, h10]; exact rfl) (wp_cond_f rfl (wp_skip' ?_))))
    have q1 : n * 2 < 9223372036854775808 := by omega
    have q2 : n * 2 + 2 < 9223372036854775808 := by omega
    have hd : ∀ n, n < 100 → ¬ n < 10 → (([48, 48, 48, 49, 48, 50, 48, 51, 48, 52, 48, 53, 48, 54, 48, 55, 48, 56, 48, 57, 49, 48, 49, 49, 49, 50, 49, 51, 49, 52, 49, 53, 49, 54, 49, 55, 49, 56, 49, 57, 50, 48, 50, 49, 50, 50, 50, 51, 50, 52, 50, 53, 50, 54, 50, 55, 50, 56, 50, 57, 51, 48, 51, 49, 51, 50, 51, 51, 51, 52, 51, 53, 51, 54, 51, 55, 51, 56, 51, 57, 52, 48, 52, 49, 52, 50, 52, 51, 52, 52, 52, 53, 52, 54, 52, 55, 52, 56, 52, 57, 53, 48, 53, 49, 53, 50, 53, 51, 53, 52, 53, 53, 53, 54, 53, 55, 53, 56, 53, 57, 54, 48, 54, 49, 54, 50, 54, 51, 54, 52, 54, 53, 54, 54, 54, 55, 54, 56, 54, 57, 55, 48, 55, 49, 55, 50, 55, 51, 55, 52, 55, 53, 55, 54, 55, 55, 55, 56, 55, 57, 56, 48, 56, 49, 56, 50, 56, 51, 56, 52, 56, 53, 56, 54, 56, 55, 56, 56, 56, 57, 57, 48, 57, 49, 57, 50, 57, 51, 57, 52, 57, 53, 57, 54, 57, 55, 57, 56, 57, 57] : List UInt8).take (n * 2 + 2)).drop (n * 2) = dec2 n := by decide
    have hp := hd n hn h10
    have hsub : primVal (.ssub true true) [tx [48, 48, 48, 49, 48, 50, 48, 51, 48, 52, 48, 53, 48, 54, 48, 55, 48, 56, 48, 57, 49, 48, 49, 49, 49, 50, 49, 51, 49, 52, 49, 53, 49, 54, 49, 55, 49, 56, 49, 57, 50, 48, 50, 49, 50, 50, 50, 51, 50, 52, 50, 53, 50, 54, 50, 55, 50, 56, 50, 57, 51, 48, 51, 49, 51, 50, 51, 51, 51, 52, 51, 53, 51, 54, 51, 55, 51, 56, 51, 57, 52, 48, 52, 49, 52, 50, 52, 51, 52, 52, 52, 53, 52, 54, 52, 55, 52, 56, 52, 57, 53, 48, 53, 49, 53, 50, 53, 51, 53, 52, 53, 53, 53, 54, 53, 55, 53, 56, 53, 57, 54, 48, 54, 49, 54, 50, 54, 51, 54, 52, 54, 53, 54, 54, 54, 55, 54, 56, 54, 57, 55, 48, 55, 49, 55, 50, 55, 51, 55, 52, 55, 53, 55, 54, 55, 55, 55, 56, 55, 57, 56, 48, 56, 49, 56, 50, 56, 51, 56, 52, 56, 53, 56, 54, 56, 55, 56, 56, 56, 57, 57, 48, 57, 49, 57, 50, 57, 51, 57, 52, 57, 53, 57, 54, 57, 55, 57, 56, 57, 57], jn (n * 2), jn (n * 2 + 2)] = some (tx (dec2 n)) := by
      rw [prim_sub2, if_pos ⟨by simp only [List.length_cons, List.length_nil]; omega, by omega⟩, hp]
    generalize ([48, 48, 48, 49, 48, 50, 48, 51, 48, 52, 48, 53, 48, 54, 48, 55, 48, 56, 48, 57, 49, 48, 49, 49, 49, 50, 49, 51, 49, 52, 49, 53, 49, 54, 49, 55, 49, 56, 49, 57, 50, 48, 50, 49, 50, 50, 50, 51, 50, 52, 50, 53, 50, 54, 50, 55, 50, 56, 50, 57, 51, 48, 51, 49, 51, 50, 51, 51, 51, 52, 51, 53, 51, 54, 51, 55, 51, 56, 51, 57, 52, 48, 52, 49, 52, 50, 52, 51, 52, 52, 52, 53, 52, 54, 52, 55, 52, 56, 52, 57, 53, 48, 53, 49, 53, 50, 53, 51, 53, 52, 53, 53, 53, 54, 53, 55, 53, 56, 53, 57, 54, 48, 54, 49, 54, 50, 54, 51, 54, 52, 54, 53, 54, 54, 54, 55, 54, 56, 54, 57, 55, 48, 55, 49, 55, 50, 55, 51, 55, 52, 55, 53, 55, 54, 55, 55, 55, 56, 55, 57, 56, 48, 56, 49, 56, 50, 56, 51, 56, 52, 56, 53, 56, 54, 56, 55, 56, 56, 56, 57, 57, 48, 57, 49, 57, 50, 57, 51, 57, 52, 57, 53, 57, 54, 57, 55, 57, 56, 57, 57] : List UInt8) = dl at *
    refine wp_sg ?_
    refine areg_run 5 (by simp [push_cast, q1, q2]; exact rfl) ?_
    refine AOp.ex_go (s' := _) (by simp only [AOp.ex, AOp.ex0, AOp.mineB, ex_prim, AS.lits, List.map_cons, List.map_nil, AS.ev, AS.put]; simp [primA_some, hsub]; exact rfl) ?_
    refine areg_end (by simp [push_cast]; exact rfl) (wp_ret' ?_)
    exact fin_tmp (by simp [RVal, AS.ev, AS.coe]) (by simp)
theorem bin_leqji (a : Nat) (b : Nat) : binVal .leq (jn a) (jn b) = some (.bool (decide (a ≤ b))) := bin_leqj a b
theorem format_call (n : Nat) (hn : n < 100) : PCall Go.Proofs.Tryd.prog 59 [.lit (jn n), .lit (jn 10)] (.val (.lit (tx (dec2 n)))) := by
  have h542 := fc542_eq
  have c := small_call n hn
  refine PCall.of h542 rfl ?_; show AC.wp _ fb542 (AS.init [.lit (jn n), .lit (jn 10)] 2 54) (fun x s => match x with | .exit _ => False | _ => Fin [(.tmp 4)] s _); unfold fb542 AS.init
  refine wp_sr (by simp [push_cast]; exact rfl) ?_
  refine wp_seq' (wp_seq' (wp_r (by simp [push_cast]; exact rfl) (wp_cond_t rfl ?_)))
  refine wp_seq' (wp_seq' (wp_r (by simp [push_cast, hn]; exact rfl) (wp_cond_t (by simp [AS.ev]) ?_)))
  refine wp_sg ?_
  refine areg_run 1 (by simp [push_cast]; exact rfl) ?_
  refine areg_ca (by simp [AS.ev, AS.coe, AS.put] <;> exact rfl) c ?_
  refine areg_end (by simp [push_cast]; exact rfl) (wp_ret' ?_)
  exact fin_tmp (by simp [RVal, AS.ev, AS.coe]) (by simp)
theorem itoa0_call (n : Nat) (hn : n < 100) : PCall Go.Proofs.Tryd.prog 52 [.lit (jn n)] (.val (.lit (tx (dec2 n)))) := by
  have h538 := fc538_eq
  have c := format_call n hn
  refine PCall.of h538 rfl ?_; show AC.wp _ fb538 (AS.init [.lit (jn n)] 1 5) (fun x s => match x with | .exit _ => False | _ => Fin [(.tmp 2)] s _); unfold fb538 AS.init
  refine wp_sr (by simp [push_cast]; exact rfl) (wp_sg ?_)
  refine areg_run 1 (by simp [push_cast]; exact rfl) ?_
  refine areg_ca (by simp [AS.ev, AS.coe, AS.put] <;> exact rfl) c ?_
  refine areg_end (by simp [push_cast]; exact rfl) (wp_ret' ?_)
  exact fin_tmp (by simp [RVal, AS.ev, AS.coe]) (by simp)
theorem itoa_call (n : Nat) (hn : n < 100) : PCall Go.Proofs.Tryd.prog 39 [.lit (jn n)] (.val (.lit (tx (dec2 n)))) := by
  have h528 := fc528_eq
  have c := itoa0_call n hn
  refine PCall.of h528 rfl ?_; show AC.wp _ fb528 (AS.init [.lit (jn n)] 1 5) (fun x s => match x with | .exit _ => False | _ => Fin [(.tmp 2)] s _); unfold fb528 AS.init
  refine wp_sr (by simp [push_cast]; exact rfl) (wp_sg ?_)
  refine areg_run 1 (by simp [push_cast]; exact rfl) ?_
  refine areg_ca (by simp [AS.ev, AS.coe, AS.put] <;> exact rfl) c ?_
  refine areg_end (by simp [push_cast]; exact rfl) (wp_ret' ?_)
  exact fin_tmp (by simp [RVal, AS.ev, AS.coe]) (by simp)

/-! ### The text of an operation's name -/
def numsV (o : OpV) : List Int := o.kind :: o.author :: (o.seq : Int) :: o.who
def labelG (it : Int → List UInt8) (ns : List Int) : List UInt8 := (ns.map fun n => 32 :: it n).flatten
def labT (it : Int → List UInt8) (ns : List Int) : List UInt8 := [111, 112] ++ labelG it ns
def labelT (it : Int → List UInt8) (o : OpV) : List UInt8 := labT it (numsV o)
theorem cvt_wj (n : Nat) (h : n < 4294967296) : cvtA .i64 (.lit (wn n)) = some (.lit (jn n)) := by
  simp only [cvtA, wn, wrap_i64 (Int.le_trans (by decide) (Int.natCast_nonneg n)) (by omega)]
  rfl
theorem labelG_len {it : Int → List UInt8} : ∀ {ns : List Int}, (∀ n ∈ ns, (it n).length ≤ 30) → (labelG it ns).length ≤ 31 * ns.length
  | [], _ => by simp [labelG]
  | n :: ns, h => by
    have := labelG_len (ns := ns) fun m hm => h m (by simp [hm])
    have := h n (by simp)
    simp only [labelG, List.map_cons, List.flatten_cons, List.length_append, List.length_cons] at *
    omega

set_option maxHeartbeats 8000000 in
theorem label_call {o : OpV} (ho : OpOk o) {it : Int → List UInt8} (hit : ∀ n ∈ numsV o, PCall Go.Proofs.Tryd.prog 39 [.lit (ji n)] (.val (.lit (tx (it n))))) (hil : ∀ n ∈ numsV o, (it n).length ≤ 30) :
    PCall Go.Proofs.Tryd.prog 29 [opA o] (.val (.lit (tx (labelT it o)))) := by
  have h522 := fc522_eq
  have o5 := ho.ofk
  have o6 := ho.check
  have hsq := cvt_wj o.seq ho.seq
  have hwl := ho.who
  have hA : opA o = opB o.author o.seq o.parents o.kind (o.who.map fun x => AV.lit (ji x)) o.ofk o.check o.text (o.boxes.map fun x => boxA x) := rfl
  have hml : (o.who.map fun x => AV.lit (ji x)).length = o.who.length := List.length_map _
  have hns : [AV.lit (ji o.kind), .lit (ji o.author), .lit (jn o.seq)] ++ (o.who.map fun x => AV.lit (ji x)) = (numsV o).map fun x => AV.lit (ji x) := rfl
  have hnl : (numsV o).length = o.who.length + 3 := rfl
  rw [hA]
  unfold opB labelT
  generalize (o.who.map fun x => AV.lit (ji x)) = W at *
  generalize numsV o = ns at *
  have hTl : (ns.map fun x => AV.lit (ji x)).length = ns.length := List.length_map _
  have hTg : ∀ i a, ns[i]? = some a → (ns.map fun x => AV.lit (ji x))[i]? = some (AV.lit (ji a)) := fun i a h => by rw [List.getElem?_map, h]; rfl
  generalize (ns.map fun x => AV.lit (ji x)) = T at *
  refine PCall.of h522 rfl ?_; show AC.wp _ fb522 (AS.init [.st [1, 1, 1, 1, 1, 32, 32, 1, 1] [.lit (ji o.author), .lit (wn o.seq), .sl 32 (klA o.parents), .lit (ji o.kind), .sl 1 W, keyA o.ofk, keyA o.check, .lit (tx o.text), .sl 36 (o.boxes.map fun x => boxA x)]] 1 29) (fun x s => match x with | .exit _ => False | _ => Fin [(.tmp 2)] s _); unfold fb522 AS.init
  refine wp_sg (areg_bx rfl (by simp [AS.ev, AV.sz, keyA, o5, o6]) fun l1 => areg_end (by simp [push_cast]; exact rfl) ?_)
  refine wp_sr (by simp [push_cast]; exact rfl) ?_
  refine wp_seq' (wp_sg ?_)
  refine areg_run 7 (by simp [push_cast, o5, o6, hsq]; exact rfl) ?_
  refine areg_bown (vs := [.lit (ji o.kind), .lit (ji o.author), .lit (jn o.seq)]) (els := [.lit (ji o.kind), .lit (ji o.author), .lit (jn o.seq)]) rfl (by simp [fillV, AV.sub, AV.upd, AV.isTup, AV.sz]; rfl) (by intro t ht; cases ht) fun V1 => ?_
  refine areg_run 2 (by simp [push_cast, o5, o6]; exact rfl) ?_
  refine areg_ap (b := 13) (V := V1) (ys := W) rfl rfl (by simp [AS.ev, AS.coe]) (by rw [hml]; simp [maxLen]; omega) (by rw [hml]; simp; omega) (fun V2 => ?_)
  rw [hns]
  refine areg_end (by simp [push_cast, hTl]; exact rfl) ?_
  refine wp_block' (wp_loop_m (fun i : Nat => (⟨0, [.st [1, 1, 1, 1, 1, 32, 32, 1, 1] [.lit (ji o.author), .lit (wn o.seq), .sl 32 (klA o.parents), .lit (ji o.kind), .sl 1 W, keyA o.ofk, keyA o.check, .lit (tx o.text), .sl 36 (o.boxes.map fun x => boxA x)], .ptr 1 l1 0 [], .lit (tx []), .lit (tx (labT it (ns.take i)))] ++ List.replicate 12 .any ++ [.own 16 V2, .lit (jn ns.length), .lit (jn i)] ++ List.replicate 10 .any, List.replicate 16 none ++ [some (.row 3 V2 1 T 0)] ++ List.replicate 12 none⟩ : AS)) (fun i => ns.length - i) (fun i => i ≤ ns.length) 0 ?_ (by simp) ?_)
  · exact Le.mk rfl (by simp [leT, labT, labelG, keyA]) (by simp [leH])
  intro i hi
  simp only at hi ⊢
  by_cases hlt : i < ns.length
  · obtain ⟨n, hn⟩ : ∃ n, ns[i]? = some n := ⟨_, List.getElem?_eq_getElem hlt⟩
    have hmem := List.mem_of_getElem? hn
    have c := hit n hmem
    have hl1 := hil n hmem
    have hl2 : (labelG it (ns.take i)).length ≤ 31 * ns.length := Nat.le_trans (labelG_len fun m hm => hil m (List.mem_of_mem_take hm)) (by rw [List.length_take]; exact Nat.mul_le_mul_left _ (Nat.min_le_right _ _))
    have g1 := hTg i n hn
    have g2 : ∀ h, T[i]'h = AV.lit (ji n) := fun h => by rw [List.getElem?_eq_getElem h] at g1; exact Option.some.inj g1
    have q1 : i + 1 < 9223372036854775808 := by omega
    have hb1 : binVal .add (tx [32]) (tx (it n)) = some (tx (32 :: it n)) := bin_adds _ _ (by simp only [List.length_cons, List.length_nil]; omega)
    have hb2 : binVal .add (tx (labT it (ns.take i))) (tx (32 :: it n)) = some (tx (labT it (ns.take (i + 1)))) := by
      have e : labelG it (ns.take (i + 1)) = labelG it (ns.take i) ++ (32 :: it n) := by unfold labelG; rw [List.take_add_one, hn]; simp
      unfold labT
      rw [bin_adds _ _ (by simp only [List.length_append, List.length_cons, List.length_nil]; omega), e, List.append_assoc]
    generalize labT it (ns.take i) = acc at *
    obtain ⟨acc2, hacc2⟩ : ∃ acc2, acc2 = labT it (ns.take (i + 1)) := ⟨_, rfl⟩
    rw [← hacc2] at hb2
    refine wp_sr (by simp [push_cast, hlt]; exact rfl) (wp_seq' (wp_cond_t (by simp [AS.ev]) (wp_skip' ?_)))
    refine wp_seq' (wp_block' (wp_sr (by simp [push_cast, hTl, g1, g2, hlt]; exact rfl) ?_))
    refine wp_rg ?_
    refine areg_run 2 (by simp [push_cast]; exact rfl) ?_
    refine areg_ca (by simp [AS.ev, AS.coe, AS.put] <;> exact rfl) c ?_
    refine areg_end (by simp [push_cast, hb1, hb2]; exact rfl) ?_
    refine wp_r (by simp [push_cast, q1]; exact rfl) ?_
    exact Exists.intro (i + 1) ⟨by omega, by omega, Le.mk rfl (by simp [leT, keyA, hacc2]) (by simp [leH])⟩
  · have hin : i = ns.length := by omega
    subst hin
    rw [List.take_length]
    refine wp_sr (by simp [push_cast]; exact rfl) (wp_seq' (wp_cond_f (by simp [AS.ev]) (wp_exit' (if_hit rfl ?_))))
    refine wp_sr (by simp [push_cast]; exact rfl) (wp_ret' ?_)
    exact fin_tmp (by simp [RVal, AS.ev, AS.coe]) (by simp)

/-- A call of the kit that is handed a list of the caller's own: it is sealed first. -/
theorem KC.seal {P : Program} {f : FuncId} {vs : List AV} {H : List (Option Blk)} {t : Tb} {ts ts' : List Term} {r : AV} {c i e esz sl : Nat} {els : List AV} {V : Value} (h : KC P f (vs.set i (.sl esz els)) H t ts r ts') {V0 : Value} {L : List (Option Blk)} (hi : vs[i]? = some (.own (H.length + c) V)) (hc : L[c]? = some (some (.row e V esz els sl))) :
    XCall P f vs (tbOf H t V0 ts ++ L) fun r' H' => r' = r ∧ ∃ V', H' = tbOf H t V' ts' ++ L.set c none := by
  have g1 := cat1 H.length (tbOf H t V0 ts) L c (tbOf_len _ _ _ _)
  have g2 := cat2 H.length (tbOf H t V0 ts) L c (none : Option Blk) (tbOf_len _ _ _ _)
  have hle := Le.sealed (s := ⟨0, vs, tbOf H t V0 ts ++ L⟩) (t := i) (b := H.length + c) (e := e) (V := V) (esz := esz) (els := els) (sl := sl) hi (by simp only [AS.blk, g1, hc]; rfl)
  simp only [g2] at hle
  exact XCall.ofLe hle (by simp) (h V0 (L.set c none))

/-! ### By -/
def byT (it : Int → List UInt8) (o : OpV) : Term := ⟨2, labelT it o, o.parents ++ [o.ofk, zk]⟩
/-- What a message's box is bound to. -/
def byV (it : Int → List UInt8) (ts : List Term) (o : OpV) : List UInt8 × List Term := if rightV o then (nameK (putN ts (byT it o)), putT ts (byT it o)) else (zk, ts)
theorem labelT_len {it : Int → List UInt8} {o : OpV} (ho : OpOk o) (hil : ∀ n ∈ numsV o, (it n).length ≤ 30) (hw : o.who.length < 1000) : (labelT it o).length < 100000 := by
  have := labelG_len hil
  have e : (numsV o).length = o.who.length + 3 := rfl
  unfold labelT labT
  simp only [List.length_append, List.length_cons, List.length_nil]
  omega
theorem tgt_hashI (b : Nat) (l : Nat × Nat) (x y : AV) : tgtA Go.Proofs.Tryd.prog (.inv "Hash") [freeI b l, x, y] = some (23, [.ptr b l 0 [], x, y]) := by kernel_rfl
theorem nilv_hash (b : Nat) (l : Nat × Nat) : rdA Go.Proofs.Tryd.prog (fun _ => none) .nilv [.fnv (.method "Hash") [freeI b l] []] = some (.fnv (.method "Hash") [freeI b l] []) := by kernel_rfl
theorem hash_k {H : List (Option Blk)} {t : Tb} {V0 : Value} {ts0 ts : List Term} (hh : TbOk H t V0 ts0) (hn : ts.length < 100000) {s : List UInt8} (hs : s.length < 100000) {ks : List (List UInt8)} (hk : ks.length < 100000) (h32 : ∀ k ∈ ks, k.length = 32) : KC Go.Proofs.Tryd.prog 23 [.ptr t.b t.l 0 [], .lit (tx s), .sl 32 (klA ks)] H t ts (keyA (nameK (putN ts ⟨2, s, ks⟩))) (putT ts ⟨2, s, ks⟩) :=
  KC.of hh fun H V h => hash_call h hn s hs ks hk h32

set_option maxHeartbeats 16000000 in
theorem by_call {H : List (Option Blk)} {t : Tb} {V : Value} {ts : List Term} (hh : TbOk H t V ts) (hn : ts.length < 100000) {o : OpV} (ho : OpOk o) (hbl : ∀ b ∈ o.boxes, b.body.length < 9223372036854775808) (hw : o.who.length < 1000) (hp : o.parents.length < 1000) {it : Int → List UInt8} (hit : ∀ n ∈ numsV o, PCall Go.Proofs.Tryd.prog 39 [.lit (ji n)] (.val (.lit (tx (it n))))) (hil : ∀ n ∈ numsV o, (it n).length ≤ 30) :
    XCall Go.Proofs.Tryd.prog 19 [freeI t.b t.l, opA o] H fun r H' => r = keyA (byV it ts o).1 ∧ ∃ V', H' = tbOf H t V' (byV it ts o).2 := by
  have h519 := fc519_eq
  refine XCall.le ?_
  have hc24 : callable Go.Proofs.Tryd.prog 24 = true := by kernel_rfl
  have cR := right_call ho hbl
  have cL := label_call ho hit hil
  have hll := labelT_len ho hil hw
  have cC := fun H => PCall.xrow H (clone_row (klA o.parents) (by rw [klA_len]; omega))
  have o5 := ho.ofk
  have o6 := ho.check
  have h32 : ∀ k ∈ o.parents ++ [o.ofk, zk], k.length = 32 := fun k hk => by
    simp only [List.mem_append, List.mem_cons, List.not_mem_nil, or_false] at hk
    rcases hk with hk | rfl | rfl
    · exact ho.p32 k hk
    · exact o5
    · exact zk_len
  have hkl : klA o.parents ++ klA [o.ofk, zk] = klA (o.parents ++ [o.ofk, zk]) := by simp [klA]
  have hpl : (o.parents ++ [o.ofk, zk]).length = o.parents.length + 2 := by simp
  have hpl0 := klA_len o.parents
  have hhash := fun V L => hash_k hh hn hll (ks := o.parents ++ [o.ofk, zk]) (by omega) h32 V L
  have hself := hh.self
  have G1 : ∀ V' ts', (tbOf H t V' ts').length = H.length := fun V' ts' => tbOf_len _ _ _ _
  have g1 : ∀ V' ts' L k, (tbOf H t V' ts' ++ L)[H.length + k]? = L[k]? := fun V' ts' L k => cat1 _ _ _ _ (G1 _ _)
  have g2 : ∀ V' ts' L k x, (tbOf H t V' ts' ++ L).set (H.length + k) x = tbOf H t V' ts' ++ L.set k x := fun V' ts' L k x => cat2 _ _ _ _ _ (G1 _ _)
  have hA : opA o = opB o.author o.seq o.parents o.kind (o.who.map fun x => AV.lit (ji x)) o.ofk o.check o.text (o.boxes.map fun x => boxA x) := rfl
  rw [hA] at cR cL ⊢
  have hby : byV it ts o = if rightV o then (nameK (putN ts ⟨2, labelT it o, o.parents ++ [o.ofk, zk]⟩), putT ts ⟨2, labelT it o, o.parents ++ [o.ofk, zk]⟩) else (zk, ts) := rfl
  have bsz : ∀ W B, (opB o.author o.seq o.parents o.kind W o.ofk o.check o.text B).sz = 71 := fun W B => by simp [opB, AV.sz, keyA, o5, o6]
  rw [hby]
  generalize labelT it o = lb at *
  generalize (o.who.map fun x => AV.lit (ji x)) = W at *
  generalize (o.boxes.map fun x => boxA x) = B at *
  generalize rightV o = rv at *
  refine XCall.of h519 rfl ?_; show AC.wp _ fb519 ⟨H.length, [freeI t.b t.l, opB o.author o.seq o.parents o.kind W o.ofk o.check o.text B] ++ List.replicate (24 - 2) .any, H ++ List.replicate 24 none⟩ (fun x s => match x with | .exit _ => False | _ => ∃ s1, Le s s1 ∧ FinX [(.cell 4 .true 32)] s1 _); unfold fb519
  rw [← hself]
  rw [tbOf_len]
  generalize hN : H.length = N at *
  refine wp_sg (areg_bx rfl (by simp [AS.ev, bsz]) fun l3 => areg_al' zk_eq.symm fun l4 => areg_end (by simp [push_cast, g2]; exact rfl) ?_)
  unfold opB at cR cL ⊢
  have cR' := cR
  have cL' := cL
  unfold keyA at cR' cL'
  refine wp_seq' (wp_seq' (wp_rg ?_))
  refine areg_run 1 (by simp [push_cast, g1, o5, o6]; exact rfl) ?_
  refine areg_ca (by simp [AS.ev, AS.coe, AS.put] <;> exact rfl) cR' ?_
  cases rv with
  | false =>
    refine areg_end (by simp [push_cast]; exact rfl) ?_
    refine wp_cond_t (by simp [AS.ev]) (wp_sg (areg_bz (areg_end (by simp [push_cast, g1, g2, zk_len]; exact rfl) (wp_ret' ?_))))
    exact ⟨_, Le.refl _, [], _, ⟨by simp [AS.seals, RVals, RVal, AS.ev, AS.peek, AS.blk, g1, Blk.loc, Blk.cont, Blk.n, AV.nav, AV.isAgg, AV.isTup, AS.coe]; rfl, by simp [keyA]⟩, keyA zk, _, RelLe.refl _, by simp [keyA], HpLe.trim _ _, rfl, V, (hh.of_of _ _ _ _).symm⟩
  | true =>
    refine areg_end (by simp [push_cast]; exact rfl) ?_
    refine wp_cond_f (by simp [AS.ev]) (wp_skip' ?_)
    refine wp_sg ?_
    refine areg_run 2 (by simp [push_cast, g1, o5, o6]; exact rfl) ?_
    refine areg_cv (by simp [AS.ev, AS.coe, AS.put] <;> exact rfl) cL' ?_ (by intro p hp b V; simp at hp; subst hp; simp [AS.ev, AS.put])
    refine areg_run 2 (by simp [push_cast, g1, o5, o6]; exact rfl) ?_
    refine areg_xq (us := [.sl 32 (klA o.parents)]) rfl (by simp only [tgtA, tgtB, Option.bind_some, hc24, if_true]) (cC _) ⟨_, _, .slice none 0 0, rfl, rfl⟩ (fun r hp' hK t' ht' b hb' => ?_) ?_
    · obtain ⟨V', rfl, rfl⟩ := hK
      simp at ht'
      subst ht'
      simp [AS.ev, AV.place] at hb'
      subst hb'
      simp [g1]
    rintro r H' ⟨V2, rfl, rfl⟩
    refine areg_run 2 (by simp [push_cast, g1, G1, o5, o6]; exact rfl) ?_
    refine areg_bz ?_
    refine areg_run 1 (by simp [push_cast, o5, zk_len]; exact rfl) ?_
    refine areg_ap (b := N + 24) (V := V2) (ys := klA [o.ofk, zk]) rfl (by simp only [AS.blk, g1]; rfl) (by simp [AS.ev, AS.coe, klA, keyA]) (by rw [klA_len, klA_len]; simp [maxLen]; omega) (by rw [klA_len, klA_len]; simp; omega) (fun V3 => ?_) (by
      intro t' ht' b hb'
      simp at ht')
    rw [hkl]
    refine areg_run 0 (by simp [push_cast, g2]; exact rfl) ?_
    refine areg_rdp (us := [freeI t.b t.l]) rfl (mkfn_draw _ _ _) ?_
    refine areg_rdp (us := [.fnv (.method "Hash") [freeI t.b t.l] []]) rfl (nilv_hash _ _) ?_
    refine areg_run 1 (by simp [push_cast]; exact rfl) ?_
    refine areg_xq (us := [freeI t.b t.l, .lit (tx lb), .own (N + 19) V3]) rfl (tgt_hashI _ _ _ _) (KC.seal (vs := [.ptr t.b t.l 0 [], .lit (tx lb), .own (N + 19) V3]) (i := 2) (c := 19) (e := 29) (esz := 32) (els := klA (o.parents ++ [o.ofk, zk])) (sl := 0) hhash (by rw [← hN]; rfl) rfl) ⟨_, _, rfl, .slice none 0 0, rfl⟩ (fun r hp' hK t' ht' => by cases ht') ?_
    rintro r H' ⟨rfl, V4, rfl⟩
    refine areg_end (by simp [push_cast, g1, g2, nameK_len]; exact rfl) (wp_ret' ?_)
    exact ⟨_, Le.refl _, [], _, ⟨by simp [AS.seals, RVals, RVal, AS.ev, AS.peek, AS.blk, g1, Blk.loc, Blk.cont, Blk.n, AV.nav, AV.isAgg, AV.isTup, AS.coe]; rfl, by simp [keyA]⟩, keyA _, _, RelLe.refl _, by simp [keyA], HpLe.trim _ _, rfl, V4, (hh.of_of _ _ _ _).symm⟩

/-! ### Two -/
def twoV (ts : List Term) (s : List UInt8) (ks : List (List UInt8)) : (List UInt8 × List UInt8) × List Term :=
  ((nameK (putN ts ⟨2, s ++ [47, 49], ks⟩), nameK (putN (putT ts ⟨2, s ++ [47, 49], ks⟩) ⟨2, s ++ [47, 50], ks⟩)), putT (putT ts ⟨2, s ++ [47, 49], ks⟩) ⟨2, s ++ [47, 50], ks⟩)
set_option maxHeartbeats 8000000 in
theorem two_call {H : List (Option Blk)} {t : Tb} {V : Value} {ts : List Term} (hh : TbOk H t V ts) (hn : ts.length + 1 < 100000) {s : List UInt8} (hs : s.length < 90000) {ks : List (List UInt8)} (hk : ks.length < 100000) (h32 : ∀ k ∈ ks, k.length = 32) :
    XCall Go.Proofs.Tryd.prog 12 [freeI t.b t.l, .lit (tx s), .sl 32 (klA ks)] H fun r H' => r = .tup [keyA (twoV ts s ks).1.1, keyA (twoV ts s ks).1.2] ∧ ∃ V', H' = tbOf H t V' (twoV ts s ks).2 := by
  have h515 := fc515_eq
  refine XCall.le ?_
  have hself := hh.self
  have G1 : ∀ V' ts', (tbOf H t V' ts').length = H.length := fun V' ts' => tbOf_len _ _ _ _
  have g1 : ∀ V' ts' L k, (tbOf H t V' ts' ++ L)[H.length + k]? = L[k]? := fun V' ts' L k => cat1 _ _ _ _ (G1 _ _)
  have g2 : ∀ V' ts' L k x, (tbOf H t V' ts' ++ L).set (H.length + k) x = tbOf H t V' ts' ++ L.set k x := fun V' ts' L k x => cat2 _ _ _ _ _ (G1 _ _)
  have hb1 : binVal .add (tx s) (tx [47, 49]) = some (tx (s ++ [47, 49])) := bin_adds _ _ (by simp only [List.length_cons, List.length_nil]; omega)
  have hb2 : binVal .add (tx s) (tx [47, 50]) = some (tx (s ++ [47, 50])) := bin_adds _ _ (by simp only [List.length_cons, List.length_nil]; omega)
  have l1 : (s ++ [47, 49]).length < 100000 := by simp; omega
  have l2 : (s ++ [47, 50]).length < 100000 := by simp; omega
  have hln := putT_len ts ⟨2, s ++ [47, 49], ks⟩
  have hk1 := hash_k hh (ts := ts) (by omega) l1 hk h32
  have hk2 := hash_k hh (ts := putT ts ⟨2, s ++ [47, 49], ks⟩) (by omega) l2 hk h32
  have n1 := nameK_len (putN ts ⟨2, s ++ [47, 49], ks⟩)
  have n2 := nameK_len (putN (putT ts ⟨2, s ++ [47, 49], ks⟩) ⟨2, s ++ [47, 50], ks⟩)
  unfold twoV
  simp only
  generalize nameK (putN ts ⟨2, s ++ [47, 49], ks⟩) = k1 at *
  generalize nameK (putN (putT ts ⟨2, s ++ [47, 49], ks⟩) ⟨2, s ++ [47, 50], ks⟩) = k2 at *
  generalize putT (putT ts ⟨2, s ++ [47, 49], ks⟩) ⟨2, s ++ [47, 50], ks⟩ = ts3 at *
  generalize putT ts ⟨2, s ++ [47, 49], ks⟩ = ts2 at *
  generalize s ++ [47, 49] = sa at *
  generalize s ++ [47, 50] = sb at *
  refine XCall.of h515 rfl ?_; show AC.wp _ fb515 ⟨H.length, [freeI t.b t.l, .lit (tx s), .sl 32 (klA ks)] ++ List.replicate (18 - 3) .any, H ++ List.replicate 18 none⟩ (fun x s => match x with | .exit _ => False | _ => ∃ s1, Le s s1 ∧ FinX [(.cell 6 .true 32), (.cell 7 .true 32)] s1 _); unfold fb515
  rw [← hself]
  rw [tbOf_len]
  generalize hN : H.length = N at *
  refine wp_sg (areg_al' zk_eq.symm fun l6 => areg_al' zk_eq.symm fun l7 => areg_end (by simp [push_cast, g2]; exact rfl) ?_)
  refine wp_sg ?_
  refine areg_run 4 (by simp [push_cast, hb1]; exact rfl) ?_
  refine areg_k [freeI t.b t.l, .lit (tx sa), .sl 32 (klA ks)] hN rfl (tgt_hashI _ _ _ _) hk1 (by simp) (by simp) fun V2 => ?_
  refine areg_run 4 (by simp [push_cast, hb2]; exact rfl) ?_
  refine areg_k [freeI t.b t.l, .lit (tx sb), .sl 32 (klA ks)] hN rfl (tgt_hashI _ _ _ _) hk2 (by simp) (by simp) fun V3 => ?_
  refine areg_end (by simp [push_cast, g1, g2, n1, n2]; exact rfl) (wp_ret' ?_)
  exact ⟨_, Le.refl _, [], _, ⟨_, rfl, by simp [AS.seals, RVals, RVal, AS.ev, AS.peek, AS.blk, g1, Blk.loc, Blk.cont, Blk.n, AV.nav, AV.isAgg, AV.isTup, AS.coe]; rfl, by simp [keyA]⟩, .tup [keyA k1, keyA k2], _, RelLe.refl _, by simp, HpLe.trim _ _, rfl, V3, (hh.of_of _ _ _ _).symm⟩
end Go.Cab

/- Chain: what it calls: Clone of waits, known, say; the table's Seal and Mark. -/
-- TEXTS
-- KIT
namespace Go.Cab
open Go.RowKit
open Classical
def fb521 : AC := (.seq (.reg [⟨(.some 2), .none, (.mov (.const (.slice .none 0 0))), [], .none⟩]) (.seq (.seq (.reg [⟨(.some 3), .none, (.mov (.tmp 0)), [], .none⟩, ⟨(.some 4), .none, (.ef (.isnil .false) [(.tmp 3)]), [], .none⟩]) (.cond (.tmp 4) (.seq (.reg [⟨(.some 2), .none, (.mov (.const (.slice .none 0 0))), [], .none⟩]) .ret) .skip)) (.seq (.reg [⟨(.some 5), .none, (.ef (.bown 88 65 (.st [32, 1, 32] [(.arr 1 (List.replicate 32 (.lit (bn 0)))), (.lit (jn 0)), (.arr 1 (List.replicate 32 (.lit (bn 0))))]) 0 []) []), [], .none⟩, ⟨(.some 6), .none, (.mov (.tmp 0)), [], .none⟩, ⟨(.some 7), .none, (.append 88 65 72 (.tmp 5) (.tmp 6)), [], .none⟩, ⟨(.some 2), .none, (.mov (.tmp 7)), [], .none⟩]) .ret)))
def fc521 : FC := ⟨1, 8, [(.tmp 2)], fb521⟩
theorem fc521_eq : compF Go.Proofs.Tryd.prog 28 = some fc521 := by kernel_rfl
def fb511 : AC := (.seq (.reg [⟨(.some 1), .none, (.box 32 (.tmp 0)), [], .none⟩, ⟨(.some 2), .none, (.alloc 529 (.st [528, 1] [(.arr 66 (List.replicate 8 (.st [1, 1, 32, 32] [(.lit (.bool .false)), (.lit (.bool .false)), (.arr 1 (List.replicate 32 (.lit (bn 0)))), (.arr 1 (List.replicate 32 (.lit (bn 0))))]))), (.lit (.slice .none 0 0))])), [], .none⟩]) (.seq (.reg [⟨(.some 3), .none, (.alloc 529 (.st [528, 1] [(.arr 66 (List.replicate 8 (.st [1, 1, 32, 32] [(.lit (.bool .false)), (.lit (.bool .false)), (.arr 1 (List.replicate 32 (.lit (bn 0)))), (.arr 1 (List.replicate 32 (.lit (bn 0))))]))), (.lit (.slice .none 0 0))])), [], .none⟩]) (.seq (.reg [⟨(.some 4), .none, (.build (.arr 1 (List.replicate 32 (.lit (bn 0)))) [(0, (.const (bn 2)))]), [], .none⟩, ⟨(.some 5), .none, (.load .true 32 (.tmp 1)), [], .none⟩, ⟨(.some 6), .none, (.build (.st [1, 1, 32, 32] [(.lit (.bool .false)), (.lit (.bool .false)), (.arr 1 (List.replicate 32 (.lit (bn 0)))), (.arr 1 (List.replicate 32 (.lit (bn 0))))]) [(0, (.const (.bool .true))), (2, (.tmp 4)), (3, (.tmp 5))]), [], .none⟩, ⟨(.some 7), .none, (.faddr 0 0 (.tmp 3)), [], .none⟩, ⟨(.some 8), .none, (.iaddrA 8 66 (.tmp 7) (.const (jn 1))), [], .none⟩, ⟨.none, .none, (.store 66 (.tmp 8) (.tmp 6)), [], .none⟩]) (.seq (.reg [⟨(.some 9), .none, (.load .true 529 (.tmp 3)), [], .none⟩, ⟨.none, .none, (.store 529 (.tmp 2) (.tmp 9)), [], .none⟩]) .ret))))
def fc511 : FC := ⟨1, 10, [(.cell 2 .true 529)], fb511⟩
theorem fc511_eq : compF Go.Proofs.Tryd.prog 7 = some fc511 := by kernel_rfl
def fb512 : AC := (.seq (.reg [⟨(.some 2), .none, (.alloc 71 (.st [1, 1, 1, 1, 1, 32, 32, 1, 1] [(.lit (jn 0)), (.lit (wn 0)), (.lit (.slice .none 0 0)), (.lit (jn 0)), (.lit (.slice .none 0 0)), (.arr 1 (List.replicate 32 (.lit (bn 0)))), (.arr 1 (List.replicate 32 (.lit (bn 0)))), (.lit (tx [])), (.lit (.slice .none 0 0))])), [], .none⟩]) (.seq (.reg [⟨(.some 3), .none, (.mov (.tmp 0)), [], .none⟩, ⟨(.some 4), .none, (.build (.arr 1 (List.replicate 32 (.lit (bn 0)))) [(0, (.const (bn 1)))]), [], .none⟩, ⟨(.some 5), .none, (.bslice 32 (.arr 1 (List.replicate 32 (.lit (bn 0)))) 1 [(0, (.tmp 4))]), [], .none⟩, ⟨(.some 6), .none, (.build (.st [1, 34, 1] [(.lit (jn 0)), (.st [32, 1, 1] [(.arr 1 (List.replicate 32 (.lit (bn 0)))), (.lit (wn 0)), (.lit (wn 0))]), (.lit (tx []))]) [(0, (.const (jn 2)))]), [], .none⟩, ⟨(.some 7), .none, (.bslice 36 (.st [1, 34, 1] [(.lit (jn 0)), (.st [32, 1, 1] [(.arr 1 (List.replicate 32 (.lit (bn 0)))), (.lit (wn 0)), (.lit (wn 0))]), (.lit (tx []))]) 1 [(0, (.tmp 6))]), [], .none⟩, ⟨(.some 8), .none, (.build (.st [1, 1, 1, 1, 1, 32, 32, 1, 1] [(.lit (jn 0)), (.lit (wn 0)), (.lit (.slice .none 0 0)), (.lit (jn 0)), (.lit (.slice .none 0 0)), (.arr 1 (List.replicate 32 (.lit (bn 0)))), (.arr 1 (List.replicate 32 (.lit (bn 0)))), (.lit (tx [])), (.lit (.slice .none 0 0))]) [(0, (.const (jn 1))), (1, (.tmp 3)), (3, (.const (jn 7))), (2, (.tmp 5)), (8, (.tmp 7))]), [], .none⟩, ⟨.none, .none, (.store 71 (.tmp 2) (.tmp 8)), [], .none⟩]) .ret))
def fc512 : FC := ⟨1, 9, [(.cell 2 .true 71)], fb512⟩
theorem fc512_eq : compF Go.Proofs.Tryd.prog 9 = some fc512 := by kernel_rfl
def fb555 : AC := (.seq (.reg [⟨(.some 6), .none, (.box 32 (.tmp 1)), [], .none⟩, ⟨(.some 7), .none, (.box 32 (.tmp 2)), [], .none⟩, ⟨(.some 10), .none, (.mov (.const (tx []))), [], .none⟩]) (.seq (.reg [⟨(.some 12), .none, (.mov (.tmp 0)), [], .none⟩, ⟨(.some 13), .none, (.mov (.tmp 3)), [], .none⟩, ⟨(.some 14), .none, (.load .true 32 (.tmp 6)), [], .none⟩, ⟨(.some 15), .none, (.load .true 32 (.tmp 7)), [], .none⟩, ⟨(.some 16), .none, (.ef (.bown 29 32 (.arr 1 (List.replicate 32 (.lit (bn 0)))) 2 [0, 1]) [(.tmp 14), (.tmp 15)]), [], .none⟩, ⟨(.some 17), .none, (.mov (.tmp 4)), [], .none⟩, ⟨(.some 18), .none, (.append 29 32 32 (.tmp 16) (.tmp 17)), [], .none⟩, ⟨(.some 19), .none, (.icall 16 (.tmp 12) [(.const (jn 6)), (.tmp 13), (.tmp 18)]), [], .none⟩, ⟨(.some 11), .none, (.alloc 32 (.arr 1 (List.replicate 32 (.lit (bn 0))))), [], .none⟩, ⟨.none, .none, (.store 32 (.tmp 11) (.tmp 19)), [], .none⟩]) (.seq (.reg [⟨(.some 20), .none, (.rdp (.vslice 1 32 .false .false) [(.tmp 11)]), [], .none⟩, ⟨(.some 21), .none, (.rd .b2sv [(.tmp 20)]), [], .none⟩, ⟨(.some 10), .none, (.mov (.tmp 21)), [], .none⟩]) .ret)))
def fc555 : FC := ⟨5, 22, [(.tmp 10)], fb555⟩
theorem fc555_eq : compF Go.Proofs.Tryd.prog 89 = some fc555 := by kernel_rfl

theorem areg_b2sv {P : Program} {s : AS} {K : AS → Prop} {xs : List AOp} {d : Option Tmp} {x : Operand} {u : AV} {a : List UInt8} (ex : s.ev x = u) (hx : listB s.blk 1 u = some (bl a)) (h1 : u.isLit = false)
    (h : AReg P xs (s.put d (.lit (tx a))) K) : AReg P (⟨d, none, .rd .b2sv [x], [], none⟩ :: xs) s K := by
  refine AOp.ex_go (s' := s.put d (.lit (tx a))) ?_ h
  have hro : (AOp.ro ⟨d, none, .rd .b2sv [x], [], none⟩ s.nr) = tt := by funext b; rfl
  have hb : (fun b => if tt b then s.blk b else none) = s.blk := by funext b; rfl
  have e : rdB s.blk .b2sv [u] = some (.lit (tx a)) := by
    simp only [rdB, hx, Option.bind_some, bytes_bl, h1, Option.map_some, strOf_bl]
    rfl
  simp only [AOp.ex, AOp.ex0, AOp.mineB, if_true, ex_rd, List.map_cons, List.map_nil, ex, hro, hb, e, Option.map_some]

set_option maxHeartbeats 1000000 in
theorem cloneW_row (els : List AV) (hn : els.length < 100000) : PCall Go.Proofs.Tryd.prog 28 [.sl 65 els] (.row 88 65 els) := by
  have h521 := fc521_eq
  refine PCall.of h521 rfl ?_; show AC.wp _ fb521 (AS.init [.sl 65 els] 1 8) (fun x s => match x with | .exit _ => False | _ => Fin [(.tmp 2)] s _); unfold fb521 AS.init
  refine wp_sr (by simp [push_cast]; exact rfl) ?_
  refine wp_seq' (wp_seq' (wp_rg ?_))
  refine areg_run 1 (by simp [push_cast]; exact rfl) ?_
  refine areg_nils rfl fun b hb => areg_nil ?_
  cases b with
  | true =>
    obtain rfl := hb rfl
    refine wp_cond_t rfl (wp_sr (by simp [push_cast]; exact rfl) (wp_ret' ?_))
    exact ⟨2, rfl, .inl ⟨rfl, rfl⟩⟩
  | false =>
    refine wp_cond_f rfl (wp_skip' (wp_sg ?_))
    refine areg_bown (vs := []) (els := []) rfl rfl (by intro t ht; cases ht) fun V => ?_
    refine areg_run 1 (by simp [push_cast]; exact rfl) ?_
    refine areg_ap (ys := els) rfl rfl (by simp [AS.ev, AS.coe]) (by simp [maxLen]; omega) (by simp; omega) fun V' => areg_end (by simp [push_cast]; exact rfl) (wp_ret' ?_)
    exact fin_row rfl rfl
theorem cloneW_call (els : List AV) (hn : els.length < 100000) : PCall Go.Proofs.Tryd.prog 28 [.sl 65 els] (.val (.sl 65 els)) := (cloneW_row els hn).sealed

/-! ### What one knows -/
structure Rat where
  known : Bool
  open_ : Bool
  key : List UInt8
  chain : List UInt8
def ratA (r : Rat) : AV := .st [1, 1, 32, 32] [.lit (.bool r.known), .lit (.bool r.open_), keyA r.key, keyA r.chain]
def keysA (rs : List Rat) (ws : List AV) : AV := .st [528, 1] [.arr 66 (rs.map ratA), .sl 65 ws]
def rat0 : Rat := ⟨false, false, zk, zk⟩
def key2 : List UInt8 := 2 :: List.replicate 31 0
def key1 : List UInt8 := 1 :: List.replicate 31 0
def ratK (k : List UInt8) : Rat := ⟨true, false, key2, k⟩
def knownR (k : List UInt8) : List Rat := [rat0, ratK k, rat0, rat0, rat0, rat0, rat0, rat0]

/-- The table's Put, as a call of the kit. -/
theorem put_k {H : List (Option Blk)} {t : Tb} {V0 : Value} {ts0 ts : List Term} (hh : TbOk H t V0 ts0) (hn : ts.length < 100000) (x : Term) (hx : TermOk x) : KC Go.Proofs.Tryd.prog 16 [.ptr t.b t.l 0 [], .lit (jn x.kind), .lit (tx x.text), .sl 32 (klA x.keys)] H t ts (keyA (nameK (putN ts x))) (putT ts x) :=
  KC.of hh fun H V h => put_call h hn x hx

def sealT (k b s : List UInt8) : Term := ⟨6, s, [k, b]⟩
set_option maxHeartbeats 8000000 in
theorem seal_call {H : List (Option Blk)} {t : Tb} {V : Value} {ts : List Term} (hh : TbOk H t V ts) (hn : ts.length < 100000) {k b s : List UInt8} (hk : k.length = 32) (hb : b.length = 32) (hs : s.length < 100000) :
    XCall Go.Proofs.Tryd.prog 89 [.ptr t.b t.l 0 [], keyA k, keyA b, .lit (tx s), .sl 32 []] H fun r H' => r = .lit (tx (nameK (putN ts (sealT k b s)))) ∧ ∃ V', H' = tbOf H t V' (putT ts (sealT k b s)) := by
  have h555 := fc555_eq
  refine XCall.le ?_
  have hx : TermOk (sealT k b s) := ⟨by simp [sealT], hs, by simp [sealT], by simp [sealT, hk, hb]⟩
  have hput := put_k hh hn _ hx
  have hself := hh.self
  have nl := nameK_len (putN ts (sealT k b s))
  have G1 : ∀ V' ts', (tbOf H t V' ts').length = H.length := fun V' ts' => tbOf_len _ _ _ _
  have g1 : ∀ V' ts' L k, (tbOf H t V' ts' ++ L)[H.length + k]? = L[k]? := fun V' ts' L k => cat1 _ _ _ _ (G1 _ _)
  have g2 : ∀ V' ts' L k x, (tbOf H t V' ts' ++ L).set (H.length + k) x = tbOf H t V' ts' ++ L.set k x := fun V' ts' L k x => cat2 _ _ _ _ _ (G1 _ _)
  unfold sealT at *
  simp only at hput
  refine XCall.of h555 rfl ?_; show AC.wp _ fb555 ⟨H.length, [.ptr t.b t.l 0 [], keyA k, keyA b, .lit (tx s), .sl 32 []] ++ List.replicate (22 - 5) .any, H ++ List.replicate 22 none⟩ (fun x s => match x with | .exit _ => False | _ => ∃ s1, Le s s1 ∧ FinX [(.tmp 10)] s1 _); unfold fb555
  rw [← hself]
  rw [tbOf_len]
  generalize hN : H.length = N at *
  refine wp_sg (areg_bx rfl (by simp [AS.ev, keyA, AV.sz, bl, hk]) fun l6 => areg_bx rfl (by simp [AS.ev, keyA, AV.sz, bl, hb]) fun l7 => areg_end (by simp [push_cast, g2]; exact rfl) ?_)
  refine wp_sg ?_
  refine areg_run 4 (by simp [push_cast, g1, hk, hb]; exact rfl) ?_
  refine areg_bown (vs := [keyA k, keyA b]) (els := [keyA k, keyA b]) rfl (by simp [fillV, AV.sub, AV.isTup, AV.sz, AV.upd, keyA, bl_len, hk, hb] <;> rfl) (by intro t ht; cases ht) fun V1 => ?_
  refine areg_run 1 (by simp [push_cast]; exact rfl) ?_
  refine areg_ap (b := N + 16) (V := V1) (ys := []) rfl (by simp only [AS.blk, g2, g1]; rfl) (by simp [AS.ev, AS.coe]) (by simp [maxLen]) (by simp) (fun V2 => ?_)
  refine areg_run 0 (by simp [push_cast, g2]; exact rfl) ?_
  refine areg_xc (vs := [.ptr t.b t.l 0 [], .lit (jn 6), .lit (tx s), .own (N + 18) V2]) rfl (KC.seal (i := 3) (c := 18) (e := 29) (esz := 32) (els := klA [k, b]) (sl := 0) hput (by rw [← hN]; rfl) rfl) ⟨_, _, rfl, .slice none 0 0, rfl⟩ ?_
  rintro r H' ⟨rfl, V4, rfl⟩
  generalize nameK (putN ts ⟨6, s, [k, b]⟩) = nk at *
  refine areg_al' zk_eq.symm fun l11 => areg_end (by simp [push_cast, g1, g2, nl]; exact rfl) ?_
  refine wp_sg ?_
  refine areg_run 1 (by simp [push_cast, g1, g2, nl]; exact rfl) ?_
  refine areg_b2sv (u := .view (N + 11) l11 0 [] 1 0 32 32) (a := nk) rfl (by rw [listB_key (b := N + 11) (lo := 0) (len := 32) (cap := 32) (k := nk) (l := l11) (n := 32) (by simp only [AS.blk, g1]; rfl) (by omega), List.drop_zero, List.take_of_length_le (by omega)]) rfl ?_
  refine areg_end (by simp [push_cast]; exact rfl) (wp_ret' ?_)
  exact ⟨_, Le.refl _, finX1 (v := .lit (tx nk)) (by simp [AS.seals, RVals, RVal, AS.ev, AS.coe]) (by simp) ⟨_, _, RelLe.refl _, by simp, HpLe.trim _ _, rfl, V4, (hh.of_of _ _ _ _).symm⟩⟩

/-! ### Operations of the statement -/
def sayO (n : Nat) (m : List UInt8) : OpV := ⟨1, n, [key1], 7, [], zk, zk, m, [⟨2, zk, 0, 0, []⟩]⟩

theorem AVle.nilS (esz : Nat) : AVle (.lit (.slice none 0 0)) (.sl esz []) := fun Imm w cs h => by
  cases h with | lit _ hs => exact .slnil esz
theorem PCall.relLe {P : Program} {f : FuncId} {args : List AV} {r r' : AV} (h : PCall P f args (.val r)) (hr : RelLe r r') (hn : r' ≠ .any) : PCall P f args (.val r') := fun w St Vs a b => by
  refine Calls.mono (h w St Vs a b) fun e w' ⟨V, Imm, h1, h2, h3, h4⟩ => ⟨V, Imm, h1, h2, h3, ?_⟩
  exact ⟨hr _ _ _ h4.1, hn⟩

theorem fill_st {s : AS} {ns : List Nat} {fs : List AV} {i n : Nat} {x : Operand} {rest : List (Nat × Operand)} {v f : AV} {out : Option AV} (hv : s.ev x = v) (hs : ns[i]? = some n) (hf : fs[i]? = some f) (ht : v.isTup = false) (hz : v.sz = n) (h : fillAV s (.st ns (fs.set i v)) rest = out) : fillAV s (.st ns fs) ((i, x) :: rest) = out := by
  subst h
  rw [fillAV]
  simp only [AV.sub, hs, hf, hv, ht, hz, and_self, if_true]
  rw [AV.upd, AV.upd]
theorem fill_ar {s : AS} {n : Nat} {fs : List AV} {i : Nat} {x : Operand} {rest : List (Nat × Operand)} {v f : AV} {out : Option AV} (hv : s.ev x = v) (hf : fs[i]? = some f) (ht : v.isTup = false) (hz : v.sz = n) (h : fillAV s (.arr n (fs.set i v)) rest = out) : fillAV s (.arr n fs) ((i, x) :: rest) = out := by
  subst h
  rw [fillAV]
  simp only [AV.sub, hf, hv, ht, hz, and_self, if_true]
  rw [AV.upd, AV.upd]
theorem areg_bd {P : Program} {s : AS} {K : AS → Prop} {xs : List AOp} {d : Option Tmp} {z z' : AV} {parts : List (Nat × Operand)} {fo : List Tmp} {ow : Option Tmp} (hf : fillAV s z parts = some z') (h : AReg P xs (s.put d z') K) : AReg P (⟨d, none, .build z parts, fo, ow⟩ :: xs) s K := by
  refine AOp.ex_go (s' := s.put d z') ?_ h
  simp only [AOp.ex, AOp.ex0, AOp.mineB, if_true, ex_build, hf, Option.map_some]
theorem areg_bsl {P : Program} {s : AS} {K : AS → Prop} {xs : List AOp} {d : Option Tmp} {esz n k : Nat} {z : AV} {els : List AV} {parts : List (Nat × Operand)} {fo : List Tmp} {ow : Option Tmp} (hf : fillAV s (.arr esz (List.replicate n z)) parts = some (.arr k els)) (h : AReg P xs (s.put d (.sl esz els)) K) : AReg P (⟨d, none, .bslice esz z n parts, fo, ow⟩ :: xs) s K := by
  refine AOp.ex_go (s' := s.put d (.sl esz els)) ?_ h
  simp only [AOp.ex, AOp.ex0, AOp.mineB, if_true, ex_bslice, hf, Option.map_some]

def r0A : AV := ratA rat0
theorem r0A_sz : r0A.sz = 66 := rfl
theorem r0A_agg : r0A.isAgg = true := rfl
theorem r0A_tup : r0A.isTup = false := rfl
theorem ratA_sz {r : Rat} (h1 : r.key.length = 32) (h2 : r.chain.length = 32) : (ratA r).sz = 66 := by simp [ratA, AV.sz, keyA, h1, h2]
theorem ratA_agg (r : Rat) : (ratA r).isAgg = true := rfl
theorem ratA_tup (r : Rat) : (ratA r).isTup = false := rfl

set_option maxHeartbeats 4000000 in
theorem known_call {k : List UInt8} (hk : k.length = 32) : PCall Go.Proofs.Tryd.prog 7 [keyA k] (.val (keysA (knownR k) [])) := by
  have h511 := fc511_eq
  refine PCall.relLe (r := .st [528, 1] [.arr 66 ((knownR k).map ratA), .lit (.slice none 0 0)]) ?_ (RelLe.st (AVle.st1 (AVle.refl _) (AVle.st1 (AVle.nilS 65) AVle.st0))) (by simp [keysA])
  have hkn : (knownR k).map ratA = [r0A, .st [1, 1, 32, 32] [.lit (.bool true), .lit (.bool false), keyA key2, keyA k], r0A, r0A, r0A, r0A, r0A, r0A] := rfl
  have hk2 : key2.length = 32 := rfl
  rw [hkn]
  refine PCall.of h511 rfl ?_; show AC.wp _ fb511 (AS.init [keyA k] 1 10) (fun x s => match x with | .exit _ => False | _ => Fin [(.cell 2 .true 529)] s _); unfold fb511 AS.init
  refine wp_sg (areg_bx rfl (by simp [AS.ev, keyA, AV.sz, bl, hk]) fun l1 => ?_)
  refine areg_al' (z' := .st [528, 1] [.arr 66 [r0A, r0A, r0A, r0A, r0A, r0A, r0A, r0A], .lit (.slice none 0 0)]) rfl fun l2 => areg_end (by simp [push_cast]; exact rfl) ?_
  refine wp_sg (areg_al' (z' := .st [528, 1] [.arr 66 [r0A, r0A, r0A, r0A, r0A, r0A, r0A, r0A], .lit (.slice none 0 0)]) rfl fun l3 => areg_end (by simp [push_cast]; exact rfl) ?_)
  refine wp_sg ?_
  refine areg_bd (z' := keyA key2) (fill_ar rfl rfl rfl rfl rfl) ?_
  refine areg_run 1 (by simp [push_cast, hk]; exact rfl) ?_
  refine areg_bd (z' := .st [1, 1, 32, 32] [.lit (.bool true), .lit (.bool false), keyA key2, keyA k]) (fill_st rfl rfl rfl rfl rfl (fill_st rfl rfl rfl rfl rfl (fill_st rfl rfl rfl rfl (by simp [AV.sz, AS.ev, AS.put, keyA, hk, bl_len]) rfl))) ?_
  generalize key2 = k2 at *
  refine areg_end (by simp [push_cast, hk, hk2]; exact rfl) ?_
  refine wp_sr (by simp [push_cast, hk, hk2]; exact rfl) (wp_ret' ?_)
  exact fin_cell (by simp [RVal, AS.coe, tt, push_cast] <;> exact rfl) (by simp [keyA])
set_option maxHeartbeats 4000000 in
theorem say_call {n : Nat} (hn : n < 4294967296) : PCall Go.Proofs.Tryd.prog 9 [.lit (wn n)] (.val (opA (sayO n []))) := by
  have h512 := fc512_eq
  refine PCall.relLe (r := .st [1, 1, 1, 1, 1, 32, 32, 1, 1] [.lit (ji 1), .lit (wn n), .sl 32 (klA [key1]), .lit (ji 7), .lit (.slice none 0 0), keyA zk, keyA zk, .lit (tx []), .sl 36 [boxA ⟨2, zk, 0, 0, []⟩]]) ?_ (RelLe.st (AVle.st1 (AVle.refl _) (AVle.st1 (AVle.refl _) (AVle.st1 (AVle.refl _) (AVle.st1 (AVle.refl _) (AVle.st1 (AVle.nilS 1) (AVle.refl _))))))) (by simp [opA])
  refine PCall.of h512 rfl ?_; show AC.wp _ fb512 (AS.init [.lit (wn n)] 1 9) (fun x s => match x with | .exit _ => False | _ => Fin [(.cell 2 .true 71)] s _); unfold fb512 AS.init
  refine wp_sg (areg_al' (z' := .st [1, 1, 1, 1, 1, 32, 32, 1, 1] [.lit (ji 0), .lit (wn 0), .lit (.slice none 0 0), .lit (ji 0), .lit (.slice none 0 0), keyA zk, keyA zk, .lit (tx []), .lit (.slice none 0 0)]) rfl fun l2 => areg_end (by simp [push_cast]; exact rfl) ?_)
  refine wp_sg ?_
  refine areg_run 1 (by simp [push_cast]; exact rfl) ?_
  refine areg_bd (z' := keyA key1) (fill_ar rfl rfl rfl rfl rfl) ?_
  refine areg_bsl (k := 32) (els := klA [key1]) (fill_ar rfl rfl rfl rfl rfl) ?_
  refine areg_bd (z' := boxA ⟨2, zk, 0, 0, []⟩) (fill_st rfl rfl rfl rfl rfl rfl) ?_
  refine areg_bsl (k := 36) (els := [boxA ⟨2, zk, 0, 0, []⟩]) (fill_ar rfl rfl rfl rfl rfl) ?_
  refine areg_bd (z' := .st [1, 1, 1, 1, 1, 32, 32, 1, 1] [.lit (ji 1), .lit (wn n), .sl 32 (klA [key1]), .lit (ji 7), .lit (.slice none 0 0), keyA zk, keyA zk, .lit (tx []), .sl 36 [boxA ⟨2, zk, 0, 0, []⟩]]) (fill_st rfl rfl rfl rfl rfl (fill_st rfl rfl rfl rfl rfl (fill_st rfl rfl rfl rfl rfl (fill_st rfl rfl rfl rfl rfl (fill_st rfl rfl rfl rfl rfl rfl))))) ?_
  refine areg_end (by simp [push_cast]; exact rfl) (wp_ret' ?_)
  exact fin_cell (by simp [RVal, AS.coe, tt, push_cast] <;> exact rfl) (by simp [keyA])
end Go.Cab

/- Chain: next. -/
-- TEXTS
-- KIT
namespace Go.Cab
open Go.RowKit
open Classical
def fb518 : AC := (.seq (.reg [⟨(.some 4), .none, (.box 529 (.tmp 1)), [], .none⟩, ⟨(.some 6), .none, (.alloc 529 (.st [528, 1] [(.arr 66 (List.replicate 8 (.st [1, 1, 32, 32] [(.lit (.bool .false)), (.lit (.bool .false)), (.arr 1 (List.replicate 32 (.lit (bn 0)))), (.arr 1 (List.replicate 32 (.lit (bn 0))))]))), (.lit (.slice .none 0 0))])), [], .none⟩, ⟨(.some 7), .none, (.alloc 32 (.arr 1 (List.replicate 32 (.lit (bn 0))))), [], .none⟩, ⟨(.some 8), .none, (.mov (.const (jn 0))), [], .none⟩]) (.seq (.seq (.reg [⟨(.some 11), .none, (.mov (.tmp 2)), [], .none⟩, ⟨(.some 12), .none, (.faddr 0 0 (.tmp 4)), [], .none⟩, ⟨(.some 13), .none, (.iaddrA 8 66 (.tmp 12) (.tmp 11)), [], .none⟩, ⟨(.some 14), .none, (.faddr 0 0 (.tmp 13)), [], .none⟩, ⟨(.some 15), .none, (.load .false 1 (.tmp 14)), [], .none⟩, ⟨(.some 16), .none, (.un .not (.tmp 15)), [], .none⟩]) (.cond (.tmp 16) (.seq (.reg [⟨(.some 17), .none, (.build (.st [528, 1] [(.arr 66 (List.replicate 8 (.st [1, 1, 32, 32] [(.lit (.bool .false)), (.lit (.bool .false)), (.arr 1 (List.replicate 32 (.lit (bn 0)))), (.arr 1 (List.replicate 32 (.lit (bn 0))))]))), (.lit (.slice .none 0 0))]) []), [], .none⟩, ⟨(.some 18), .none, (.build (.arr 1 (List.replicate 32 (.lit (bn 0)))) []), [], .none⟩, ⟨.none, .none, (.store 529 (.tmp 6) (.tmp 17)), [], .none⟩, ⟨.none, .none, (.store 32 (.tmp 7) (.tmp 18)), [], .none⟩, ⟨(.some 8), .none, (.mov (.const (jn 18))), [], .none⟩]) .ret) .skip)) (.seq (.reg [⟨(.some 20), .none, (.mov (.tmp 0)), [], .none⟩, ⟨(.some 21), .none, (.mov (.tmp 2)), [], .none⟩, ⟨(.some 22), .none, (.faddr 0 0 (.tmp 4)), [], .none⟩, ⟨(.some 23), .none, (.iaddrA 8 66 (.tmp 22) (.tmp 21)), [], .none⟩, ⟨(.some 24), .none, (.faddr 34 3 (.tmp 23)), [], .none⟩, ⟨(.some 25), .none, (.load .true 32 (.tmp 24)), [], .none⟩, ⟨(.some 26), .none, (.bslice 32 (.arr 1 (List.replicate 32 (.lit (bn 0)))) 1 [(0, (.tmp 25))]), [], .none⟩, ⟨(.some 27), .none, (.xc (.dir 12) [(.tmp 20), (.const (tx [115, 97, 121])), (.tmp 26)] [] []), [], .none⟩, ⟨(.some 19), .none, (.mov (.tmp 27)), [], .none⟩, ⟨(.some 28), .none, (.ext (.tmp 19) 0), [], .none⟩, ⟨(.some 29), .none, (.ext (.tmp 19) 1), [], .none⟩, ⟨(.some 9), .none, (.alloc 32 (.arr 1 (List.replicate 32 (.lit (bn 0))))), [], .none⟩, ⟨(.some 10), .none, (.alloc 32 (.arr 1 (List.replicate 32 (.lit (bn 0))))), [], .none⟩, ⟨.none, .none, (.store 32 (.tmp 9) (.tmp 28)), [], .none⟩, ⟨.none, .none, (.store 32 (.tmp 10) (.tmp 29)), [], .none⟩]) (.seq (.reg [⟨(.some 30), .none, (.mov (.tmp 2)), [], .none⟩, ⟨(.some 31), .none, (.load .true 32 (.tmp 10)), [], .none⟩, ⟨(.some 32), .none, (.faddr 528 1 (.tmp 4)), [], .none⟩, ⟨(.some 33), .none, (.load .false 1 (.tmp 32)), [], .none⟩, ⟨(.some 34), .none, (.callv 28 [(.tmp 33)]), [], .none⟩, ⟨(.some 35), .none, (.faddr 0 0 (.tmp 4)), [], .none⟩, ⟨(.some 36), .none, (.iaddrA 8 66 (.tmp 35) (.tmp 30)), [], .none⟩, ⟨(.some 37), .none, (.faddr 34 3 (.tmp 36)), [], .none⟩, ⟨.none, .none, (.store 32 (.tmp 37) (.tmp 31)), [], .none⟩, ⟨(.some 38), .none, (.faddr 528 1 (.tmp 4)), [], .none⟩, ⟨.none, .none, (.store 1 (.tmp 38) (.tmp 34)), [], .none⟩]) (.seq (.reg [⟨(.some 39), .none, (.load .true 529 (.tmp 4)), [], .none⟩, ⟨(.some 40), .none, (.load .true 32 (.tmp 9)), [6], .none⟩, ⟨.none, .none, (.store 529 (.tmp 6) (.tmp 39)), [], (.some 6)⟩, ⟨.none, .none, (.store 32 (.tmp 7) (.tmp 40)), [], .none⟩, ⟨(.some 8), .none, (.mov (.const (jn 0))), [], .none⟩]) .ret)))))
def fc518 : FC := ⟨3, 41, [(.cell 6 .true 529), (.cell 7 .true 32), (.tmp 8)], fb518⟩
theorem fc518_eq : compF Go.Proofs.Tryd.prog 18 = some fc518 := by kernel_rfl

theorem RelLe.tup {l m : List AV} (h : AVle (.tup l) (.tup m)) : RelLe (.tup l) (.tup m) := fun Imm w V hr => by
  rcases hr with hr | ⟨cs, hr, e⟩
  · cases hr
  · exact .inr ⟨cs, h _ _ _ hr, e⟩
theorem AVle.tupSt {ns : List Nat} {fs fs' vs vs' : List AV} (h : AVle (.st ns fs) (.st ns fs')) (k : AVle (.tup vs) (.tup vs')) : AVle (.tup (.st ns fs :: vs)) (.tup (.st ns fs' :: vs')) := fun Imm w cs hr => by
  cases hr with
  | tup1 _ _ c d h1 h2 => exact .tup1 (.st ns fs') vs' c d (h _ _ _ h1) (k _ _ _ h2)
theorem AVle.tupC {v : AV} {vs vs' : List AV} (k : AVle (.tup vs) (.tup vs')) : AVle (.tup (v :: vs)) (.tup (v :: vs')) := fun Imm w cs hr => by
  cases hr with
  | tup1 _ _ c d h1 h2 => exact .tup1 v vs' c d h1 (k _ _ _ h2)

def txSay : List UInt8 := [115, 97, 121]
theorem txSay_len : txSay.length = 3 := rfl
theorem tx_say : Value.string ⟨⟨[115, 97, 121]⟩⟩ = tx txSay := rfl
def ksA (A ws : List AV) : AV := .st [528, 1] [.arr 66 A, .sl 65 ws]
def ks0 : AV := .st [528, 1] [.arr 66 [r0A, r0A, r0A, r0A, r0A, r0A, r0A, r0A], .lit (.slice none 0 0)]
theorem ks0_le : AVle ks0 (ksA [r0A, r0A, r0A, r0A, r0A, r0A, r0A, r0A] []) := AVle.st1 (AVle.refl _) (AVle.st1 (AVle.nilS 65) AVle.st0)
theorem two_k {H : List (Option Blk)} {t : Tb} {V0 : Value} {ts0 ts : List Term} (hh : TbOk H t V0 ts0) (hn : ts.length + 1 < 100000) {s : List UInt8} (hs : s.length < 90000) {ks : List (List UInt8)} (hk : ks.length < 100000) (h32 : ∀ k ∈ ks, k.length = 32) :
    KC Go.Proofs.Tryd.prog 12 [freeI t.b t.l, .lit (tx s), .sl 32 (klA ks)] H t ts (.tup [keyA (twoV ts s ks).1.1, keyA (twoV ts s ks).1.2]) (twoV ts s ks).2 := KC.of hh fun H V h => two_call h hn hs hk h32

/-- What one's next message is sealed by, and what is kept. -/
def nextV (ts : List Term) (c : List UInt8) : (List UInt8 × List UInt8) × List Term := twoV ts txSay [c]
theorem tgt_two (x y z : AV) : tgtA Go.Proofs.Tryd.prog (.dir 12) [x, y, z] = some (12, [x, y, z]) := by kernel_rfl

set_option maxHeartbeats 16000000 in
theorem next_call {H : List (Option Blk)} {t : Tb} {V : Value} {ts : List Term} (hh : TbOk H t V ts) (hn : ts.length + 1 < 100000) {A ws : List AV} {w : Nat} (hA : A.length = 8) {op : Bool} {k c : List UInt8} (hk : k.length = 32) (hc : c.length = 32)
    (hw : A[w]? = some (.st [1, 1, 32, 32] [.lit (.bool true), .lit (.bool op), keyA k, keyA c])) (hws : ws.length < 100000) :
    XCall Go.Proofs.Tryd.prog 18 [freeI t.b t.l, ksA A ws, .lit (jn w)] H fun r H' => r = .tup [ksA (A.set w (.st [1, 1, 32, 32] [.lit (.bool true), .lit (.bool op), keyA k, keyA (nextV ts c).1.2])) ws, keyA (nextV ts c).1.1, .lit (jn 0)] ∧ ∃ V', H' = tbOf H t V' (nextV ts c).2 := by
  have h518 := fc518_eq
  refine XCall.le ?_
  have hself := hh.self
  have hw8 : w < 8 := by have := (List.getElem?_eq_some_iff.1 hw).1; omega
  have c2 := two_k hh hn (s := txSay) (by simp [txSay]) (ks := [c]) (by simp) (by simp [hc])
  have cw := cloneW_call ws hws
  have n1 : (nextV ts c).1.1.length = 32 := nameK_len _
  have n2 : (nextV ts c).1.2.length = 32 := nameK_len _
  unfold nextV at *
  generalize twoV ts txSay [c] = tv at *
  obtain ⟨⟨k1, k2⟩, ts2⟩ := tv
  simp only at c2 n1 n2 ⊢
  have G1 : ∀ V' ts', (tbOf H t V' ts').length = H.length := fun V' ts' => tbOf_len _ _ _ _
  have g1 : ∀ V' ts' L k, (tbOf H t V' ts' ++ L)[H.length + k]? = L[k]? := fun V' ts' L k => cat1 _ _ _ _ (G1 _ _)
  have g2 : ∀ V' ts' L k x, (tbOf H t V' ts' ++ L).set (H.length + k) x = tbOf H t V' ts' ++ L.set k x := fun V' ts' L k x => cat2 _ _ _ _ _ (G1 _ _)
  have g4 : ∀ h, A[w]'h = .st [1, 1, 32, 32] [.lit (.bool true), .lit (.bool op), keyA k, keyA c] := fun h => by rw [List.getElem?_eq_getElem h] at hw; exact Option.some.inj hw
  have hwA : w < A.length := by omega
  unfold ksA
  refine XCall.of h518 rfl ?_; show AC.wp _ fb518 ⟨H.length, [freeI t.b t.l, .st [528, 1] [.arr 66 A, .sl 65 ws], .lit (jn w)] ++ List.replicate (41 - 3) .any, H ++ List.replicate 41 none⟩ (fun x s => match x with | .exit _ => False | _ => ∃ s1, Le s s1 ∧ FinX [(.cell 6 .true 529), (.cell 7 .true 32), (.tmp 8)] s1 _); unfold fb518
  rw [← hself]
  rw [tbOf_len]
  generalize hN : H.length = N at *
  refine wp_sg (areg_bx rfl rfl fun l4 => areg_al' (z' := ks0) rfl fun l6 => areg_al' zk_eq.symm fun l7 => areg_end (by simp [push_cast, g2]; exact rfl) ?_)
  refine wp_seq' (wp_sr (by simp [push_cast, g1, hA, hw, g4, hw8, hwA]; exact rfl) ?_)
  refine wp_cond_f (by simp [AS.ev]) (wp_skip' (wp_sg ?_))
  refine areg_run 6 (by simp [push_cast, g1, hA, hw, g4, hw8, hwA, hk, hc]; exact rfl) ?_
  refine areg_bsl (k := 32) (els := klA [c]) (fill_ar rfl rfl rfl (by simp [AV.sz, AS.ev, AS.put, hc, bl_len]) rfl) ?_
  refine areg_k [freeI t.b t.l, .lit (tx txSay), .sl 32 (klA [c])] hN rfl (tgt_two _ _ _) c2 (by simp) (by simp) fun V2 => ?_
  refine areg_run 3 (by simp [push_cast, g1, n1, n2]; exact rfl) ?_
  refine areg_al' zk_eq.symm fun l9 => areg_al' zk_eq.symm fun l10 => areg_end (by simp [push_cast, g1, g2, n1, n2]; exact rfl) ?_
  refine wp_sg ?_
  refine areg_run 4 (by simp [push_cast, g1, g2, hA, n1, n2]; exact rfl) ?_
  refine areg_cv (by simp [AS.ev, AS.coe, AS.put] <;> exact rfl) cw ?_
  refine areg_end (by simp [push_cast, g1, g2, hA, hw, g4, hw8, hwA, n1, n2, hk, hc]; exact rfl) ?_
  refine wp_sg ?_
  refine areg_end (by simp [push_cast, g1, g2, n1, n2, hA]; exact rfl) (wp_ret' ?_)
  exact ⟨_, Le.refl _, [], _, ⟨_, rfl, by simp [AS.seals, RVals, RVal, AS.ev, AS.peek, AS.blk, g1, Blk.loc, Blk.cont, Blk.n, AV.nav, AV.isAgg, AV.isTup, AS.coe]; rfl, by simp [keyA]⟩, .tup [.st [528, 1] [.arr 66 (A.set w (.st [1, 1, 32, 32] [.lit (.bool true), .lit (.bool op), keyA k, keyA k2])), .sl 65 ws], keyA k1, .lit (jn 0)], _, RelLe.refl _, by simp, HpLe.trim _ _, rfl, V2, (hh.of_of _ _ _ _).symm⟩

set_option maxHeartbeats 16000000 in
/-- .. of somebody of whom nothing is known. -/
theorem next_none {H : List (Option Blk)} {t : Tb} {V : Value} {ts : List Term} (hh : TbOk H t V ts) {A ws : List AV} {w : Nat} (hA : A.length = 8) {op : Bool} {k c : List UInt8} (hk : k.length = 32) (hc : c.length = 32)
    (hw : A[w]? = some (.st [1, 1, 32, 32] [.lit (.bool false), .lit (.bool op), keyA k, keyA c])) :
    XCall Go.Proofs.Tryd.prog 18 [freeI t.b t.l, ksA A ws, .lit (jn w)] H fun r H' => r = .tup [ksA [r0A, r0A, r0A, r0A, r0A, r0A, r0A, r0A] [], keyA zk, .lit (jn 18)] ∧ H' = H := by
  have h518 := fc518_eq
  refine XCall.le ?_
  have hself := hh.self
  have hw8 : w < 8 := by have := (List.getElem?_eq_some_iff.1 hw).1; omega
  have G1 : ∀ V' ts', (tbOf H t V' ts').length = H.length := fun V' ts' => tbOf_len _ _ _ _
  have g1 : ∀ V' ts' L k, (tbOf H t V' ts' ++ L)[H.length + k]? = L[k]? := fun V' ts' L k => cat1 _ _ _ _ (G1 _ _)
  have g2 : ∀ V' ts' L k x, (tbOf H t V' ts' ++ L).set (H.length + k) x = tbOf H t V' ts' ++ L.set k x := fun V' ts' L k x => cat2 _ _ _ _ _ (G1 _ _)
  have g4 : ∀ h, A[w]'h = .st [1, 1, 32, 32] [.lit (.bool false), .lit (.bool op), keyA k, keyA c] := fun h => by rw [List.getElem?_eq_getElem h] at hw; exact Option.some.inj hw
  have hwA : w < A.length := by omega
  unfold ksA
  refine XCall.of h518 rfl ?_; show AC.wp _ fb518 ⟨H.length, [freeI t.b t.l, .st [528, 1] [.arr 66 A, .sl 65 ws], .lit (jn w)] ++ List.replicate (41 - 3) .any, H ++ List.replicate 41 none⟩ (fun x s => match x with | .exit _ => False | _ => ∃ s1, Le s s1 ∧ FinX [(.cell 6 .true 529), (.cell 7 .true 32), (.tmp 8)] s1 _); unfold fb518
  rw [← hself]
  rw [tbOf_len]
  generalize hN : H.length = N at *
  refine wp_sg (areg_bx rfl rfl fun l4 => areg_al' (z' := ks0) rfl fun l6 => areg_al' zk_eq.symm fun l7 => areg_end (by simp [push_cast, g2]; exact rfl) ?_)
  refine wp_seq' (wp_sr (by simp [push_cast, g1, hA, hw, g4, hw8, hwA]; exact rfl) ?_)
  refine wp_cond_t (by simp [AS.ev]) (wp_sg ?_)
  refine areg_bd (z' := ks0) rfl (areg_bz ?_)
  have e1 : ks0.sz = 529 := rfl
  unfold ks0
  refine areg_end (by simp [push_cast, g1, g2, zk_len]; exact rfl) (wp_ret' ?_)
  refine ⟨_, Le.refl _, [], _, ⟨_, rfl, by simp [AS.seals, RVals, RVal, AS.ev, AS.peek, AS.blk, g1, Blk.loc, Blk.cont, Blk.n, AV.nav, AV.isAgg, AV.isTup, AS.coe]; rfl, by simp [keyA]⟩, .tup [.st [528, 1] [.arr 66 [r0A, r0A, r0A, r0A, r0A, r0A, r0A, r0A], .sl 65 []], keyA zk, .lit (jn 18)], tbOf H t V ts, ?_, by simp, HpLe.trim _ _, rfl, rfl⟩
  exact RelLe.tup (AVle.tupSt ks0_le (AVle.refl _))
end Go.Cab

/- Chain: Seal. -/
-- TEXTS
-- KIT
namespace Go.Cab
open Go.RowKit
open Classical
def fb513 : AC := (.seq (.reg [⟨(.some 5), .none, (.box 529 (.tmp 1)), [], .none⟩, ⟨(.some 6), .none, (.box 71 (.tmp 2)), [], .none⟩, ⟨(.some 8), .none, (.alloc 529 (.st [528, 1] [(.arr 66 (List.replicate 8 (.st [1, 1, 32, 32] [(.lit (.bool .false)), (.lit (.bool .false)), (.arr 1 (List.replicate 32 (.lit (bn 0)))), (.arr 1 (List.replicate 32 (.lit (bn 0))))]))), (.lit (.slice .none 0 0))])), [], .none⟩, ⟨(.some 9), .none, (.mov (.const (tx []))), [], .none⟩, ⟨(.some 10), .none, (.mov (.const (jn 0))), [], .none⟩]) (.seq (.reg [⟨(.some 13), .none, (.faddr 69 7 (.tmp 6)), [], .none⟩, ⟨.none, .none, (.store 1 (.tmp 13) (.const (tx [120]))), [], .none⟩]) (.seq (.seq (.reg [⟨(.some 14), .none, (.mov (.tmp 3)), [], .none⟩, ⟨(.some 15), .none, (.len .true (.tmp 14)), [], .none⟩, ⟨(.some 16), .none, (.bin .gtr (.tmp 15) (.const (jn 64))), [], .none⟩, ⟨(.some 17), .none, (.mov (.tmp 16)), [], .none⟩, ⟨(.some 18), (.some (17, .false)), (.load .true 71 (.tmp 6)), [], .none⟩, ⟨(.some 19), (.some (17, .false)), (.call 17 [(.tmp 18)]), [], .none⟩, ⟨(.some 20), (.some (17, .false)), (.un .not (.tmp 19)), [], .none⟩, ⟨(.some 21), .none, (.pick (.tmp 17) (.const (.bool .true)) (.tmp 20)), [], .none⟩]) (.cond (.tmp 21) (.seq (.reg [⟨(.some 22), .none, (.build (.st [528, 1] [(.arr 66 (List.replicate 8 (.st [1, 1, 32, 32] [(.lit (.bool .false)), (.lit (.bool .false)), (.arr 1 (List.replicate 32 (.lit (bn 0)))), (.arr 1 (List.replicate 32 (.lit (bn 0))))]))), (.lit (.slice .none 0 0))]) []), [], .none⟩, ⟨.none, .none, (.store 529 (.tmp 8) (.tmp 22)), [], .none⟩, ⟨(.some 9), .none, (.mov (.const (tx []))), [], .none⟩, ⟨(.some 10), .none, (.mov (.const (jn 1))), [], .none⟩]) .ret) .skip)) (.seq (.reg [⟨(.some 24), .none, (.mov (.tmp 0)), [], .none⟩, ⟨(.some 25), .none, (.load .true 529 (.tmp 5)), [], .none⟩, ⟨(.some 26), .none, (.faddr 0 0 (.tmp 6)), [], .none⟩, ⟨(.some 27), .none, (.load .false 1 (.tmp 26)), [], .none⟩, ⟨(.some 28), .none, (.xc (.dir 18) [(.tmp 24), (.tmp 25), (.tmp 27)] [] []), [], .none⟩, ⟨(.some 23), .none, (.mov (.tmp 28)), [], .none⟩, ⟨(.some 29), .none, (.ext (.tmp 23) 0), [], .none⟩, ⟨(.some 30), .none, (.ext (.tmp 23) 1), [], .none⟩, ⟨(.some 31), .none, (.ext (.tmp 23) 2), [], .none⟩, ⟨(.some 11), .none, (.alloc 32 (.arr 1 (List.replicate 32 (.lit (bn 0))))), [], .none⟩, ⟨.none, .none, (.store 529 (.tmp 5) (.tmp 29)), [], .none⟩, ⟨.none, .none, (.store 32 (.tmp 11) (.tmp 30)), [], .none⟩, ⟨(.some 12), .none, (.mov (.tmp 31)), [], .none⟩]) (.seq (.seq (.reg [⟨(.some 32), .none, (.mov (.tmp 12)), [], .none⟩, ⟨(.some 33), .none, (.bin .neq (.tmp 32) (.const (jn 0))), [], .none⟩]) (.cond (.tmp 33) (.seq (.reg [⟨(.some 34), .none, (.load .true 529 (.tmp 5)), [], .none⟩, ⟨(.some 35), .none, (.mov (.tmp 12)), [], .none⟩, ⟨.none, .none, (.store 529 (.tmp 8) (.tmp 34)), [], .none⟩, ⟨(.some 9), .none, (.mov (.const (tx []))), [], .none⟩, ⟨(.some 10), .none, (.mov (.tmp 35)), [], .none⟩]) .ret) .skip)) (.seq (.reg [⟨(.some 36), .none, (.load .true 529 (.tmp 5)), [], (.some 5)⟩, ⟨(.some 37), .none, (.mov (.tmp 0)), [], .none⟩, ⟨(.some 38), .none, (.load .true 32 (.tmp 11)), [8], (.some 11)⟩, ⟨(.some 39), .none, (.mov (.tmp 0)), [], .none⟩, ⟨(.some 40), .none, (.load .true 71 (.tmp 6)), [8], (.some 6)⟩, ⟨(.some 41), .none, (.xc (.dir 19) [(.tmp 39), (.tmp 40)] [5, 11] []), [], .none⟩, ⟨(.some 42), .none, (.mov (.tmp 3)), [], .none⟩, ⟨(.some 43), .none, (.rdp (.mkfn (.method "Seal") 1) [(.tmp 37)]), [], .none⟩, ⟨(.some 44), .none, (.rdp .nilv [(.tmp 43)]), [], .none⟩, ⟨(.some 45), .none, (.mov (.tmp 37)), [], .none⟩, ⟨(.some 46), .none, (.xc (.inv "Seal") [(.tmp 45), (.tmp 38), (.tmp 41), (.tmp 42), (.const (.slice .none 0 0))] [5] []), [], .none⟩, ⟨.none, .none, (.store 529 (.tmp 8) (.tmp 36)), [], (.some 8)⟩, ⟨(.some 9), .none, (.mov (.tmp 46)), [], .none⟩, ⟨(.some 10), .none, (.mov (.const (jn 0))), [], .none⟩]) .ret))))))
def fc513 : FC := ⟨4, 47, [(.cell 8 .true 529), (.tmp 9), (.tmp 10)], fb513⟩
theorem fc513_eq : compF Go.Proofs.Tryd.prog 10 = some fc513 := by kernel_rfl

theorem KC.args {P : Program} {f : FuncId} {vs vs' : List AV} {H : List (Option Blk)} {t : Tb} {ts ts' : List Term} {r : AV} (hl : ArgLe vs vs') (h : KC P f vs' H t ts r ts') : KC P f vs H t ts r ts' := fun V L => XCall.args hl (h V L)
theorem next_k {H : List (Option Blk)} {t : Tb} {V0 : Value} {ts0 ts : List Term} (hh : TbOk H t V0 ts0) (hn : ts.length + 1 < 100000) {A ws : List AV} {w : Nat} (hA : A.length = 8) {op : Bool} {k c : List UInt8} (hk : k.length = 32) (hc : c.length = 32)
    (hw : A[w]? = some (.st [1, 1, 32, 32] [.lit (.bool true), .lit (.bool op), keyA k, keyA c])) (hws : ws.length < 100000) :
    KC Go.Proofs.Tryd.prog 18 [freeI t.b t.l, ksA A ws, .lit (jn w)] H t ts (.tup [ksA (A.set w (.st [1, 1, 32, 32] [.lit (.bool true), .lit (.bool op), keyA k, keyA (nextV ts c).1.2])) ws, keyA (nextV ts c).1.1, .lit (jn 0)]) (nextV ts c).2 := KC.of hh fun H V h => next_call h hn hA hk hc hw hws
theorem by_k {H : List (Option Blk)} {t : Tb} {V0 : Value} {ts0 ts : List Term} (hh : TbOk H t V0 ts0) (hn : ts.length < 100000) {o : OpV} (ho : OpOk o) (hbl : ∀ b ∈ o.boxes, b.body.length < 9223372036854775808) (hw : o.who.length < 1000) (hp : o.parents.length < 1000) {it : Int → List UInt8} (hit : ∀ n ∈ numsV o, PCall Go.Proofs.Tryd.prog 39 [.lit (ji n)] (.val (.lit (tx (it n))))) (hil : ∀ n ∈ numsV o, (it n).length ≤ 30) :
    KC Go.Proofs.Tryd.prog 19 [freeI t.b t.l, opA o] H t ts (keyA (byV it ts o).1) (byV it ts o).2 := KC.of hh fun H V h => by_call h hn ho hbl hw hp hit hil
theorem seal_k {H : List (Option Blk)} {t : Tb} {V0 : Value} {ts0 ts : List Term} (hh : TbOk H t V0 ts0) (hn : ts.length < 100000) {k b s : List UInt8} (hk : k.length = 32) (hb : b.length = 32) (hs : s.length < 100000) :
    KC Go.Proofs.Tryd.prog 89 [.ptr t.b t.l 0 [], keyA k, keyA b, .lit (tx s), .lit (.slice none 0 0)] H t ts (.lit (tx (nameK (putN ts (sealT k b s))))) (putT ts (sealT k b s)) :=
  KC.args (vs' := [.ptr t.b t.l 0 [], keyA k, keyA b, .lit (tx s), .sl 32 []]) ⟨RelLe.refl _, RelLe.refl _, RelLe.refl _, RelLe.refl _, RelLe.nil 32, trivial⟩ (KC.of hh fun H V h => seal_call h hn hk hb hs)
theorem tgt_sealI (b : Nat) (l : Nat × Nat) (x y z u : AV) : tgtA Go.Proofs.Tryd.prog (.inv "Seal") [freeI b l, x, y, z, u] = some (89, [.ptr b l 0 [], x, y, z, u]) := by kernel_rfl
theorem tgt_by (x y : AV) : tgtA Go.Proofs.Tryd.prog (.dir 19) [x, y] = some (19, [x, y]) := by kernel_rfl
theorem tgt_next (x y z : AV) : tgtA Go.Proofs.Tryd.prog (.dir 18) [x, y, z] = some (18, [x, y, z]) := by kernel_rfl
theorem nilv_seal (b : Nat) (l : Nat × Nat) : rdA Go.Proofs.Tryd.prog (fun _ => none) .nilv [.fnv (.method "Seal") [freeI b l] []] = some (.fnv (.method "Seal") [freeI b l] []) := by kernel_rfl

/-- The operation that a message's box is bound to. -/
def txX : List UInt8 := [120]
def bindO (o : OpV) : OpV := { o with text := txX }
/-- What a message is, and what the table has then. -/
def msgV (it : Int → List UInt8) (ts : List Term) (o : OpV) (c s : List UInt8) : List UInt8 × List Term :=
  let n := nextV ts c
  let b := byV it n.2 (bindO o)
  (nameK (putN b.2 (sealT n.1.1 b.1 s)), putT b.2 (sealT n.1.1 b.1 s))
theorem nextV_len (ts : List Term) (c : List UInt8) : (nextV ts c).2.length ≤ ts.length + 2 := by
  unfold nextV twoV
  have h1 := putT_len ts ⟨2, txSay ++ [47, 49], [c]⟩
  have h2 := putT_len (putT ts ⟨2, txSay ++ [47, 49], [c]⟩) ⟨2, txSay ++ [47, 50], [c]⟩
  simp only
  omega
theorem byV_len (it : Int → List UInt8) (ts : List Term) (o : OpV) : (byV it ts o).2.length ≤ ts.length + 1 := by
  unfold byV
  split
  · exact (putT_len _ _).2
  · simp
theorem byV_32 (it : Int → List UInt8) (ts : List Term) (o : OpV) : (byV it ts o).1.length = 32 := by
  unfold byV
  split
  · exact nameK_len _
  · exact zk_len

set_option maxHeartbeats 16000000 in
theorem cseal_call {H : List (Option Blk)} {t : Tb} {V : Value} {ts : List Term} (hh : TbOk H t V ts) (hn : ts.length + 10 < 100000) {o : OpV} (ho : OpOk o) (hbl : ∀ b ∈ o.boxes, b.body.length < 9223372036854775808) (hw : o.who.length < 1000) (hp : o.parents.length < 1000) {it : Int → List UInt8} (hit : ∀ n ∈ numsV o, PCall Go.Proofs.Tryd.prog 39 [.lit (ji n)] (.val (.lit (tx (it n))))) (hil : ∀ n ∈ numsV o, (it n).length ≤ 30)
    (hsay : saysV (bindO o) = true) {w : Nat} (hau : o.author = (w : Int)) {A ws : List AV} (hA : A.length = 8) {op : Bool} {k c : List UInt8} (hk : k.length = 32) (hc : c.length = 32)
    (hwA : A[w]? = some (.st [1, 1, 32, 32] [.lit (.bool true), .lit (.bool op), keyA k, keyA c])) (hws : ws.length < 100000) {s : List UInt8} (hs : s.length ≤ 64) :
    XCall Go.Proofs.Tryd.prog 10 [freeI t.b t.l, ksA A ws, opA o, .lit (tx s)] H fun r H' => r = .tup [ksA (A.set w (.st [1, 1, 32, 32] [.lit (.bool true), .lit (.bool op), keyA k, keyA (nextV ts c).1.2])) ws, .lit (tx (msgV it ts o c s).1), .lit (jn 0)] ∧ ∃ V', H' = tbOf H t V' (msgV it ts o c s).2 := by
  have h513 := fc513_eq
  refine XCall.le ?_
  have hself := hh.self
  have ho' : OpOk (bindO o) := ⟨ho.seq, ho.parents, ho.p32, ho.who, ho.ofk, ho.check, by simp [bindO, txX], ho.boxes, ho.bok⟩
  have cS := says_call ho' hbl
  have l1 := nextV_len ts c
  have l2 := byV_len it (nextV ts c).2 (bindO o)
  have cN := next_k hh (ts := ts) (by omega) hA hk hc hwA hws
  have cB := by_k hh (ts := (nextV ts c).2) (by omega) ho' hbl hw hp (it := it) hit hil
  have n1 : (nextV ts c).1.1.length = 32 := nameK_len _
  have n2 : (nextV ts c).1.2.length = 32 := nameK_len _
  have n3 : (byV it (nextV ts c).2 (bindO o)).1.length = 32 := byV_32 _ _ _
  have cK := seal_k hh (ts := (byV it (nextV ts c).2 (bindO o)).2) (by omega) n1 n3 (s := s) (by omega)
  have o5 := ho.ofk
  have o6 := ho.check
  rw [hsay] at cS
  unfold msgV
  simp only
  generalize putT (byV it (nextV ts c).2 (bindO o)).2 _ = ts4 at *
  generalize nameK (putN (byV it (nextV ts c).2 (bindO o)).2 _) = nm at *
  generalize byV it (nextV ts c).2 (bindO o) = bv at *
  generalize nextV ts c = nv at *
  obtain ⟨⟨k1, k2⟩, ts2⟩ := nv
  obtain ⟨bk, ts3⟩ := bv
  simp only at *
  have hA1 : opA o = opB o.author o.seq o.parents o.kind (o.who.map fun x => AV.lit (ji x)) o.ofk o.check o.text (o.boxes.map fun x => boxA x) := rfl
  have hA2 : opA (bindO o) = opB o.author o.seq o.parents o.kind (o.who.map fun x => AV.lit (ji x)) o.ofk o.check txX (o.boxes.map fun x => boxA x) := rfl
  have haj : ji o.author = jn w := by rw [hau]; rfl
  rw [hA2] at cS cB
  rw [hA1]
  unfold opB at cS cB ⊢
  rw [haj] at cS cB ⊢
  generalize (o.who.map fun x => AV.lit (ji x)) = W at *
  generalize (o.boxes.map fun x => boxA x) = B at *
  have G1 : ∀ V' ts', (tbOf H t V' ts').length = H.length := fun V' ts' => tbOf_len _ _ _ _
  have g1 : ∀ V' ts' L k, (tbOf H t V' ts' ++ L)[H.length + k]? = L[k]? := fun V' ts' L k => cat1 _ _ _ _ (G1 _ _)
  have g2 : ∀ V' ts' L k x, (tbOf H t V' ts' ++ L).set (H.length + k) x = tbOf H t V' ts' ++ L.set k x := fun V' ts' L k x => cat2 _ _ _ _ _ (G1 _ _)
  have htx : tx [120] = tx txX := rfl
  have hs64 : ¬ 64 < s.length := by omega
  have hAs : (A.set w (.st [1, 1, 32, 32] [.lit (.bool true), .lit (.bool op), keyA k, keyA k2])).length = 8 := by rw [List.length_set]; exact hA
  unfold ksA at *
  generalize (A.set w (.st [1, 1, 32, 32] [.lit (.bool true), .lit (.bool op), keyA k, keyA k2])) = A2 at *
  refine XCall.of h513 rfl ?_; show AC.wp _ fb513 ⟨H.length, [freeI t.b t.l, .st [528, 1] [.arr 66 A, .sl 65 ws], .st [1, 1, 1, 1, 1, 32, 32, 1, 1] [.lit (jn w), .lit (wn o.seq), .sl 32 (klA o.parents), .lit (ji o.kind), .sl 1 W, keyA o.ofk, keyA o.check, .lit (tx o.text), .sl 36 B], .lit (tx s)] ++ List.replicate (47 - 4) .any, H ++ List.replicate 47 none⟩ (fun x s => match x with | .exit _ => False | _ => ∃ s1, Le s s1 ∧ FinX [(.cell 8 .true 529), (.tmp 9), (.tmp 10)] s1 _); unfold fb513
  rw [← hself]
  rw [tbOf_len]
  generalize hN : H.length = N at *
  refine wp_sg (areg_bx rfl rfl fun l5 => areg_bx rfl (by simp [AS.ev, AV.sz]) fun l6 => areg_al' (z' := ks0) rfl fun l8 => areg_end (by simp [push_cast, g2]; exact rfl) ?_)
  refine wp_sg (areg_end (by simp [push_cast, g1, g2, o5, o6, htx]; exact rfl) ?_)
  refine wp_seq' (wp_sg ?_)
  refine areg_run 5 (by simp [push_cast, g1, o5, o6, hs, hs64]; exact rfl) ?_
  unfold keyA at cS
  refine areg_g (by simp [AS.ev, AS.put, hs]) (areg_ca (by simp [AS.ev, AS.coe, AS.put] <;> exact rfl) cS ?_)
  refine areg_end (by simp [push_cast, hs, hs64]; exact rfl) ?_
  refine wp_cond_f (by simp [AS.ev]) (wp_skip' (wp_sg ?_))
  refine areg_run 4 (by simp [push_cast, g1, o5, o6]; exact rfl) ?_
  refine areg_k [freeI t.b t.l, .st [528, 1] [.arr 66 A, .sl 65 ws], .lit (jn w)] hN rfl (tgt_next _ _ _) cN (by simp) (by simp) fun V2 => ?_
  refine areg_run 4 (by simp [push_cast, g1, n1, n2]; exact rfl) ?_
  refine areg_al' zk_eq.symm fun l11 => areg_end (by simp [push_cast, g1, g2, n1, n2, hA, hAs]; exact rfl) ?_
  refine wp_seq' (wp_sr (by simp [push_cast, g1]; exact rfl) ?_)
  refine wp_cond_f (by simp [AS.ev]) (wp_skip' (wp_sg ?_))
  refine areg_run 5 (by simp [push_cast, g1, g2, hAs, n1, o5, o6]; exact rfl) ?_
  unfold keyA at cB
  refine areg_k [freeI t.b t.l, .st [1, 1, 1, 1, 1, 32, 32, 1, 1] [.lit (jn w), .lit (wn o.seq), .sl 32 (klA o.parents), .lit (ji o.kind), .sl 1 W, .arr 1 (bl o.ofk), .arr 1 (bl o.check), .lit (tx txX), .sl 36 B]] hN rfl (tgt_by _ _) cB (by simp) (by simp [AS.ev, AV.place]) fun V3 => ?_
  refine areg_run 1 (by simp [push_cast]; exact rfl) ?_
  refine areg_rdp (us := [freeI t.b t.l]) rfl (mkfn_draw _ _ _) ?_
  refine areg_rdp (us := [.fnv (.method "Seal") [freeI t.b t.l] []]) rfl (nilv_seal _ _) ?_
  refine areg_run 1 (by simp [push_cast]; exact rfl) ?_
  refine areg_k [freeI t.b t.l, keyA k1, keyA bk, .lit (tx s), .lit (.slice none 0 0)] hN rfl (tgt_sealI _ _ _ _ _ _) cK (by simp) (by simp [AS.ev, AV.place]) fun V4 => ?_
  refine areg_end (by simp [push_cast, g1, g2, hAs]; exact rfl) (wp_ret' ?_)
  exact ⟨_, Le.refl _, [], _, ⟨_, rfl, by simp [AS.seals, RVals, RVal, AS.ev, AS.peek, AS.blk, g1, Blk.loc, Blk.cont, Blk.n, AV.nav, AV.isAgg, AV.isTup, AS.coe]; rfl, by simp [keyA]⟩, .tup [.st [528, 1] [.arr 66 A2, .sl 65 ws], .lit (tx nm), .lit (jn 0)], _, RelLe.refl _, by simp, HpLe.trim _ _, rfl, V4, (hh.of_of _ _ _ _).symm⟩
end Go.Cab

/- The table's Open; chain's Open. -/
-- TEXTS
-- KIT
namespace Go.Cab
open Go.RowKit
open Classical
def fb554 : AC := (.seq (.reg [⟨(.some 5), .none, (.box 32 (.tmp 1)), [], .none⟩, ⟨(.some 6), .none, (.box 32 (.tmp 2)), [], .none⟩, ⟨(.some 8), .none, (.mov (.const (tx []))), [], .none⟩, ⟨(.some 9), .none, (.mov (.const (.slice .none 0 0))), [], .none⟩, ⟨(.some 10), .none, (.mov (.const (.bool .false))), [], .none⟩]) (.seq (.reg [⟨(.some 11), .none, (.alloc 32 (.arr 1 (List.replicate 32 (.lit (bn 0))))), [], .none⟩]) (.seq (.seq (.reg [⟨(.some 14), .none, (.mov (.tmp 3)), [], .none⟩, ⟨(.some 15), .none, (.len .true (.tmp 14)), [], .none⟩, ⟨(.some 16), .none, (.bin .neq (.tmp 15) (.const (jn 32))), [], .none⟩]) (.cond (.tmp 16) (.seq (.reg [⟨(.some 8), .none, (.mov (.const (tx []))), [], .none⟩, ⟨(.some 9), .none, (.mov (.const (.slice .none 0 0))), [], .none⟩, ⟨(.some 10), .none, (.mov (.const (.bool .false))), [], .none⟩]) .ret) .skip)) (.seq (.reg [⟨(.some 17), .none, (.rdp (.vslice 1 32 .false .false) [(.tmp 11)]), [], .none⟩, ⟨(.some 18), .none, (.mov (.tmp 3)), [], .none⟩, ⟨(.some 19), .none, (.ef (.copy 1) [(.tmp 17), (.tmp 18)]), [], .none⟩]) (.seq (.reg [⟨(.some 20), .none, (.mov (.tmp 0)), [], .none⟩, ⟨(.some 21), .none, (.load .true 32 (.tmp 11)), [], .none⟩, ⟨(.some 22), .none, (.icall 30 (.tmp 20) [(.tmp 21)]), [], .none⟩, ⟨(.some 12), .none, (.mov (.tmp 22)), [], .none⟩]) (.seq (.seq (.reg [⟨(.some 23), .none, (.mov (.tmp 12)), [], .none⟩, ⟨(.some 24), .none, (.bin .lss (.tmp 23) (.const (jn 0))), [], .none⟩]) (.cond (.tmp 24) (.seq (.reg [⟨(.some 8), .none, (.mov (.const (tx []))), [], .none⟩, ⟨(.some 9), .none, (.mov (.const (.slice .none 0 0))), [], .none⟩, ⟨(.some 10), .none, (.mov (.const (.bool .false))), [], .none⟩]) .ret) .skip)) (.seq (.reg [⟨(.some 25), .none, (.mov (.tmp 0)), [], .none⟩, ⟨(.some 26), .none, (.nilc (.tmp 25)), [], .none⟩, ⟨(.some 27), .none, (.faddr 0 0 (.tmp 26)), [], .none⟩, ⟨(.some 28), .none, (.load .false 1 (.tmp 27)), [], .none⟩, ⟨(.some 29), .none, (.mov (.tmp 12)), [], .none⟩, ⟨(.some 30), .none, (.iaddrS 3 (.tmp 28) (.tmp 29)), [], .none⟩, ⟨(.some 31), .none, (.load .true 3 (.tmp 30)), [], .none⟩, ⟨(.some 13), .none, (.alloc 3 (.st [1, 1, 1] [(.lit (jn 0)), (.lit (tx [])), (.lit (.slice .none 0 0))])), [], .none⟩, ⟨.none, .none, (.store 3 (.tmp 13) (.tmp 31)), [], .none⟩]) (.seq (.seq (.reg [⟨(.some 32), .none, (.faddr 0 0 (.tmp 13)), [], .none⟩, ⟨(.some 33), .none, (.load .false 1 (.tmp 32)), [], .none⟩, ⟨(.some 34), .none, (.bin .neq (.tmp 33) (.const (jn 6))), [], .none⟩, ⟨(.some 35), .none, (.mov (.tmp 34)), [], .none⟩, ⟨(.some 36), (.some (35, .false)), (.faddr 2 2 (.tmp 13)), [], .none⟩, ⟨(.some 37), (.some (35, .false)), (.load .false 1 (.tmp 36)), [], .none⟩, ⟨(.some 38), (.some (35, .false)), (.iaddrS 32 (.tmp 37) (.const (jn 0))), [], .none⟩, ⟨(.some 39), (.some (35, .false)), (.load .true 32 (.tmp 38)), [], .none⟩, ⟨(.some 40), (.some (35, .false)), (.load .true 32 (.tmp 5)), [], .none⟩, ⟨(.some 41), (.some (35, .false)), (.eqv 29 .true (.tmp 39) (.tmp 40)), [], .none⟩, ⟨(.some 42), .none, (.pick (.tmp 35) (.const (.bool .true)) (.tmp 41)), [], .none⟩, ⟨(.some 43), .none, (.mov (.tmp 42)), [], .none⟩, ⟨(.some 44), (.some (43, .false)), (.faddr 2 2 (.tmp 13)), [], .none⟩, ⟨(.some 45), (.some (43, .false)), (.load .false 1 (.tmp 44)), [], .none⟩, ⟨(.some 46), (.some (43, .false)), (.iaddrS 32 (.tmp 45) (.const (jn 1))), [], .none⟩, ⟨(.some 47), (.some (43, .false)), (.load .true 32 (.tmp 46)), [], .none⟩, ⟨(.some 48), (.some (43, .false)), (.load .true 32 (.tmp 6)), [], .none⟩, ⟨(.some 49), (.some (43, .false)), (.eqv 29 .true (.tmp 47) (.tmp 48)), [], .none⟩, ⟨(.some 50), .none, (.pick (.tmp 43) (.const (.bool .true)) (.tmp 49)), [], .none⟩]) (.cond (.tmp 50) (.seq (.reg [⟨(.some 8), .none, (.mov (.const (tx []))), [], .none⟩, ⟨(.some 9), .none, (.mov (.const (.slice .none 0 0))), [], .none⟩, ⟨(.some 10), .none, (.mov (.const (.bool .false))), [], .none⟩]) .ret) .skip)) (.seq (.reg [⟨(.some 51), .none, (.faddr 1 1 (.tmp 13)), [], .none⟩, ⟨(.some 52), .none, (.load .false 1 (.tmp 51)), [], .none⟩, ⟨(.some 53), .none, (.faddr 2 2 (.tmp 13)), [], .none⟩, ⟨(.some 54), .none, (.load .false 1 (.tmp 53)), [], .none⟩, ⟨(.some 55), .none, (.rdp (.sslice 32 .true .false) [(.tmp 54), (.const (jn 2))]), [], .none⟩, ⟨(.some 56), .none, (.callv 24 [(.tmp 55)]), [], .none⟩, ⟨(.some 8), .none, (.mov (.tmp 52)), [], .none⟩, ⟨(.some 9), .none, (.mov (.tmp 56)), [], .none⟩, ⟨(.some 10), .none, (.mov (.const (.bool .true))), [], .none⟩]) .ret)))))))))
def fc554 : FC := ⟨4, 57, [(.tmp 8), (.tmp 9), (.tmp 10)], fb554⟩
theorem fc554_eq : compF Go.Proofs.Tryd.prog 88 = some fc554 := by kernel_rfl

theorem AVle.tupNil {esz : Nat} {vs vs' : List AV} (k : AVle (.tup vs) (.tup vs')) : AVle (.tup (.lit (.slice none 0 0) :: vs)) (.tup (.sl esz [] :: vs')) := fun Imm w cs hr => by
  cases hr with
  | tup1 _ _ c d h1 h2 =>
    cases h1
    exact .tup1 (.sl esz []) vs' _ d (.slnil esz) (k _ _ _ h2)

/-- What is in a box. -/
def openX (ts : List Term) (k b m : List UInt8) : Option Term :=
  if m.length ≠ 32 then none else if ts.length ≤ be32 m ∨ nameK (be32 m) ≠ m then none else match ts[be32 m]? with
    | some x => if x.kind = 6 ∧ x.keys.getD 0 zk = k ∧ x.keys.getD 1 zk = b then some x else none
    | none => none
def openA (o : Option Term) : AV := match o with
  | none => .tup [.lit (tx []), .sl 32 [], .lit (.bool false)]
  | some x => .tup [.lit (tx x.text), .sl 32 (klA (x.keys.drop 2)), .lit (.bool true)]
theorem open_no : RelLe (.tup [.lit (tx []), .lit (.slice none 0 0), .lit (.bool false)]) (openA none) := RelLe.tup (AVle.tupC (AVle.tupNil (AVle.refl _)))

set_option maxHeartbeats 16000000 in
theorem open_call {H : List (Option Blk)} {t : Tb} {V : Value} {ts : List Term} (hh : TbOk H t V ts) (hts : TsOk ts) {k b m : List UInt8} (hk : k.length = 32) (hb : b.length = 32) (hm : m.length < 9223372036854775808) :
    XCall Go.Proofs.Tryd.prog 88 [.ptr t.b t.l 0 [], keyA k, keyA b, .lit (tx m)] H fun r H' => r = openA (openX ts k b m) ∧ H' = H := by
  have h554 := fc554_eq
  refine XCall.le ?_
  have hn := hts.len
  have lb := hh.lb; have lj := hh.lj
  have gb := hh.hb; have gj := hh.hj
  unfold tbk at gb
  unfold trk at gj
  have c1 := fun L (h : m.length = 32) => number_call (hh.app L) (by omega) h
  obtain ⟨n, hv, hX⟩ : ∃ n, numV ts.length m = (if ts.length ≤ n ∨ nameK n ≠ m then .int .i64 (-1) else jn n) ∧ openX ts k b m = (if m.length ≠ 32 then none else if ts.length ≤ n ∨ nameK n ≠ m then none else match ts[n]? with
    | some x => if x.kind = 6 ∧ x.keys.getD 0 zk = k ∧ x.keys.getD 1 zk = b then some x else none
    | none => none) := ⟨be32 m, rfl, rfl⟩
  rw [hX]
  simp only [hv] at c1
  clear hv hX
  refine XCall.of h554 rfl ?_; show AC.wp _ fb554 ⟨H.length, [.ptr t.b t.l 0 [], keyA k, keyA b, .lit (tx m)] ++ List.replicate (57 - 4) .any, H ++ List.replicate 57 none⟩ (fun x s => match x with | .exit _ => False | _ => ∃ s1, Le s s1 ∧ FinX [(.tmp 8), (.tmp 9), (.tmp 10)] s1 _); unfold fb554
  generalize hN : H.length = N at *
  have p1 : ∀ L k, (H ++ L)[N + k]? = L[k]? := fun L k => cat1 N H L k hN
  have p2 : ∀ L k x, (H ++ L).set (N + k) x = H ++ L.set k x := fun L k x => cat2 N H L k x hN
  have pb : ∀ L, (H ++ L)[t.b]? = some (some (.box t.l 2 (.st [1, 1] [.own t.j V, .own t.m (.map (some t.r))]))) := fun L => by rw [cat4 N H L _ hN lb]; exact gb
  have pj : ∀ L, (H ++ L)[t.j]? = some (some (.row 82 V 3 (ts.map termA) 0)) := fun L => by rw [cat4 N H L _ hN lj]; exact gj
  refine wp_sg (areg_bx rfl (by simp [AS.ev, keyA, AV.sz, bl, hk]) fun l5 => areg_bx rfl (by simp [AS.ev, AS.put, keyA, AV.sz, bl, hb]) fun l6 => areg_end (by simp [push_cast, p1, p2]; exact rfl) ?_)
  refine wp_sg (areg_al' zk_eq.symm fun l11 => areg_end (by simp [push_cast, p1, p2]; exact rfl) ?_)
  refine wp_seq' ?_
  by_cases hl : m.length = 32
  · rw [if_neg (by simp [hl])]
    refine wp_sr (by simp [push_cast, hl]; exact rfl) (wp_cond_f rfl (wp_skip' ?_))
    refine wp_sg ?_
    refine areg_run 2 (by simp [push_cast]; exact rfl) ?_
    refine areg_cpk (src := m) (k' := m) rfl (by simp only [AS.blk, p1]; rfl) (listB_tx _ _) (by simp [zk_len]) (by omega) (by simp [List.drop_eq_nil_of_le, hl, zk_len]) (areg_nil ?_)
    refine wp_sg ?_
    refine areg_run 2 (by simp [push_cast, p1, p2, hl]; exact rfl) ?_
    refine areg_xc rfl (c1 _ hl) ⟨_, _, rfl, rfl⟩ ?_
    rintro r H' ⟨rfl, rfl⟩
    refine areg_end (by simp [push_cast]; exact rfl) ?_
    by_cases hnum : ts.length ≤ n ∨ nameK n ≠ m
    · rw [if_pos hnum, if_pos hnum]
      refine wp_seq' (wp_seq' (wp_r (by simp [push_cast, bin_lssm]; exact rfl) ?_))
      refine wp_cond_t rfl (wp_sr (by simp [push_cast]; exact rfl) (wp_ret' ?_))
      exact ⟨_, Le.refl _, [], _, ⟨_, rfl, by simp [AS.seals, RVals, RVal, AS.ev, AS.peek, AS.blk, p1, AS.coe], by simp⟩, openA none, H, open_no, by simp [openA], HpLe.trim _ _, rfl, rfl⟩
    rw [if_neg hnum, if_neg hnum]
    have hlt : n < ts.length := by omega
    have g1 : ts[n]? = some ts[n] := List.getElem?_eq_getElem hlt
    have hmem : ts[n] ∈ ts := List.getElem_mem hlt
    have hok := hts.ok _ hmem
    have htwo := hts.two _ hmem
    rw [g1]
    simp only
    generalize ts[n] = x at *
    obtain ⟨kd, tt', ks⟩ := x
    have g2 : (ts.map termA)[n]? = some (.st [1, 1, 1] [.lit (jn kd), .lit (tx tt'), .sl 32 (klA ks)]) := by rw [List.getElem?_map, g1]; rfl
    have g3 : ∀ h, (ts.map termA)[n]'h = .st [1, 1, 1] [.lit (jn kd), .lit (tx tt'), .sl 32 (klA ks)] := fun h => by rw [List.getElem?_eq_getElem h] at g2; exact Option.some.inj g2
    have gl : (ts.map termA).length = ts.length := List.length_map _
    generalize ts.map termA = T at *
    refine wp_seq' (wp_seq' (wp_r (by simp [push_cast]; exact rfl) (wp_cond_f rfl (wp_skip' ?_))))
    refine wp_sg ?_
    refine areg_run 7 (by simp [push_cast, pb, pj, hlt, g2, g3, gl]; exact rfl) ?_
    refine areg_al' (z' := .st [1, 1, 1] [.lit (jn 0), .lit (tx []), .lit (.slice none 0 0)]) rfl fun l13 => areg_end (by simp [push_cast, p1, p2]; exact rfl) ?_
    by_cases h6 : kd = 6
    · subst h6
      obtain ⟨a, b', r, rfl⟩ : ∃ a b' r, ks = a :: b' :: r := by
        have h2 : 2 ≤ ks.length := htwo (.inr rfl)
        match ks, h2 with
        | a :: b' :: r, _ => exact ⟨a, b', r, rfl⟩
      have ha32 : a.length = 32 := hok.k32 a (by simp)
      have hb32 : b'.length = 32 := hok.k32 b' (by simp)
      have e1 := eq_key ha32 hk
      have e2 := eq_key hb32 hb
      have kl : klA (a :: b' :: r) = keyA a :: keyA b' :: klA r := rfl
      have hr : (klA r).length < 100000 := by rw [klA_len]; have := hok.keys; simp at this; omega
      have cC := clone_call (klA r) hr
      have he : (if ({ kind := 6, text := tt', keys := a :: b' :: r } : Term).kind = 6 ∧ (a :: b' :: r).getD 0 zk = k ∧ (a :: b' :: r).getD 1 zk = b then some ({ kind := 6, text := tt', keys := a :: b' :: r } : Term) else none) = if a = k ∧ b' = b then some ⟨6, tt', a :: b' :: r⟩ else none := by simp
      rw [he]
      have hfin : (.tup [.lit (tx tt'), .sl 32 (klA r), .lit (.bool true)] : AV) = openA (some ⟨6, tt', a :: b' :: r⟩) := rfl
      rw [kl] at *
      generalize klA r = rr at *
      refine wp_seq' (wp_seq' (wp_rg ?_))
      refine areg_run 9 (by simp [push_cast, p1, ha32, hb32, hk, hb]; exact rfl) ?_
      refine areg_g (by simp [AS.ev, AS.put]) (areg_eq (by simp [AS.ev, AS.put] <;> exact rfl) (by simp [AS.ev, AS.put] <;> exact rfl) e1 rfl rfl ?_)
      by_cases hak : a = k
      · refine areg_run 7 (by simp [push_cast, p1, ha32, hb32, hk, hb, hak]; exact rfl) ?_
        refine areg_g (by simp [AS.ev, AS.put]) (areg_eq (by simp [AS.ev, AS.put] <;> exact rfl) (by simp [AS.ev, AS.put] <;> exact rfl) e2 rfl rfl ?_)
        by_cases hbk : b' = b
        · rw [if_pos (show a = k ∧ b' = b from ⟨hak, hbk⟩)]
          refine areg_end (by simp [push_cast, hbk]; exact rfl) ?_
          refine wp_cond_f (by simp [AS.ev]) (wp_skip' (wp_sg ?_))
          refine areg_run 5 (by simp [push_cast, p1]; exact rfl) ?_
          refine areg_cv (by simp [AS.ev, AS.coe, AS.put] <;> exact rfl) cC ?_
          refine areg_end (by simp [push_cast]; exact rfl) (wp_ret' ?_)
          exact ⟨_, Le.refl _, [], _, ⟨_, rfl, by simp [AS.seals, RVals, RVal, AS.ev, AS.peek, AS.blk, p1, AS.coe], by simp⟩, .tup [.lit (tx tt'), .sl 32 rr, .lit (.bool true)], H, RelLe.refl _, by simp, HpLe.trim _ _, hfin, rfl⟩
        · rw [if_neg (show ¬ (a = k ∧ b' = b) from fun h => hbk h.2)]
          refine areg_end (by simp [push_cast, hbk]; exact rfl) ?_
          refine wp_cond_t (by simp [AS.ev]) (wp_sr (by simp [push_cast]; exact rfl) (wp_ret' ?_))
          exact ⟨_, Le.refl _, [], _, ⟨_, rfl, by simp [AS.seals, RVals, RVal, AS.ev, AS.peek, AS.blk, p1, AS.coe], by simp⟩, openA none, H, open_no, by simp [openA], HpLe.trim _ _, rfl, rfl⟩
      · rw [if_neg (show ¬ (a = k ∧ b' = b) from fun h => hak h.1)]
        refine areg_end (by simp [push_cast, hak]; exact rfl) ?_
        refine wp_cond_t (by simp [AS.ev]) (wp_sr (by simp [push_cast]; exact rfl) (wp_ret' ?_))
        exact ⟨_, Le.refl _, [], _, ⟨_, rfl, by simp [AS.seals, RVals, RVal, AS.ev, AS.peek, AS.blk, p1, AS.coe], by simp⟩, openA none, H, open_no, by simp [openA], HpLe.trim _ _, rfl, rfl⟩
    · rw [if_neg (by simp [h6])]
      refine wp_seq' (wp_seq' (wp_r (by simp [push_cast, p1, h6]; exact rfl) ?_))
      refine wp_cond_t rfl (wp_sr (by simp [push_cast]; exact rfl) (wp_ret' ?_))
      exact ⟨_, Le.refl _, [], _, ⟨_, rfl, by simp [AS.seals, RVals, RVal, AS.ev, AS.peek, AS.blk, p1, AS.coe], by simp⟩, openA none, H, open_no, by simp [openA], HpLe.trim _ _, rfl, rfl⟩
  · rw [if_pos hl]
    refine wp_sr (by simp [push_cast, hl]; exact rfl) (wp_cond_t rfl (wp_sr (by simp [push_cast]; exact rfl) (wp_ret' ?_)))
    exact ⟨_, Le.refl _, [], _, ⟨_, rfl, by simp [AS.seals, RVals, RVal, AS.ev, AS.peek, AS.blk, p1, AS.coe], by simp⟩, openA none, H, open_no, by simp [openA], HpLe.trim _ _, rfl, rfl⟩
end Go.Cab

/- Part 10 of what the proof stands on: Z1, Z2, Z3, Z4, Z5. -/
import Derived.Test.YtiikindmkllbiaaDoorCab07
import Derived.Test.YtiikindmkllbiaaDoorCab09
set_option linter.unusedSimpArgs false
set_option linter.unnecessarySimpa false
set_option linter.unusedVariables false
set_option linter.unusedSectionVars false
namespace Go.Cab
open Go.RowKit
open Classical
def fb543 : AC := (.seq (.reg [⟨some 2, none, .mov (.const (tx [])), [], none⟩]) (.seq (.seq (.reg [⟨some 3, none, .mov (.tmp 0), [], none⟩, ⟨some 4, none, .bin .lss (.tmp 3) (.const (jn 10)), [], none⟩]) (.cond (.tmp 4) (.seq (.reg [⟨some 5, none, .mov (.tmp 0), [], none⟩, ⟨some 6, none, .mov (.tmp 0), [], none⟩, ⟨some 7, none, .bin .add (.tmp 6) (.const (jn 1)), [], none⟩, ⟨some 8, none, .prim (.ssub true true) [(.const (tx [48, 49, 50, 51, 52, 53, 54, 55, 56, 57, 97, 98, 99, 100, 101, 102, 103, 104, 105, 106, 107, 108, 109, 110, 111, 112, 113, 114, 115, 116, 117, 118, 119, 120, 121, 122])), (.tmp 5), (.tmp 7)], [], none⟩, ⟨some 2, none, .mov (.tmp 8), [], none⟩]) .ret) .skip)) (.seq (.reg [⟨some 9, none, .mov (.tmp 0), [], none⟩, ⟨some 10, none, .bin .mul (.tmp 9) (.const (jn 2)), [], none⟩, ⟨some 11, none, .mov (.tmp 0), [], none⟩, ⟨some 12, none, .bin .mul (.tmp 11) (.const (jn 2)), [], none⟩, ⟨some 13, none, .bin .add (.tmp 12) (.const (jn 2)), [], none⟩, ⟨some 14, none, .prim (.ssub true true) [(.const (tx [48, 48, 48, 49, 48, 50, 48, 51, 48, 52, 48, 53, 48, 54, 48, 55, 48, 56, 48, 57, 49, 48, 49, 49, 49, 50, 49, 51, 49, 52, 49, 53, 49, 54, 49, 55, 49, 56, 49, 57, 50, 48, 50, 49, 50, 50, 50, 51, 50, 52, 50, 53, 50, 54, 50, 55, 50, 56, 50, 57, 51, 48, 51, 49, 51, 50, 51, 51, 51, 52, 51, 53, 51, 54, 51, 55, 51, 56, 51, 57, 52, 48, 52, 49, 52, 50, 52, 51, 52, 52, 52, 53, 52, 54, 52, 55, 52, 56, 52, 57, 53, 48, 53, 49, 53, 50, 53, 51, 53, 52, 53, 53, 53, 54, 53, 55, 53, 56, 53, 57, 54, 48, 54, 49, 54, 50, 54, 51, 54, 52, 54, 53, 54, 54, 54, 55, 54, 56, 54, 57, 55, 48, 55, 49, 55, 50, 55, 51, 55, 52, 55, 53, 55, 54, 55, 55, 55, 56, 55, 57, 56, 48, 56, 49, 56, 50, 56, 51, 56, 52, 56, 53, 56, 54, 56, 55, 56, 56, 56, 57, 57, 48, 57, 49, 57, 50, 57, 51, 57, 52, 57, 53, 57, 54, 57, 55, 57, 56, 57, 57])), (.tmp 10), (.tmp 13)], [], none⟩, ⟨some 2, none, .mov (.tmp 14), [], none⟩]) .ret)))
def fc543 : FC := ⟨1, 15, [(.tmp 2)], fb543⟩
theorem fc543_eq : compF Go.Proofs.Tryd.prog 43 = some fc543 := by kernel_rfl
def fb554 : AC := (.seq (.reg [⟨some 5, none, .box 32 (.tmp 1), [], none⟩, ⟨some 6, none, .box 32 (.tmp 2), [], none⟩, ⟨some 8, none, .mov (.const (tx [])), [], none⟩, ⟨some 9, none, .mov (.const (.slice .none 0 0)), [], none⟩, ⟨some 10, none, .mov (.const (.bool false)), [], none⟩]) (.seq (.reg [⟨some 11, none, .alloc 32 (.arr 1 (List.replicate 32 (.lit (bn 0)))), [], none⟩]) (.seq (.seq (.reg [⟨some 14, none, .mov (.tmp 3), [], none⟩, ⟨some 15, none, .len true (.tmp 14), [], none⟩, ⟨some 16, none, .bin .neq (.tmp 15) (.const (jn 32)), [], none⟩]) (.cond (.tmp 16) (.seq (.reg [⟨some 8, none, .mov (.const (tx [])), [], none⟩, ⟨some 9, none, .mov (.const (.slice .none 0 0)), [], none⟩, ⟨some 10, none, .mov (.const (.bool false)), [], none⟩]) .ret) .skip)) (.seq (.reg [⟨some 17, none, .rdp (.vslice 1 32 false false) [.tmp 11], [], none⟩, ⟨some 18, none, .mov (.tmp 3), [], none⟩, ⟨some 19, none, .ef (.copy 1) [.tmp 17, .tmp 18], [], none⟩]) (.seq (.reg [⟨some 20, none, .mov (.tmp 0), [], none⟩, ⟨some 21, none, .load true 32 (.tmp 11), [], none⟩, ⟨some 22, none, .icall 36 (.tmp 20) [.tmp 21], [], none⟩, ⟨some 12, none, .mov (.tmp 22), [], none⟩]) (.seq (.seq (.reg [⟨some 23, none, .mov (.tmp 12), [], none⟩, ⟨some 24, none, .bin .lss (.tmp 23) (.const (jn 0)), [], none⟩]) (.cond (.tmp 24) (.seq (.reg [⟨some 8, none, .mov (.const (tx [])), [], none⟩, ⟨some 9, none, .mov (.const (.slice .none 0 0)), [], none⟩, ⟨some 10, none, .mov (.const (.bool false)), [], none⟩]) .ret) .skip)) (.seq (.reg [⟨some 25, none, .mov (.tmp 0), [], none⟩, ⟨some 26, none, .nilc (.tmp 25), [], none⟩, ⟨some 27, none, .faddr 0 0 (.tmp 26), [], none⟩, ⟨some 28, none, .load false 1 (.tmp 27), [], none⟩, ⟨some 29, none, .mov (.tmp 12), [], none⟩, ⟨some 30, none, .iaddrS 3 (.tmp 28) (.tmp 29), [], none⟩, ⟨some 31, none, .load true 3 (.tmp 30), [], none⟩, ⟨some 13, none, .alloc 3 (.st [1, 1, 1] [(.lit (jn 0)), (.lit (tx [])), (.lit (.slice .none 0 0))]), [], none⟩, ⟨none, none, .store 3 (.tmp 13) (.tmp 31), [], none⟩]) (.seq (.seq (.reg [⟨some 32, none, .faddr 0 0 (.tmp 13), [], none⟩, ⟨some 33, none, .load false 1 (.tmp 32), [], none⟩, ⟨some 34, none, .bin .neq (.tmp 33) (.const (jn 6)), [], none⟩, ⟨some 35, none, .mov (.tmp 34), [], none⟩, ⟨some 36, some (35, false), .faddr 2 2 (.tmp 13), [], none⟩, ⟨some 37, some (35, false), .load false 1 (.tmp 36), [], none⟩, ⟨some 38, some (35, false), .iaddrS 32 (.tmp 37) (.const (jn 0)), [], none⟩, ⟨some 39, some (35, false), .load true 32 (.tmp 38), [], none⟩, ⟨some 40, some (35, false), .load true 32 (.tmp 5), [], none⟩, ⟨some 41, some (35, false), .eqv 29 true (.tmp 39) (.tmp 40), [], none⟩, ⟨some 42, none, .pick (.tmp 35) (.const (.bool true)) (.tmp 41), [], none⟩, ⟨some 43, none, .mov (.tmp 42), [], none⟩, ⟨some 44, some (43, false), .faddr 2 2 (.tmp 13), [], none⟩, ⟨some 45, some (43, false), .load false 1 (.tmp 44), [], none⟩, ⟨some 46, some (43, false), .iaddrS 32 (.tmp 45) (.const (jn 1)), [], none⟩, ⟨some 47, some (43, false), .load true 32 (.tmp 46), [], none⟩, ⟨some 48, some (43, false), .load true 32 (.tmp 6), [], none⟩, ⟨some 49, some (43, false), .eqv 29 true (.tmp 47) (.tmp 48), [], none⟩, ⟨some 50, none, .pick (.tmp 43) (.const (.bool true)) (.tmp 49), [], none⟩]) (.cond (.tmp 50) (.seq (.reg [⟨some 8, none, .mov (.const (tx [])), [], none⟩, ⟨some 9, none, .mov (.const (.slice .none 0 0)), [], none⟩, ⟨some 10, none, .mov (.const (.bool false)), [], none⟩]) .ret) .skip)) (.seq (.reg [⟨some 51, none, .faddr 1 1 (.tmp 13), [], none⟩, ⟨some 52, none, .load false 1 (.tmp 51), [], none⟩, ⟨some 53, none, .faddr 2 2 (.tmp 13), [], none⟩, ⟨some 54, none, .load false 1 (.tmp 53), [], none⟩, ⟨some 55, none, .rdp (.sslice 32 true false) [(.tmp 54), (.const (jn 2))], [], none⟩, ⟨some 56, none, .callv 31 [.tmp 55], [], none⟩, ⟨some 8, none, .mov (.tmp 52), [], none⟩, ⟨some 9, none, .mov (.tmp 56), [], none⟩, ⟨some 10, none, .mov (.const (.bool true)), [], none⟩]) .ret)))))))))
def fc554 : FC := ⟨4, 57, [(.tmp 8), (.tmp 9), (.tmp 10)], fb554⟩
theorem fc554_eq : compF Go.Proofs.Tryd.prog 74 = some fc554 := by kernel_rfl
def fb555 : AC := (.seq (.reg [⟨some 6, none, .box 32 (.tmp 1), [], none⟩, ⟨some 7, none, .box 32 (.tmp 2), [], none⟩, ⟨some 10, none, .mov (.const (tx [])), [], none⟩]) (.seq (.reg [⟨some 12, none, .mov (.tmp 0), [], none⟩, ⟨some 13, none, .mov (.tmp 3), [], none⟩, ⟨some 14, none, .load true 32 (.tmp 6), [], none⟩, ⟨some 15, none, .load true 32 (.tmp 7), [], none⟩, ⟨some 16, none, .ef (.bown 29 32 (.arr 1 (List.replicate 32 (.lit (bn 0)))) 2 [0, 1]) [.tmp 14, .tmp 15], [], none⟩, ⟨some 17, none, .mov (.tmp 4), [], none⟩, ⟨some 18, none, .append 29 32 32 (.tmp 16) (.tmp 17), [], none⟩, ⟨some 19, none, .icall 18 (.tmp 12) [(.const (jn 6)), (.tmp 13), (.tmp 18)], [], none⟩, ⟨some 11, none, .alloc 32 (.arr 1 (List.replicate 32 (.lit (bn 0)))), [], none⟩, ⟨none, none, .store 32 (.tmp 11) (.tmp 19), [], none⟩]) (.seq (.reg [⟨some 20, none, .rdp (.vslice 1 32 false false) [.tmp 11], [], none⟩, ⟨some 21, none, .rd .b2sv [.tmp 20], [], none⟩, ⟨some 10, none, .mov (.tmp 21), [], none⟩]) .ret)))
def fc555 : FC := ⟨5, 22, [(.tmp 10)], fb555⟩
theorem fc555_eq : compF Go.Proofs.Tryd.prog 76 = some fc555 := by kernel_rfl
def fb515 : AC := (.seq (.reg [⟨some 6, none, .alloc 32 (.arr 1 (List.replicate 32 (.lit (bn 0)))), [], none⟩, ⟨some 7, none, .alloc 32 (.arr 1 (List.replicate 32 (.lit (bn 0)))), [], none⟩]) (.seq (.reg [⟨some 8, none, .mov (.tmp 0), [], none⟩, ⟨some 9, none, .mov (.tmp 1), [], none⟩, ⟨some 10, none, .bin .add (.tmp 9) (.const (tx [47, 49])), [], none⟩, ⟨some 11, none, .mov (.tmp 2), [], none⟩, ⟨some 12, none, .xc (.inv "Hash") [.tmp 8, .tmp 10, .tmp 11] [] [], [], none⟩, ⟨some 13, none, .mov (.tmp 0), [], none⟩, ⟨some 14, none, .mov (.tmp 1), [], none⟩, ⟨some 15, none, .bin .add (.tmp 14) (.const (tx [47, 50])), [], none⟩, ⟨some 16, none, .mov (.tmp 2), [], none⟩, ⟨some 17, none, .xc (.inv "Hash") [.tmp 13, .tmp 15, .tmp 16] [] [], [], none⟩, ⟨none, none, .store 32 (.tmp 6) (.tmp 12), [], none⟩, ⟨none, none, .store 32 (.tmp 7) (.tmp 17), [], none⟩]) .ret))
def fc515 : FC := ⟨3, 18, [(.cell 6 .true 32), (.cell 7 .true 32)], fb515⟩
theorem fc515_eq : compF Go.Proofs.Tryd.prog 21 = some fc515 := by kernel_rfl
def fb643 : AC := (.seq (.reg [⟨some 2, none, .mov (.const (tx [])), [], none⟩]) (.seq (.seq (.reg [⟨some 3, none, .mov (.tmp 0), [], none⟩, ⟨some 4, none, .bin .lss (.tmp 3) (.const (un 10)), [], none⟩]) (.cond (.tmp 4) (.seq (.reg [⟨some 5, none, .mov (.tmp 0), [], none⟩, ⟨some 6, none, .bin .add (.const (un 48)) (.tmp 5), [], none⟩, ⟨some 7, none, .cvt .u8 (.tmp 6), [], none⟩, ⟨some 8, none, .bslice 1 (.lit (bn 0)) 1 [(0, (.tmp 7))], [], none⟩, ⟨some 9, none, .b2s (.tmp 8), [], none⟩, ⟨some 2, none, .mov (.tmp 9), [], none⟩]) .ret) .skip)) (.seq (.reg [⟨some 10, none, .mov (.tmp 0), [], none⟩, ⟨some 11, none, .bin .quo (.tmp 10) (.const (un 10)), [], none⟩, ⟨some 12, none, .callv 9 [.tmp 11], [], none⟩, ⟨some 13, none, .mov (.tmp 0), [], none⟩, ⟨some 14, none, .bin .rem (.tmp 13) (.const (un 10)), [], none⟩, ⟨some 15, none, .bin .add (.const (un 48)) (.tmp 14), [], none⟩, ⟨some 16, none, .cvt .u8 (.tmp 15), [], none⟩, ⟨some 17, none, .bslice 1 (.lit (bn 0)) 1 [(0, (.tmp 16))], [], none⟩, ⟨some 18, none, .b2s (.tmp 17), [], none⟩, ⟨some 19, none, .bin .add (.tmp 12) (.tmp 18), [], none⟩, ⟨some 2, none, .mov (.tmp 19), [], none⟩]) .ret)))
def fc643 : FC := ⟨1, 20, [(.tmp 2)], fb643⟩
theorem fc643_eq : compF Go.Proofs.Tryd.prog 9 = some fc643 := by kernel_rfl
def fb922 : AC := (.seq (.reg [⟨some 2, none, .mov (.const (.slice .none 0 0)), [], none⟩]) (.seq (.seq (.reg [⟨some 3, none, .mov (.tmp 0), [], none⟩, ⟨some 4, none, .ef (.isnil false) [.tmp 3], [], none⟩]) (.cond (.tmp 4) (.seq (.reg [⟨some 2, none, .mov (.const (.slice .none 0 0)), [], none⟩]) .ret) .skip)) (.seq (.reg [⟨some 5, none, .ef (.bown 80 65 (.st [32, 1, 32] [(.arr 1 (List.replicate 32 (.lit (bn 0)))), (.lit (wn 0)), (.arr 1 (List.replicate 32 (.lit (bn 0))))]) 0 []) [], [], none⟩, ⟨some 6, none, .mov (.tmp 0), [], none⟩, ⟨some 7, none, .append 80 65 68 (.tmp 5) (.tmp 6), [], none⟩, ⟨some 2, none, .mov (.tmp 7), [], none⟩]) .ret)))
def fc922 : FC := ⟨1, 8, [(.tmp 2)], fb922⟩
theorem fc922_eq : compF Go.Proofs.Tryd.prog 34 = some fc922 := by kernel_rfl
def fb930 : AC := (.seq (.reg [⟨some 4, none, .mov (.const (tx [])), [], none⟩]) (.seq (.reg [⟨some 5, none, .mov (.tmp 0), [], none⟩, ⟨some 6, none, .mov (.tmp 1), [], none⟩, ⟨some 7, none, .call 40 [.tmp 5, .tmp 6], [], none⟩, ⟨some 4, none, .mov (.tmp 7), [], none⟩]) .ret))
def fc930 : FC := ⟨2, 8, [(.tmp 4)], fb930⟩
theorem fc930_eq : compF Go.Proofs.Tryd.prog 35 = some fc930 := by kernel_rfl
def fb931 : AC := (.seq (.reg [⟨some 4, none, .mov (.const (tx [])), [], none⟩]) (.seq (.seq (.reg [⟨some 9, none, .mov (.tmp 1), [], none⟩, ⟨some 10, none, .bin .eql (.tmp 9) (.const (jn 10)), [], none⟩]) (.cond (.tmp 10) (.seq (.seq (.reg [⟨some 11, none, .mov (.tmp 0), [], none⟩, ⟨some 12, none, .bin .lss (.tmp 11) (.const (un 100)), [], none⟩]) (.cond (.tmp 12) (.seq (.reg [⟨some 13, none, .mov (.tmp 0), [], none⟩, ⟨some 14, none, .cvt .i64 (.tmp 13), [], none⟩, ⟨some 15, none, .call 43 [.tmp 14], [], none⟩, ⟨some 4, none, .mov (.tmp 15), [], none⟩]) .ret) .skip)) (.seq (.reg [⟨some 5, none, .alloc 24 (.arr 1 (List.replicate 24 (.lit (bn 0)))), [], none⟩]) (.seq (.reg [⟨some 16, none, .mov (.tmp 0), [], none⟩, ⟨some 17, none, .call 44 [.tmp 16], [], none⟩, ⟨some 6, none, .mov (.tmp 17), [], none⟩]) (.seq (.reg [⟨some 18, none, .mov (.tmp 6), [], none⟩, ⟨some 19, none, .rdp (.vslice 1 24 false true) [.tmp 5, .tmp 18], [], none⟩, ⟨some 20, none, .mov (.tmp 0), [], none⟩, ⟨some 21, none, .xc (.dir 45) [.tmp 19, .tmp 20] [] [], [], none⟩]) (.seq (.reg [⟨some 22, none, .mov (.tmp 6), [], none⟩, ⟨some 23, none, .rdp (.vslice 1 24 false true) [.tmp 5, .tmp 22], [], none⟩, ⟨some 24, none, .rd .b2sv [.tmp 23], [], none⟩, ⟨some 4, none, .mov (.tmp 24), [], none⟩]) .ret))))) .skip)) (.seq (.reg [⟨some 26, none, .mov (.tmp 0), [], none⟩, ⟨some 27, none, .mov (.tmp 1), [], none⟩, ⟨some 28, none, .call 46 [(.const (.slice .none 0 0)), (.tmp 26), (.tmp 27), (.const (.bool false)), (.const (.bool false))], [], none⟩, ⟨some 25, none, .mov (.tmp 28), [], none⟩, ⟨some 29, none, .ext (.tmp 25) 0, [], none⟩, ⟨some 30, none, .ext (.tmp 25) 1, [], none⟩, ⟨some 7, none, .mov (.tmp 29), [], none⟩, ⟨some 8, none, .mov (.tmp 30), [], none⟩]) (.seq (.reg [⟨some 31, none, .mov (.tmp 8), [], none⟩, ⟨some 4, none, .mov (.tmp 31), [], none⟩]) .ret))))
def fc931 : FC := ⟨2, 32, [(.tmp 4)], fb931⟩
theorem fc931_eq : compF Go.Proofs.Tryd.prog 40 = some fc931 := by kernel_rfl
theorem argsOk_of {Imm : Nat → Nat → Prop} {w : World} : ∀ {vs : List AV} {Vs : List Value}, vs.length = Vs.length → (∀ (t : Nat) (v : AV), vs[t]? = some v → Rel Imm w v (Vs.toArray.getD t undef)) → ArgsOk Imm w vs Vs
  | [], [], _, _ => trivial
  | v :: vs, V :: Vs, h, k => ⟨by simpa using k 0 v rfl, argsOk_of (by simpa using h) fun t u hu => by simpa using k (t + 1) u (by simpa using hu)⟩
  | [], _ :: _, h, _ => by simp at h
  | _ :: _, [], h, _ => by simp at h
theorem XCall.ofLe {P : Program} {f : FuncId} {vs vs' : List AV} {H H2 : List (Option Blk)} {K : AV → List (Option Blk) → Prop} (hle : Le ⟨0, vs, H⟩ ⟨0, vs', H2⟩) (hl : vs'.length = vs.length) (h : XCall P f vs' H2 K) : XCall P f vs H K := by
  intro w0 w regs Imm0 Vs hfr hth hheap hargs
  obtain ⟨hlen, hget⟩ := argsOk_len hargs
  have hS : SRel w0 w regs Imm0 ⟨0, vs, H⟩ { tmps := Vs.toArray, defers := [] } w := by
    refine ⟨rfl, by simp [hlen], hth.tab, hfr, Imm0, ⟨fun _ _ h => h, fun _ _ h _ => h, hth.there, fun _ _ _ => rfl⟩, fun t v hv => ?_, hheap⟩
    obtain ⟨V, hV, hr⟩ := hget t v hv
    have : Vs.toArray.getD t undef = V := by
      obtain ⟨h1, h2⟩ := List.getElem?_eq_some_iff.1 hV
      simp [Array.getD, h1, h2]
    rw [this]; exact hr
  obtain ⟨Imm, i1, i2, i3⟩ := (hle _ _ _ _ _ _ hS).ex
  have hargs' : ArgsOk Imm w vs' Vs := argsOk_of (by rw [hl, hlen]) fun t v hv => i2 t v hv
  refine Calls.mono (h w0 w regs Imm Vs hfr ⟨i1.there, hth.tab⟩ i3 hargs') ?_
  rintro e w' ⟨V, r, hp', Imm', he, hk, g1, g2, g3, g4, g5⟩
  exact ⟨V, r, hp', Imm', he, hk, g1, ⟨fun b o hb => g2.sub b o (i1.sub b o hb), fun b o hb hlt => i1.old b o (g2.old b o hb hlt) hlt, g2.there, fun b o hb => g2.val b o (i1.sub b o hb)⟩, g3, g4, g5⟩
def dec2 (n : Nat) : List UInt8 := if n < 10 then [dig8 n] else [dig8 (n / 10), dig8 (n % 10)]
theorem dec2_len (n : Nat) : (dec2 n).length ≤ 2 := by unfold dec2; split <;> simp
set_option maxRecDepth 20000 in
theorem small_call (n : Nat) (hn : n < 100) : PCall Go.Proofs.Tryd.prog 43 [.lit (jn n)] (.val (.lit (tx (dec2 n)))) := by
  have h543 := fc543_eq
  refine PCall.of h543 rfl ?_; show AC.wp _ fb543 (AS.init [.lit (jn n)] 1 15) (fun x s => match x with | .exit _ => False | _ => Fin [(.tmp 2)] s _); unfold fb543 AS.init
  refine wp_sr (by simp [push_cast]; exact rfl) ?_
  by_cases h10 : n < 10
  · refine wp_seq' (wp_seq' (wp_r (by simp [push_cast, h10]; exact rfl) (wp_cond_t rfl ?_)))
    have q1 : n + 1 < 9223372036854775808 := by omega
    have hd : ∀ n, n < 10 → (([48, 49, 50, 51, 52, 53, 54, 55, 56, 57, 97, 98, 99, 100, 101, 102, 103, 104, 105, 106, 107, 108, 109, 110, 111, 112, 113, 114, 115, 116, 117, 118, 119, 120, 121, 122] : List UInt8).take (n + 1)).drop n = dec2 n := by decide
    have hp := hd n h10
    have hsub : primVal (.ssub true true) [tx [48, 49, 50, 51, 52, 53, 54, 55, 56, 57, 97, 98, 99, 100, 101, 102, 103, 104, 105, 106, 107, 108, 109, 110, 111, 112, 113, 114, 115, 116, 117, 118, 119, 120, 121, 122], jn n, jn (n + 1)] = some (tx (dec2 n)) := by
      rw [prim_sub2, if_pos ⟨by simp only [List.length_cons, List.length_nil]; omega, by omega⟩, hp]
    generalize ([48, 49, 50, 51, 52, 53, 54, 55, 56, 57, 97, 98, 99, 100, 101, 102, 103, 104, 105, 106, 107, 108, 109, 110, 111, 112, 113, 114, 115, 116, 117, 118, 119, 120, 121, 122] : List UInt8) = dl at *
    refine wp_sg ?_
    refine areg_run 3 (by simp [push_cast, q1]; exact rfl) ?_
    refine AOp.ex_go (s' := _) (by simp only [AOp.ex, AOp.ex0, AOp.mineB, ex_prim, AS.lits, List.map_cons, List.map_nil, AS.ev, AS.put]; simp [primA_some, hsub]; exact rfl) ?_
    refine areg_end (by simp [push_cast]; exact rfl) (wp_ret' ?_)
    exact fin_tmp (by simp [RVal, AS.ev, AS.coe]) (by simp)
  · refine wp_seq' (wp_seq' (wp_r (by simp [push_cast, h10]; exact rfl) (wp_cond_f rfl (wp_skip' ?_))))
    have q1 : n * 2 < 9223372036854775808 := by omega
    have q2 : n * 2 + 2 < 9223372036854775808 := by omega
    have hd : ∀ n, n < 100 → ¬ n < 10 → (([48, 48, 48, 49, 48, 50, 48, 51, 48, 52, 48, 53, 48, 54, 48, 55, 48, 56, 48, 57, 49, 48, 49, 49, 49, 50, 49, 51, 49, 52, 49, 53, 49, 54, 49, 55, 49, 56, 49, 57, 50, 48, 50, 49, 50, 50, 50, 51, 50, 52, 50, 53, 50, 54, 50, 55, 50, 56, 50, 57, 51, 48, 51, 49, 51, 50, 51, 51, 51, 52, 51, 53, 51, 54, 51, 55, 51, 56, 51, 57, 52, 48, 52, 49, 52, 50, 52, 51, 52, 52, 52, 53, 52, 54, 52, 55, 52, 56, 52, 57, 53, 48, 53, 49, 53, 50, 53, 51, 53, 52, 53, 53, 53, 54, 53, 55, 53, 56, 53, 57, 54, 48, 54, 49, 54, 50, 54, 51, 54, 52, 54, 53, 54, 54, 54, 55, 54, 56, 54, 57, 55, 48, 55, 49, 55, 50, 55, 51, 55, 52, 55, 53, 55, 54, 55, 55, 55, 56, 55, 57, 56, 48, 56, 49, 56, 50, 56, 51, 56, 52, 56, 53, 56, 54, 56, 55, 56, 56, 56, 57, 57, 48, 57, 49, 57, 50, 57, 51, 57, 52, 57, 53, 57, 54, 57, 55, 57, 56, 57, 57] : List UInt8).take (n * 2 + 2)).drop (n * 2) = dec2 n := by decide
    have hp := hd n hn h10
    have hsub : primVal (.ssub true true) [tx [48, 48, 48, 49, 48, 50, 48, 51, 48, 52, 48, 53, 48, 54, 48, 55, 48, 56, 48, 57, 49, 48, 49, 49, 49, 50, 49, 51, 49, 52, 49, 53, 49, 54, 49, 55, 49, 56, 49, 57, 50, 48, 50, 49, 50, 50, 50, 51, 50, 52, 50, 53, 50, 54, 50, 55, 50, 56, 50, 57, 51, 48, 51, 49, 51, 50, 51, 51, 51, 52, 51, 53, 51, 54, 51, 55, 51, 56, 51, 57, 52, 48, 52, 49, 52, 50, 52, 51, 52, 52, 52, 53, 52, 54, 52, 55, 52, 56, 52, 57, 53, 48, 53, 49, 53, 50, 53, 51, 53, 52, 53, 53, 53, 54, 53, 55, 53, 56, 53, 57, 54, 48, 54, 49, 54, 50, 54, 51, 54, 52, 54, 53, 54, 54, 54, 55, 54, 56, 54, 57, 55, 48, 55, 49, 55, 50, 55, 51, 55, 52, 55, 53, 55, 54, 55, 55, 55, 56, 55, 57, 56, 48, 56, 49, 56, 50, 56, 51, 56, 52, 56, 53, 56, 54, 56, 55, 56, 56, 56, 57, 57, 48, 57, 49, 57, 50, 57, 51, 57, 52, 57, 53, 57, 54, 57, 55, 57, 56, 57, 57], jn (n * 2), jn (n * 2 + 2)] = some (tx (dec2 n)) := by
      rw [prim_sub2, if_pos ⟨by simp only [List.length_cons, List.length_nil]; omega, by omega⟩, hp]
    generalize ([48, 48, 48, 49, 48, 50, 48, 51, 48, 52, 48, 53, 48, 54, 48, 55, 48, 56, 48, 57, 49, 48, 49, 49, 49, 50, 49, 51, 49, 52, 49, 53, 49, 54, 49, 55, 49, 56, 49, 57, 50, 48, 50, 49, 50, 50, 50, 51, 50, 52, 50, 53, 50, 54, 50, 55, 50, 56, 50, 57, 51, 48, 51, 49, 51, 50, 51, 51, 51, 52, 51, 53, 51, 54, 51, 55, 51, 56, 51, 57, 52, 48, 52, 49, 52, 50, 52, 51, 52, 52, 52, 53, 52, 54, 52, 55, 52, 56, 52, 57, 53, 48, 53, 49, 53, 50, 53, 51, 53, 52, 53, 53, 53, 54, 53, 55, 53, 56, 53, 57, 54, 48, 54, 49, 54, 50, 54, 51, 54, 52, 54, 53, 54, 54, 54, 55, 54, 56, 54, 57, 55, 48, 55, 49, 55, 50, 55, 51, 55, 52, 55, 53, 55, 54, 55, 55, 55, 56, 55, 57, 56, 48, 56, 49, 56, 50, 56, 51, 56, 52, 56, 53, 56, 54, 56, 55, 56, 56, 56, 57, 57, 48, 57, 49, 57, 50, 57, 51, 57, 52, 57, 53, 57, 54, 57, 55, 57, 56, 57, 57] : List UInt8) = dl at *
    refine wp_sg ?_
    refine areg_run 5 (by simp [push_cast, q1, q2]; exact rfl) ?_
    refine AOp.ex_go (s' := _) (by simp only [AOp.ex, AOp.ex0, AOp.mineB, ex_prim, AS.lits, List.map_cons, List.map_nil, AS.ev, AS.put]; simp [primA_some, hsub]; exact rfl) ?_
    refine areg_end (by simp [push_cast]; exact rfl) (wp_ret' ?_)
    exact fin_tmp (by simp [RVal, AS.ev, AS.coe]) (by simp)
theorem tgt_hashI (b : Nat) (l : Nat × Nat) (x y : AV) : tgtA Go.Proofs.Tryd.prog (.inv "Hash") [freeI b l, x, y] = some (27, [.ptr b l 0 [], x, y]) := by kernel_rfl
theorem hash_k {H : List (Option Blk)} {t : Tb} {V0 : Value} {ts0 ts : List Term} (hh : TbOk H t V0 ts0) (hn : ts.length < 100000) {s : List UInt8} (hs : s.length < 100000) {ks : List (List UInt8)} (hk : ks.length < 100000) (h32 : ∀ k ∈ ks, k.length = 32) : KC Go.Proofs.Tryd.prog 27 [.ptr t.b t.l 0 [], .lit (tx s), .sl 32 (klA ks)] H t ts (keyA (nameK (putN ts ⟨2, s, ks⟩))) (putT ts ⟨2, s, ks⟩) :=
  KC.of hh fun H V h => hash_call h hn s hs ks hk h32
def twoV (ts : List Term) (s : List UInt8) (ks : List (List UInt8)) : (List UInt8 × List UInt8) × List Term :=
  ((nameK (putN ts ⟨2, s ++ [47, 49], ks⟩), nameK (putN (putT ts ⟨2, s ++ [47, 49], ks⟩) ⟨2, s ++ [47, 50], ks⟩)), putT (putT ts ⟨2, s ++ [47, 49], ks⟩) ⟨2, s ++ [47, 50], ks⟩)
theorem areg_b2sv {P : Program} {s : AS} {K : AS → Prop} {xs : List AOp} {d : Option Tmp} {x : Operand} {u : AV} {a : List UInt8} (ex : s.ev x = u) (hx : listB s.blk 1 u = some (bl a)) (h1 : u.isLit = false)
    (h : AReg P xs (s.put d (.lit (tx a))) K) : AReg P (⟨d, none, .rd .b2sv [x], [], none⟩ :: xs) s K := by
  refine AOp.ex_go (s' := s.put d (.lit (tx a))) ?_ h
  have hro : (AOp.ro ⟨d, none, .rd .b2sv [x], [], none⟩ s.nr) = tt := by funext b; rfl
  have hb : (fun b => if tt b then s.blk b else none) = s.blk := by funext b; rfl
  have e : rdB s.blk .b2sv [u] = some (.lit (tx a)) := by
    simp only [rdB, hx, Option.bind_some, bytes_bl, h1, Option.map_some, strOf_bl]
    rfl
  simp only [AOp.ex, AOp.ex0, AOp.mineB, if_true, ex_rd, List.map_cons, List.map_nil, ex, hro, hb, e, Option.map_some]
theorem put_k {H : List (Option Blk)} {t : Tb} {V0 : Value} {ts0 ts : List Term} (hh : TbOk H t V0 ts0) (hn : ts.length < 100000) (x : Term) (hx : TermOk x) : KC Go.Proofs.Tryd.prog 18 [.ptr t.b t.l 0 [], .lit (jn x.kind), .lit (tx x.text), .sl 32 (klA x.keys)] H t ts (keyA (nameK (putN ts x))) (putT ts x) :=
  KC.of hh fun H V h => put_call h hn x hx
theorem RelLe.tup {l m : List AV} (h : AVle (.tup l) (.tup m)) : RelLe (.tup l) (.tup m) := fun Imm w V hr => by
  rcases hr with hr | ⟨cs, hr, e⟩
  · cases hr
  · exact .inr ⟨cs, h _ _ _ hr, e⟩
theorem AVle.tupC {v : AV} {vs vs' : List AV} (k : AVle (.tup vs) (.tup vs')) : AVle (.tup (v :: vs)) (.tup (v :: vs')) := fun Imm w cs hr => by
  cases hr with
  | tup1 _ _ c d h1 h2 => exact .tup1 v vs' c d h1 (k _ _ _ h2)
theorem tgt_two (x y z : AV) : tgtA Go.Proofs.Tryd.prog (.dir 21) [x, y, z] = some (21, [x, y, z]) := by kernel_rfl
theorem AVle.tupNil {esz : Nat} {vs vs' : List AV} (k : AVle (.tup vs) (.tup vs')) : AVle (.tup (.lit (.slice none 0 0) :: vs)) (.tup (.sl esz [] :: vs')) := fun Imm w cs hr => by
  cases hr with
  | tup1 _ _ c d h1 h2 =>
    cases h1
    exact .tup1 (.sl esz []) vs' _ d (.slnil esz) (k _ _ _ h2)
def openX (ts : List Term) (k b m : List UInt8) : Option Term :=
  if m.length ≠ 32 then none else if ts.length ≤ be32 m ∨ nameK (be32 m) ≠ m then none else match ts[be32 m]? with
    | some x => if x.kind = 6 ∧ x.keys.getD 0 zk = k ∧ x.keys.getD 1 zk = b then some x else none
    | none => none
def openA (o : Option Term) : AV := match o with
  | none => .tup [.lit (tx []), .sl 32 [], .lit (.bool false)]
  | some x => .tup [.lit (tx x.text), .sl 32 (klA (x.keys.drop 2)), .lit (.bool true)]
theorem open_no : RelLe (.tup [.lit (tx []), .lit (.slice none 0 0), .lit (.bool false)]) (openA none) := RelLe.tup (AVle.tupC (AVle.tupNil (AVle.refl _)))
set_option maxHeartbeats 16000000 in
theorem open_call {H : List (Option Blk)} {t : Tb} {V : Value} {ts : List Term} (hh : TbOk H t V ts) (hts : TsOk ts) {k b m : List UInt8} (hk : k.length = 32) (hb : b.length = 32) (hm : m.length < 9223372036854775808) :
    XCall Go.Proofs.Tryd.prog 74 [.ptr t.b t.l 0 [], keyA k, keyA b, .lit (tx m)] H fun r H' => r = openA (openX ts k b m) ∧ H' = H := by
  have h554 := fc554_eq
  refine XCall.le ?_
  have hn := hts.len
  have lb := hh.lb; have lj := hh.lj
  have gb := hh.hb; have gj := hh.hj
  unfold tbk at gb
  unfold trk at gj
  have c1 := fun L (h : m.length = 32) => number_call (hh.app L) (by omega) h
  obtain ⟨n, hv, hX⟩ : ∃ n, numV ts.length m = (if ts.length ≤ n ∨ nameK n ≠ m then .int .i64 (-1) else jn n) ∧ openX ts k b m = (if m.length ≠ 32 then none else if ts.length ≤ n ∨ nameK n ≠ m then none else match ts[n]? with
    | some x => if x.kind = 6 ∧ x.keys.getD 0 zk = k ∧ x.keys.getD 1 zk = b then some x else none
    | none => none) := ⟨be32 m, rfl, rfl⟩
  rw [hX]
  simp only [hv] at c1
  clear hv hX
  refine XCall.of h554 rfl ?_; show AC.wp _ fb554 ⟨H.length, [.ptr t.b t.l 0 [], keyA k, keyA b, .lit (tx m)] ++ List.replicate (57 - 4) .any, H ++ List.replicate 57 none⟩ (fun x s => match x with | .exit _ => False | _ => ∃ s1, Le s s1 ∧ FinX [(.tmp 8), (.tmp 9), (.tmp 10)] s1 _); unfold fb554
  generalize hN : H.length = N at *
  have p1 : ∀ L k, (H ++ L)[N + k]? = L[k]? := fun L k => cat1 N H L k hN
  have p2 : ∀ L k x, (H ++ L).set (N + k) x = H ++ L.set k x := fun L k x => cat2 N H L k x hN
  have pb : ∀ L, (H ++ L)[t.b]? = some (some (.box t.l 2 (.st [1, 1] [.own t.j V, .own t.m (.map (some t.r))]))) := fun L => by rw [cat4 N H L _ hN lb]; exact gb
  have pj : ∀ L, (H ++ L)[t.j]? = some (some (.row 100 V 3 (ts.map termA) 0)) := fun L => by rw [cat4 N H L _ hN lj]; exact gj
  refine wp_sg (areg_bx rfl (by simp [AS.ev, keyA, AV.sz, bl, hk]) fun l5 => areg_bx rfl (by simp [AS.ev, AS.put, keyA, AV.sz, bl, hb]) fun l6 => areg_end (by simp [push_cast, p1, p2]; exact rfl) ?_)
  refine wp_sg (areg_al' zk_eq.symm fun l11 => areg_end (by simp [push_cast, p1, p2]; exact rfl) ?_)
  refine wp_seq' ?_
  by_cases hl : m.length = 32
  · rw [if_neg (by simp [hl])]
    refine wp_sr (by simp [push_cast, hl]; exact rfl) (wp_cond_f rfl (wp_skip' ?_))
    refine wp_sg ?_
    refine areg_run 2 (by simp [push_cast]; exact rfl) ?_
    refine areg_cpk (src := m) (k' := m) rfl (by simp only [AS.blk, p1]; rfl) (listB_tx _ _) (by simp [zk_len]) (by omega) (by simp [List.drop_eq_nil_of_le, hl, zk_len]) (areg_nil ?_)
    refine wp_sg ?_
    refine areg_run 2 (by simp [push_cast, p1, p2, hl]; exact rfl) ?_
    refine areg_xc rfl (c1 _ hl) ⟨_, _, rfl, rfl⟩ ?_
    rintro r H' ⟨rfl, rfl⟩
    refine areg_end (by simp [push_cast]; exact rfl) ?_
    by_cases hnum : ts.length ≤ n ∨ nameK n ≠ m
    · rw [if_pos hnum, if_pos hnum]
      refine wp_seq' (wp_seq' (wp_r (by simp [push_cast, bin_lssm]; exact rfl) ?_))
      refine wp_cond_t rfl (wp_sr (by simp [push_cast]; exact rfl) (wp_ret' ?_))
      exact ⟨_, Le.refl _, [], _, ⟨_, rfl, by simp [AS.seals, RVals, RVal, AS.ev, AS.peek, AS.blk, p1, AS.coe], by simp⟩, openA none, H, open_no, by simp [openA], HpLe.trim _ _, rfl, rfl⟩
    rw [if_neg hnum, if_neg hnum]
    have hlt : n < ts.length := by omega
    have g1 : ts[n]? = some ts[n] := List.getElem?_eq_getElem hlt
    have hmem : ts[n] ∈ ts := List.getElem_mem hlt
    have hok := hts.ok _ hmem
    have htwo := hts.two _ hmem
    rw [g1]
    simp only
    generalize ts[n] = x at *
    obtain ⟨kd, tt', ks⟩ := x
    have g2 : (ts.map termA)[n]? = some (.st [1, 1, 1] [.lit (jn kd), .lit (tx tt'), .sl 32 (klA ks)]) := by rw [List.getElem?_map, g1]; rfl
    have g3 : ∀ h, (ts.map termA)[n]'h = .st [1, 1, 1] [.lit (jn kd), .lit (tx tt'), .sl 32 (klA ks)] := fun h => by rw [List.getElem?_eq_getElem h] at g2; exact Option.some.inj g2
    have gl : (ts.map termA).length = ts.length := List.length_map _
    generalize ts.map termA = T at *
    refine wp_seq' (wp_seq' (wp_r (by simp [push_cast]; exact rfl) (wp_cond_f rfl (wp_skip' ?_))))
    refine wp_sg ?_
    refine areg_run 7 (by simp [push_cast, pb, pj, hlt, g2, g3, gl]; exact rfl) ?_
    refine areg_al' (z' := .st [1, 1, 1] [.lit (jn 0), .lit (tx []), .lit (.slice none 0 0)]) rfl fun l13 => areg_end (by simp [push_cast, p1, p2]; exact rfl) ?_
    by_cases h6 : kd = 6
    · subst h6
      obtain ⟨a, b', r, rfl⟩ : ∃ a b' r, ks = a :: b' :: r := by
        have h2 : 2 ≤ ks.length := htwo (.inr rfl)
        match ks, h2 with
        | a :: b' :: r, _ => exact ⟨a, b', r, rfl⟩
      have ha32 : a.length = 32 := hok.k32 a (by simp)
      have hb32 : b'.length = 32 := hok.k32 b' (by simp)
      have e1 := eq_key ha32 hk
      have e2 := eq_key hb32 hb
      have kl : klA (a :: b' :: r) = keyA a :: keyA b' :: klA r := rfl
      have hr : (klA r).length < 100000 := by rw [klA_len]; have := hok.keys; simp at this; omega
      have cC := clone_call (klA r) hr
      have he : (if ({ kind := 6, text := tt', keys := a :: b' :: r } : Term).kind = 6 ∧ (a :: b' :: r).getD 0 zk = k ∧ (a :: b' :: r).getD 1 zk = b then some ({ kind := 6, text := tt', keys := a :: b' :: r } : Term) else none) = if a = k ∧ b' = b then some ⟨6, tt', a :: b' :: r⟩ else none := by simp
      rw [he]
      have hfin : (.tup [.lit (tx tt'), .sl 32 (klA r), .lit (.bool true)] : AV) = openA (some ⟨6, tt', a :: b' :: r⟩) := rfl
      rw [kl] at *
      generalize klA r = rr at *
      refine wp_seq' (wp_seq' (wp_rg ?_))
      refine areg_run 9 (by simp [push_cast, p1, ha32, hb32, hk, hb]; exact rfl) ?_
      refine areg_g (by simp [AS.ev, AS.put]) (areg_eq (by simp [AS.ev, AS.put] <;> exact rfl) (by simp [AS.ev, AS.put] <;> exact rfl) e1 rfl rfl ?_)
      by_cases hak : a = k
      · refine areg_run 7 (by simp [push_cast, p1, ha32, hb32, hk, hb, hak]; exact rfl) ?_
        refine areg_g (by simp [AS.ev, AS.put]) (areg_eq (by simp [AS.ev, AS.put] <;> exact rfl) (by simp [AS.ev, AS.put] <;> exact rfl) e2 rfl rfl ?_)
        by_cases hbk : b' = b
        · rw [if_pos (show a = k ∧ b' = b from ⟨hak, hbk⟩)]
          refine areg_end (by simp [push_cast, hbk]; exact rfl) ?_
          refine wp_cond_f (by simp [AS.ev]) (wp_skip' (wp_sg ?_))
          refine areg_run 5 (by simp [push_cast, p1]; exact rfl) ?_
          refine areg_cv (by simp [AS.ev, AS.coe, AS.put] <;> exact rfl) cC ?_
          refine areg_end (by simp [push_cast]; exact rfl) (wp_ret' ?_)
          exact ⟨_, Le.refl _, [], _, ⟨_, rfl, by simp [AS.seals, RVals, RVal, AS.ev, AS.peek, AS.blk, p1, AS.coe], by simp⟩, .tup [.lit (tx tt'), .sl 32 rr, .lit (.bool true)], H, RelLe.refl _, by simp, HpLe.trim _ _, hfin, rfl⟩
        · rw [if_neg (show ¬ (a = k ∧ b' = b) from fun h => hbk h.2)]
          refine areg_end (by simp [push_cast, hbk]; exact rfl) ?_
          refine wp_cond_t (by simp [AS.ev]) (wp_sr (by simp [push_cast]; exact rfl) (wp_ret' ?_))
          exact ⟨_, Le.refl _, [], _, ⟨_, rfl, by simp [AS.seals, RVals, RVal, AS.ev, AS.peek, AS.blk, p1, AS.coe], by simp⟩, openA none, H, open_no, by simp [openA], HpLe.trim _ _, rfl, rfl⟩
      · rw [if_neg (show ¬ (a = k ∧ b' = b) from fun h => hak h.1)]
        refine areg_end (by simp [push_cast, hak]; exact rfl) ?_
        refine wp_cond_t (by simp [AS.ev]) (wp_sr (by simp [push_cast]; exact rfl) (wp_ret' ?_))
        exact ⟨_, Le.refl _, [], _, ⟨_, rfl, by simp [AS.seals, RVals, RVal, AS.ev, AS.peek, AS.blk, p1, AS.coe], by simp⟩, openA none, H, open_no, by simp [openA], HpLe.trim _ _, rfl, rfl⟩
    · rw [if_neg (by simp [h6])]
      refine wp_seq' (wp_seq' (wp_r (by simp [push_cast, p1, h6]; exact rfl) ?_))
      refine wp_cond_t rfl (wp_sr (by simp [push_cast]; exact rfl) (wp_ret' ?_))
      exact ⟨_, Le.refl _, [], _, ⟨_, rfl, by simp [AS.seals, RVals, RVal, AS.ev, AS.peek, AS.blk, p1, AS.coe], by simp⟩, openA none, H, open_no, by simp [openA], HpLe.trim _ _, rfl, rfl⟩
  · rw [if_pos hl]
    refine wp_sr (by simp [push_cast, hl]; exact rfl) (wp_cond_t rfl (wp_sr (by simp [push_cast]; exact rfl) (wp_ret' ?_)))
    exact ⟨_, Le.refl _, [], _, ⟨_, rfl, by simp [AS.seals, RVals, RVal, AS.ev, AS.peek, AS.blk, p1, AS.coe], by simp⟩, openA none, H, open_no, by simp [openA], HpLe.trim _ _, rfl, rfl⟩
theorem open_k {H : List (Option Blk)} {t : Tb} {V0 : Value} {ts0 ts : List Term} (hh : TbOk H t V0 ts0) (hts : TsOk ts) {k b m : List UInt8} (hk : k.length = 32) (hb : b.length = 32) (hm : m.length < 9223372036854775808) :
    KC Go.Proofs.Tryd.prog 74 [.ptr t.b t.l 0 [], keyA k, keyA b, .lit (tx m)] H t ts (openA (openX ts k b m)) ts :=
  KC.of hh fun H V h => XCall.mono (open_call h hts hk hb hm) fun r H' hr => ⟨hr.1, V, by rw [hr.2, h.self]⟩
theorem tgt_openI (b : Nat) (l : Nat × Nat) (x y z : AV) : tgtA Go.Proofs.Tryd.prog (.inv "Open") [freeI b l, x, y, z] = some (74, [.ptr b l 0 [], x, y, z]) := by kernel_rfl
theorem openX_nm {ts : List Term} (hts : TsOk ts) {x : Term} (hx : TermOk x) {k b m : List UInt8} (h : Nm ts x m) : openX ts k b m = if x.kind = 6 ∧ x.keys.getD 0 zk = k ∧ x.keys.getD 1 zk = b then some x else none := by
  have hm := h.len
  obtain ⟨n, rfl, hi⟩ := h
  have hl := hi.lt
  have hl2 := hts.len
  have hb : be32 (nameK n) = n := be32_name (by omega)
  have hg := hi.get hts hx
  unfold openX
  rw [if_neg (by simp [hm]), hb, if_neg (show ¬ (ts.length ≤ n ∨ nameK n ≠ nameK n) from fun h => h.elim (fun h => by omega) (fun h => h rfl)), hg]
theorem KC.seal {P : Program} {f : FuncId} {vs : List AV} {H : List (Option Blk)} {t : Tb} {ts ts' : List Term} {r : AV} {c i e esz sl : Nat} {els : List AV} {V : Value} (h : KC P f (vs.set i (.sl esz els)) H t ts r ts') {V0 : Value} {L : List (Option Blk)} (hi : vs[i]? = some (.own (H.length + c) V)) (hc : L[c]? = some (some (.row e V esz els sl))) :
    XCall P f vs (tbOf H t V0 ts ++ L) fun r' H' => r' = r ∧ ∃ V', H' = tbOf H t V' ts' ++ L.set c none := by
  have g1 := cat1 H.length (tbOf H t V0 ts) L c (tbOf_len _ _ _ _)
  have g2 := cat2 H.length (tbOf H t V0 ts) L c (none : Option Blk) (tbOf_len _ _ _ _)
  have hle := Le.sealed (s := ⟨0, vs, tbOf H t V0 ts ++ L⟩) (t := i) (b := H.length + c) (e := e) (V := V) (esz := esz) (els := els) (sl := sl) hi (by simp only [AS.blk, g1, hc]; rfl)
  simp only [g2] at hle
  exact XCall.ofLe hle (by simp) (h V0 (L.set c none))
def sealK (k b s : List UInt8) (ks : List (List UInt8)) : Term := ⟨6, s, k :: b :: ks⟩
theorem sealK_ok {k b s : List UInt8} {ks : List (List UInt8)} (hk : k.length = 32) (hb : b.length = 32) (hs : s.length < 100000) (hn : ks.length < 90000) (h32 : ∀ x ∈ ks, x.length = 32) : TermOk (sealK k b s ks) :=
  ⟨by simp [sealK], hs, by simp [sealK]; omega, by simp [sealK, hk, hb]; exact h32⟩
section
variable {H : List (Option Blk)} {t : Tb} {V : Value} {ts : List Term}
set_option maxHeartbeats 8000000 in
theorem sealK_call (hh : TbOk H t V ts) (hn : ts.length < 100000) {k b s : List UInt8} {ks : List (List UInt8)} (hk : k.length = 32) (hb : b.length = 32) (hs : s.length < 100000) (hks : ks.length < 90000) (h32 : ∀ x ∈ ks, x.length = 32) :
    XCall Go.Proofs.Tryd.prog 76 [.ptr t.b t.l 0 [], keyA k, keyA b, .lit (tx s), .sl 32 (klA ks)] H fun r H' => r = .lit (tx (nameK (putN ts (sealK k b s ks)))) ∧ ∃ V', H' = tbOf H t V' (putT ts (sealK k b s ks)) := by
  have h555 := fc555_eq
  refine XCall.le ?_
  have hput := put_k hh hn _ (sealK_ok hk hb hs hks h32)
  have hself := hh.self
  have nl := nameK_len (putN ts (sealK k b s ks))
  have kl0 : (klA ks).length = ks.length := klA_len _
  have G1 : ∀ V' ts', (tbOf H t V' ts').length = H.length := fun V' ts' => tbOf_len _ _ _ _
  have g1 : ∀ V' ts' L k, (tbOf H t V' ts' ++ L)[H.length + k]? = L[k]? := fun V' ts' L k => cat1 _ _ _ _ (G1 _ _)
  have g2 : ∀ V' ts' L k x, (tbOf H t V' ts' ++ L).set (H.length + k) x = tbOf H t V' ts' ++ L.set k x := fun V' ts' L k x => cat2 _ _ _ _ _ (G1 _ _)
  unfold sealK at *
  simp only at hput
  refine XCall.of h555 rfl ?_; show AC.wp _ fb555 ⟨H.length, [.ptr t.b t.l 0 [], keyA k, keyA b, .lit (tx s), .sl 32 (klA ks)] ++ List.replicate (22 - 5) .any, H ++ List.replicate 22 none⟩ (fun x s => match x with | .exit _ => False | _ => ∃ s1, Le s s1 ∧ FinX [(.tmp 10)] s1 _); unfold fb555
  rw [← hself]
  rw [tbOf_len]
  generalize hN : H.length = N at *
  refine wp_sg (areg_bx rfl (by simp [AS.ev, keyA, AV.sz, bl, hk]) fun l6 => areg_bx rfl (by simp [AS.ev, keyA, AV.sz, bl, hb]) fun l7 => areg_end (by simp [push_cast, g2]; exact rfl) ?_)
  refine wp_sg ?_
  refine areg_run 4 (by simp [push_cast, g1, hk, hb]; exact rfl) ?_
  refine areg_bown (vs := [keyA k, keyA b]) (els := [keyA k, keyA b]) rfl (by simp [fillV, AV.sub, AV.isTup, AV.sz, AV.upd, keyA, bl_len, hk, hb] <;> rfl) (by intro t ht; cases ht) fun V1 => ?_
  refine areg_run 1 (by simp [push_cast]; exact rfl) ?_
  refine areg_ap (b := N + 16) (V := V1) (ys := klA ks) rfl (by simp only [AS.blk, g2, g1]; rfl) (by simp [AS.ev, AS.coe]) (by simp [kl0, maxLen]; omega) (by simp [kl0]; omega) (fun V2 => ?_)
  refine areg_run 0 (by simp [push_cast, g2]; exact rfl) ?_
  refine areg_xc (vs := [.ptr t.b t.l 0 [], .lit (jn 6), .lit (tx s), .own (N + 18) V2]) rfl (KC.seal (i := 3) (c := 18) (e := 29) (esz := 32) (els := klA (k :: b :: ks)) (sl := 0) hput (by rw [← hN]; rfl) rfl) ⟨_, _, rfl, .slice none 0 0, rfl⟩ ?_
  rintro r H' ⟨rfl, V4, rfl⟩
  generalize nameK (putN ts ⟨6, s, k :: b :: ks⟩) = nk at *
  refine areg_al' zk_eq.symm fun l11 => areg_end (by simp [push_cast, g1, g2, nl]; exact rfl) ?_
  refine wp_sg ?_
  refine areg_run 1 (by simp [push_cast, g1, g2, nl]; exact rfl) ?_
  refine areg_b2sv (u := .view (N + 11) l11 0 [] 1 0 32 32) (a := nk) rfl (by rw [listB_key (b := N + 11) (lo := 0) (len := 32) (cap := 32) (k := nk) (l := l11) (n := 32) (by simp only [AS.blk, g1]; rfl) (by omega), List.drop_zero, List.take_of_length_le (by omega)]) rfl ?_
  refine areg_end (by simp [push_cast]; exact rfl) (wp_ret' ?_)
  exact ⟨_, Le.refl _, finX1 (v := .lit (tx nk)) (by simp [AS.seals, RVals, RVal, AS.ev, AS.coe]) (by simp) ⟨_, _, RelLe.refl _, by simp, HpLe.trim _ _, rfl, V4, (hh.of_of _ _ _ _).symm⟩⟩
end
theorem areg_kH {P : Program} {N : Nat} {tm : List AV} {L H : List (Option Blk)} {t : Tb} {V : Value} {ts ts' : List Term} {r : AV} {K : AS → Prop} {xs : List AOp} {d : Option Tmp} {g : XT} {ys : List Operand} {keep fresh : List Tmp} {fo : List Tmp} {ow : Option Tmp} {vs : List AV} {f : FuncId}
    (us : List AV) (hN : H.length = N) (ha : (ys.map fun x => AS.ev ⟨N, tm, tbOf H t V ts ++ L⟩ x) = us) (ht : ∀ L, tgtH P (tbOf H t V ts ++ L) g us = some (f, vs)) (hc : KC P f vs H t ts r ts') (hlt : ∀ t' ∈ fresh, t' < L.length)
    (hk : ∀ t' ∈ keep, ∀ b, (AS.ev ⟨N, tm, tbOf H t V ts ++ L⟩ (.tmp t')).place = some b → N ≤ b)
    (h : ∀ V', AReg P xs { AS.put ⟨N, tm, tbOf H t V ts ++ L⟩ d r with hp := tbOf H t V' ts' ++ L } K) : AReg P (⟨d, none, .xc g ys keep fresh, fo, ow⟩ :: xs) ⟨N, tm, tbOf H t V ts ++ L⟩ K := by
  subst hN
  refine areg_xfH (us := us) (K' := fun r' H' => r' = r ∧ ∃ V', H' = tbOf H t V' ts' ++ L) ha (fun E _ => by rw [setE_cat _ _ (tbOf_len _ _ _ _)]; exact ht _) (fun E _ => hc.xf V L E) ⟨_, _, rfl, .slice none 0 0, rfl⟩ (fun t' ht' => by simp [tbOf_len]; exact hlt t' ht') (fun r' hp' hK => ?_) ?_
  · obtain ⟨_, V', rfl⟩ := hK
    refine ⟨fun t' ht' b hb => ?_, by simp [tbOf_len]⟩
    have hge := hk t' ht' b hb
    simp only
    rw [List.getElem?_append_right (by rw [tbOf_len]; exact hge), List.getElem?_append_right (by rw [tbOf_len]; exact hge), tbOf_len, tbOf_len]
  · rintro r' hp' ⟨rfl, V', rfl⟩
    exact h V'
set_option maxHeartbeats 8000000 in
theorem two_gen {H : List (Option Blk)} {t : Tb} {V : Value} {ts : List Term} (hh : TbOk H t V ts) (hn : ts.length + 1 < 100000) {s : List UInt8} (hs : s.length < 90000) {ks : List (List UInt8)} (hk : ks.length < 100000) (h32 : ∀ k ∈ ks, k.length = 32) {I : AV} (hI : ∀ V ts L x y, tgtH Go.Proofs.Tryd.prog (tbOf H t V ts ++ L) (.inv "Hash") [I, x, y] = some (27, [.ptr t.b t.l 0 [], x, y])) :
    XCall Go.Proofs.Tryd.prog 21 [I, .lit (tx s), .sl 32 (klA ks)] H fun r H' => r = .tup [keyA (twoV ts s ks).1.1, keyA (twoV ts s ks).1.2] ∧ ∃ V', H' = tbOf H t V' (twoV ts s ks).2 := by
  have h515 := fc515_eq
  refine XCall.le ?_
  have hself := hh.self
  have G1 : ∀ V' ts', (tbOf H t V' ts').length = H.length := fun V' ts' => tbOf_len _ _ _ _
  have g1 : ∀ V' ts' L k, (tbOf H t V' ts' ++ L)[H.length + k]? = L[k]? := fun V' ts' L k => cat1 _ _ _ _ (G1 _ _)
  have g2 : ∀ V' ts' L k x, (tbOf H t V' ts' ++ L).set (H.length + k) x = tbOf H t V' ts' ++ L.set k x := fun V' ts' L k x => cat2 _ _ _ _ _ (G1 _ _)
  have hb1 : binVal .add (tx s) (tx [47, 49]) = some (tx (s ++ [47, 49])) := bin_adds _ _ (by simp only [List.length_cons, List.length_nil]; omega)
  have hb2 : binVal .add (tx s) (tx [47, 50]) = some (tx (s ++ [47, 50])) := bin_adds _ _ (by simp only [List.length_cons, List.length_nil]; omega)
  have l1 : (s ++ [47, 49]).length < 100000 := by simp; omega
  have l2 : (s ++ [47, 50]).length < 100000 := by simp; omega
  have hln := putT_len ts ⟨2, s ++ [47, 49], ks⟩
  have hk1 := hash_k hh (ts := ts) (by omega) l1 hk h32
  have hk2 := hash_k hh (ts := putT ts ⟨2, s ++ [47, 49], ks⟩) (by omega) l2 hk h32
  have n1 := nameK_len (putN ts ⟨2, s ++ [47, 49], ks⟩)
  have n2 := nameK_len (putN (putT ts ⟨2, s ++ [47, 49], ks⟩) ⟨2, s ++ [47, 50], ks⟩)
  unfold twoV
  simp only
  generalize nameK (putN ts ⟨2, s ++ [47, 49], ks⟩) = k1 at *
  generalize nameK (putN (putT ts ⟨2, s ++ [47, 49], ks⟩) ⟨2, s ++ [47, 50], ks⟩) = k2 at *
  generalize putT (putT ts ⟨2, s ++ [47, 49], ks⟩) ⟨2, s ++ [47, 50], ks⟩ = ts3 at *
  generalize putT ts ⟨2, s ++ [47, 49], ks⟩ = ts2 at *
  generalize s ++ [47, 49] = sa at *
  generalize s ++ [47, 50] = sb at *
  refine XCall.of h515 rfl ?_; show AC.wp _ fb515 ⟨H.length, [I, .lit (tx s), .sl 32 (klA ks)] ++ List.replicate (18 - 3) .any, H ++ List.replicate 18 none⟩ (fun x s => match x with | .exit _ => False | _ => ∃ s1, Le s s1 ∧ FinX [(.cell 6 .true 32), (.cell 7 .true 32)] s1 _); unfold fb515
  rw [← hself]
  rw [tbOf_len]
  generalize hN : H.length = N at *
  refine wp_sg (areg_al' zk_eq.symm fun l6 => areg_al' zk_eq.symm fun l7 => areg_end (by simp [push_cast, g2]; exact rfl) ?_)
  refine wp_sg ?_
  refine areg_run 4 (by simp [push_cast, hb1]; exact rfl) ?_
  refine areg_kH [I, .lit (tx sa), .sl 32 (klA ks)] hN rfl (fun L => hI _ _ L _ _) hk1 (by simp) (by simp) fun V2 => ?_
  refine areg_run 4 (by simp [push_cast, hb2]; exact rfl) ?_
  refine areg_kH [I, .lit (tx sb), .sl 32 (klA ks)] hN rfl (fun L => hI _ _ L _ _) hk2 (by simp) (by simp) fun V3 => ?_
  refine areg_end (by simp [push_cast, g1, g2, n1, n2]; exact rfl) (wp_ret' ?_)
  exact ⟨_, Le.refl _, [], _, ⟨_, rfl, by simp [AS.seals, RVals, RVal, AS.ev, AS.peek, AS.blk, g1, Blk.loc, Blk.cont, Blk.n, AV.nav, AV.isAgg, AV.isTup, AS.coe]; rfl, by simp [keyA]⟩, .tup [keyA k1, keyA k2], _, RelLe.refl _, by simp, HpLe.trim _ _, rfl, V3, (hh.of_of _ _ _ _).symm⟩
set_option maxHeartbeats 2000000 in
theorem digsR_call (n : Nat) : n < 100000 → PCall Go.Proofs.Tryd.prog 9 [.lit (un n)] (.val (.lit (tx (digs n)))) := by
  induction n using Nat.strongRecOn with
  | ind n ih =>
    intro hn
    have h643 := fc643_eq
    have m1 : (48 + n) % 18446744073709551616 = 48 + n := Nat.mod_eq_of_lt (by omega)
    have m2 : (48 + n % 10) % 18446744073709551616 = 48 + n % 10 := Nat.mod_eq_of_lt (by omega)
    have m3 : (48 + n % 10) % 256 = 48 + n % 10 := Nat.mod_eq_of_lt (by omega)
    have m4 : n / 10 % 18446744073709551616 = n / 10 := Nat.mod_eq_of_lt (by omega)
    have t1 : ∀ x, x < 10 → textA (.sl 1 [.lit (bn (48 + x))]) = some (tx [dig8 x]) := fun x hx => by
      rw [bl_oneA (48 + x) (by omega)]; exact textA_sl [dig8 x]
    rw [digs]
    refine PCall.of h643 rfl ?_; show AC.wp _ fb643 (AS.init [.lit (un n)] 1 20) (fun x s => match x with | .exit _ => False | _ => Fin [(.tmp 2)] s _); unfold fb643 AS.init
    refine wp_sr (by simp [push_cast]; exact rfl) ?_
    by_cases h10 : n < 10
    · have m5 : (48 + n) % 256 = 48 + n := Nat.mod_eq_of_lt (by omega)
      have t2 := t1 n (by omega)
      rw [dif_pos h10]
      refine wp_seq' (wp_seq' (wp_r (by simp [push_cast, h10]; exact rfl) (wp_cond_t rfl ?_)))
      refine wp_sr (by simp [push_cast, m1, m5, t2]; exact rfl) (wp_ret' ?_)
      exact fin_tmp rfl (by simp)
    · rw [dif_neg h10]
      have t2 := t1 (n % 10) (by omega)
      have c := ih (n / 10) (by omega) (by omega)
      have hl := digs_len (n / 10)
      refine wp_seq' (wp_seq' (wp_r (by simp [push_cast, h10]; exact rfl) (wp_cond_f rfl (wp_skip' ?_))))
      refine wp_sg ?_
      refine areg_run 2 (by simp [push_cast, m4]; exact rfl) ?_
      refine areg_cv (by simp [AS.ev, AS.coe, AS.put] <;> exact rfl) c ?_
      have hb : binVal .add (tx (digs (n / 10))) (tx [dig8 (n % 10)]) = some (tx (digs (n / 10) ++ [dig8 (n % 10)])) := bin_adds _ _ (by simp only [List.length_cons, List.length_nil]; omega)
      refine areg_end (by simp [push_cast, m2, m3, t2, hb]; exact rfl) (wp_ret' ?_)
      exact fin_tmp rfl (by simp)
theorem mkifc_free (b : Nat) (l : Nat × Nat) : rdA Go.Proofs.Tryd.prog (fun _ => none) (.mkifc 26) [freeS b l] = some (freeI b l) := by kernel_rfl
theorem freeS_sz (b : Nat) (l : Nat × Nat) : (freeS b l).sz = 1 := rfl
theorem freeS_agg (b : Nat) (l : Nat × Nat) : (freeS b l).isAgg = true := rfl
theorem freeS_tup (b : Nat) (l : Nat × Nat) : (freeS b l).isTup = false := rfl
theorem tgt_drawS (b : Nat) (l : Nat × Nat) (x : AV) : tgtA Go.Proofs.Tryd.prog (.dir 8) [.ptr b l 0 [], x] = some (8, [.ptr b l 0 [], x]) := by kernel_rfl
theorem TsOk.nil' : TsOk [] := ⟨by simp, by simp, by simp, by simp⟩
set_option maxHeartbeats 1000000 in
theorem cloneS_row (els : List AV) (hn : els.length < 100000) : PCall Go.Proofs.Tryd.prog 34 [.sl 65 els] (.row 80 65 els) := by
  have h922 := fc922_eq
  refine PCall.of h922 rfl ?_; show AC.wp _ fb922 (AS.init [.sl 65 els] 1 8) (fun x s => match x with | .exit _ => False | _ => Fin [(.tmp 2)] s _); unfold fb922 AS.init
  refine wp_sr (by simp [push_cast]; exact rfl) ?_
  refine wp_seq' (wp_seq' (wp_rg ?_))
  refine areg_run 1 (by simp [push_cast]; exact rfl) ?_
  refine areg_nils rfl fun b hb => areg_nil ?_
  cases b with
  | true =>
    obtain rfl := hb rfl
    refine wp_cond_t rfl (wp_sr (by simp [push_cast]; exact rfl) (wp_ret' ?_))
    exact ⟨2, rfl, .inl ⟨rfl, rfl⟩⟩
  | false =>
    refine wp_cond_f rfl (wp_skip' (wp_sg ?_))
    refine areg_bown (vs := []) (els := []) rfl rfl (by intro t ht; cases ht) fun V => ?_
    refine areg_run 1 (by simp [push_cast]; exact rfl) ?_
    refine areg_ap (ys := els) rfl rfl (by simp [AS.ev, AS.coe]) (by simp [maxLen]; omega) (by simp; omega) fun V' => areg_end (by simp [push_cast]; exact rfl) (wp_ret' ?_)
    exact fin_row rfl rfl
theorem cloneS_call (els : List AV) (hn : els.length < 100000) : PCall Go.Proofs.Tryd.prog 34 [.sl 65 els] (.val (.sl 65 els)) := (cloneS_row els hn).sealed
theorem fmtI_call (n : Nat) (hn : n < 100) : PCall Go.Proofs.Tryd.prog 40 [.lit (un n), .lit (jn 10)] (.val (.lit (tx (dec2 n)))) := by
  have h931 := fc931_eq
  have c := small_call n hn
  have q1 : n < 9223372036854775808 := by omega
  have hcv : cvtA .i64 (.lit (un n)) = some (.lit (jn n)) := by
    simp only [cvtA, un, wrap_i64 (Int.le_trans (by decide) (Int.natCast_nonneg n)) (by omega)]
    rfl
  refine PCall.of h931 rfl ?_; show AC.wp _ fb931 (AS.init [.lit (un n), .lit (jn 10)] 2 32) (fun x s => match x with | .exit _ => False | _ => Fin [(.tmp 4)] s _); unfold fb931 AS.init
  refine wp_sr (by simp [push_cast]; exact rfl) ?_
  refine wp_seq' (wp_seq' (wp_r (by simp [push_cast]; exact rfl) (wp_cond_t rfl ?_)))
  refine wp_seq' (wp_seq' (wp_r (by simp [push_cast, hn]; exact rfl) (wp_cond_t (by simp [AS.ev]) ?_)))
  refine wp_sg ?_
  refine areg_run 2 (by simp [push_cast, hcv]; exact rfl) ?_
  refine areg_ca (by simp [AS.ev, AS.coe, AS.put] <;> exact rfl) c ?_
  refine areg_end (by simp [push_cast]; exact rfl) (wp_ret' ?_)
  exact fin_tmp (by simp [RVal, AS.ev, AS.coe]) (by simp)
theorem fmt_call (n : Nat) (hn : n < 100) : PCall Go.Proofs.Tryd.prog 35 [.lit (un n), .lit (jn 10)] (.val (.lit (tx (dec2 n)))) := by
  have h930 := fc930_eq
  have c := fmtI_call n hn
  refine PCall.of h930 rfl ?_; show AC.wp _ fb930 (AS.init [.lit (un n), .lit (jn 10)] 2 8) (fun x s => match x with | .exit _ => False | _ => Fin [(.tmp 4)] s _); unfold fb930 AS.init
  refine wp_sr (by simp [push_cast]; exact rfl) ?_
  refine wp_sg ?_
  refine areg_run 2 (by simp [push_cast]; exact rfl) ?_
  refine areg_ca (by simp [AS.ev, AS.coe, AS.put] <;> exact rfl) c ?_
  refine areg_end (by simp [push_cast]; exact rfl) (wp_ret' ?_)
  exact fin_tmp (by simp [RVal, AS.ev, AS.coe]) (by simp)
end Go.Cab
namespace Go.Cab
open Go.RowKit
open Classical
attribute [local irreducible] AReg
structure SkV where
  pub : List UInt8
  n : Nat
  key : List UInt8
def skA (s : SkV) : AV := .st [32, 1, 32] [keyA s.pub, .lit (wn s.n), keyA s.key]
structure Ses where
  mine : List UInt8
  theirs : List UInt8
  root : List UInt8
  send : List UInt8
  recv : List UInt8
  ns : Nat
  nr : Nat
  pn : Nat
  turn : Bool
  skips : List SkV
def sesV (x : Ses) (K : AV) : AV := .st [32, 32, 32, 32, 32, 1, 1, 1, 1, 1] [keyA x.mine, keyA x.theirs, keyA x.root, keyA x.send, keyA x.recv, .lit (wn x.ns), .lit (wn x.nr), .lit (wn x.pn), .lit (.bool x.turn), K]
def sesA (x : Ses) : AV := sesV x (.sl 65 (x.skips.map skA))
structure SkOk (s : SkV) : Prop where
  pub : s.pub.length = 32
  n : s.n < 4294967296
  key : s.key.length = 32
structure SeOk (x : Ses) : Prop where
  mine : x.mine.length = 32
  theirs : x.theirs.length = 32
  root : x.root.length = 32
  send : x.send.length = 32
  recv : x.recv.length = 32
  ns : x.ns < 4294967296
  nr : x.nr < 4294967296
  pn : x.pn < 4294967296
  skl : x.skips.length < 1000
  sk : ∀ s ∈ x.skips, SkOk s
theorem sesV_sz {x : Ses} (h : SeOk x) (K : AV) : (sesV x K).sz = 165 := by simp [sesV, AV.sz]
structure Sb where
  b : Nat
  l : Nat × Nat
  c : Nat
def sdA (t : Tb) (S : Sb) (x : Ses) (Vc : Value) : AV := .st [1, 165] [freeI t.b t.l, sesV x (.own S.c Vc)]
def sbk (t : Tb) (S : Sb) (x : Ses) (Vc : Value) : Blk := .box S.l 166 (sdA t S x Vc)
def swk (x : Ses) (Vc : Value) : Blk := .row 80 Vc 65 (x.skips.map skA) 0
structure StOk (H : List (Option Blk)) (t : Tb) (S : Sb) (x : Ses) (Vc : Value) : Prop where
  bc : S.b ≠ S.c
  nb : S.b ≠ t.b ∧ S.b ≠ t.j ∧ S.b ≠ t.m
  nc : S.c ≠ t.b ∧ S.c ≠ t.j ∧ S.c ≠ t.m
  hb : H[S.b]? = some (some (sbk t S x Vc))
  hc : H[S.c]? = some (some (swk x Vc))
def stB (H : List (Option Blk)) (S : Sb) (Y Z : Blk) : List (Option Blk) := (H.set S.b (some Y)).set S.c (some Z)
def stOf (H : List (Option Blk)) (t : Tb) (S : Sb) (x : Ses) (Vc : Value) : List (Option Blk) := stB H S (sbk t S x Vc) (swk x Vc)
section
variable {H : List (Option Blk)} {t : Tb} {S : Sb} {x x' : Ses} {V Vc : Value} {ts : List Term}
theorem stOf_len (H : List (Option Blk)) (t : Tb) (S : Sb) (x : Ses) (Vc : Value) : (stOf H t S x Vc).length = H.length := by simp [stOf, stB]
theorem StOk.lb (h : StOk H t S x Vc) : S.b < H.length := (List.getElem?_eq_some_iff.1 h.hb).1
theorem StOk.lc (h : StOk H t S x Vc) : S.c < H.length := (List.getElem?_eq_some_iff.1 h.hc).1
theorem StOk.self (h : StOk H t S x Vc) : stOf H t S x Vc = H := by
  unfold stOf stB
  rw [set_same h.hb, set_same h.hc]
theorem StOk.of (h : StOk H t S x Vc) (x' : Ses) (V' : Value) : StOk (stOf H t S x' V') t S x' V' :=
  ⟨h.bc, h.nb, h.nc, by simp [stOf, stB, h.lb, h.bc.symm], by simp [stOf, stB, h.lc]⟩
theorem StOk.of_of (h : StOk H t S x Vc) (x1 x2 : Ses) (V1 V2 : Value) : stOf (stOf H t S x1 V1) t S x2 V2 = stOf H t S x2 V2 := by
  unfold stOf stB
  rw [List.set_comm _ _ h.bc.symm, List.set_set, List.set_set]
theorem StOk.app (h : StOk H t S x Vc) (R : List (Option Blk)) : StOk (H ++ R) t S x Vc :=
  ⟨h.bc, h.nb, h.nc, by rw [List.getElem?_append_left h.lb]; exact h.hb, by rw [List.getElem?_append_left h.lc]; exact h.hc⟩
theorem StOk.of_app (h : StOk H t S x Vc) (R : List (Option Blk)) (x' : Ses) (V' : Value) : stOf (H ++ R) t S x' V' = stOf H t S x' V' ++ R := by
  unfold stOf stB
  rw [List.set_append_left _ _ h.lb, List.set_append_left _ _ (by simpa using h.lc)]
theorem StOk.tb (h : StOk H t S x Vc) (hh : TbOk H t V ts) (x' : Ses) (V' : Value) : TbOk (stOf H t S x' V') t V ts := by
  obtain ⟨a1, a2, a3⟩ := h.nb
  obtain ⟨b1, b2, b3⟩ := h.nc
  refine ⟨hh.bj, hh.bm, hh.jm, ?_, ?_, ?_⟩ <;> unfold stOf stB
  · rw [List.getElem?_set_ne b1, List.getElem?_set_ne a1]; exact hh.hb
  · rw [List.getElem?_set_ne b2, List.getElem?_set_ne a2]; exact hh.hj
  · rw [List.getElem?_set_ne b3, List.getElem?_set_ne a3]; exact hh.hm
theorem StOk.tbOf (h : StOk H t S x Vc) (V' : Value) (ts' : List Term) : StOk (tbOf H t V' ts') t S x Vc := by
  obtain ⟨a1, a2, a3⟩ := h.nb
  obtain ⟨b1, b2, b3⟩ := h.nc
  refine ⟨h.bc, h.nb, h.nc, ?_, ?_⟩ <;> unfold Cab.tbOf
  · rw [List.getElem?_set_ne a3.symm, List.getElem?_set_ne a2.symm, List.getElem?_set_ne a1.symm]; exact h.hb
  · rw [List.getElem?_set_ne b3.symm, List.getElem?_set_ne b2.symm, List.getElem?_set_ne b1.symm]; exact h.hc
theorem StOk.comm (h : StOk H t S x Vc) (V' : Value) (ts' : List Term) (x' : Ses) (Vc' : Value) : stOf (Cab.tbOf H t V' ts') t S x' Vc' = Cab.tbOf (stOf H t S x' Vc') t V' ts' := by
  obtain ⟨a1, a2, a3⟩ := h.nb
  obtain ⟨b1, b2, b3⟩ := h.nc
  unfold stOf stB Cab.tbOf
  rw [List.set_comm _ _ a3.symm, List.set_comm _ _ a2.symm, List.set_comm _ _ a1.symm, List.set_comm _ _ b3.symm, List.set_comm _ _ b2.symm, List.set_comm _ _ b1.symm]
end
def SC (P : Program) (f : FuncId) (vs : List AV) (H : List (Option Blk)) (t : Tb) (S : Sb) (x : Ses) (ts : List Term) (r : AV) (x' : Ses) (ts' : List Term) : Prop :=
  ∀ V Vc L, XCall P f vs (tbOf (stOf H t S x Vc) t V ts ++ L) fun r' H' => r' = r ∧ ∃ V' Vc', H' = tbOf (stOf H t S x' Vc') t V' ts' ++ L
structure StT (H : List (Option Blk)) (t : Tb) (S : Sb) (x : Ses) (Vc V : Value) (ts : List Term) : Prop where
  tb : TbOk H t V ts
  st : StOk H t S x Vc
section
variable {H : List (Option Blk)} {t : Tb} {S : Sb} {x x' : Ses} {V Vc : Value} {ts ts' : List Term}
theorem StT.of (h : StT H t S x Vc V ts) (x' : Ses) (Vc' V' : Value) (ts' : List Term) : StT (tbOf (stOf H t S x' Vc') t V' ts') t S x' Vc' V' ts' :=
  ⟨(h.st.tb h.tb x' Vc').of V' ts', (h.st.of x' Vc').tbOf V' ts'⟩
theorem StT.app (h : StT H t S x Vc V ts) (R : List (Option Blk)) : StT (H ++ R) t S x Vc V ts := ⟨h.tb.app R, h.st.app R⟩
theorem StT.self (h : StT H t S x Vc V ts) : tbOf (stOf H t S x Vc) t V ts = H := by rw [h.st.self, h.tb.self]
theorem StT.len (H : List (Option Blk)) (t : Tb) (S : Sb) (x : Ses) (Vc V : Value) (ts : List Term) : (tbOf (stOf H t S x Vc) t V ts).length = H.length := by rw [tbOf_len, stOf_len]
theorem StT.of_of (h : StT H t S x Vc V ts) (x1 x2 : Ses) (Vc1 Vc2 V1 V2 : Value) (ts1 ts2 : List Term) : tbOf (stOf (tbOf (stOf H t S x1 Vc1) t V1 ts1) t S x2 Vc2) t V2 ts2 = tbOf (stOf H t S x2 Vc2) t V2 ts2 := by
  rw [(h.st.of x1 Vc1).comm, h.st.of_of, (h.st.tb h.tb x2 Vc2).of_of]
theorem StT.of_app (h : StT H t S x Vc V ts) (R : List (Option Blk)) (x' : Ses) (Vc' V' : Value) (ts' : List Term) : tbOf (stOf (H ++ R) t S x' Vc') t V' ts' = tbOf (stOf H t S x' Vc') t V' ts' ++ R := by
  rw [h.st.of_app, (h.st.tb h.tb x' Vc').of_app]
theorem stB_len (H : List (Option Blk)) (S : Sb) (Y Z : Blk) (t : Tb) (V : Value) (ts : List Term) : (tbOf (stB H S Y Z) t V ts).length = H.length := by rw [tbOf_len]; simp [stB]
theorem StT.gb (h : StT H t S x Vc V ts) (Y Z : Blk) (V' : Value) (ts' : List Term) (L : List (Option Blk)) : (tbOf (stB H S Y Z) t V' ts' ++ L)[S.b]? = some (some Y) := by
  obtain ⟨a1, a2, a3⟩ := h.st.nb
  rw [List.getElem?_append_left (by rw [stB_len]; exact h.st.lb)]
  unfold tbOf stB
  rw [List.getElem?_set_ne a3.symm, List.getElem?_set_ne a2.symm, List.getElem?_set_ne a1.symm, List.getElem?_set_ne h.st.bc.symm, List.getElem?_set_self h.st.lb]
theorem StT.gc (h : StT H t S x Vc V ts) (Y Z : Blk) (V' : Value) (ts' : List Term) (L : List (Option Blk)) : (tbOf (stB H S Y Z) t V' ts' ++ L)[S.c]? = some (some Z) := by
  obtain ⟨a1, a2, a3⟩ := h.st.nc
  rw [List.getElem?_append_left (by rw [stB_len]; exact h.st.lc)]
  unfold tbOf stB
  rw [List.getElem?_set_ne a3.symm, List.getElem?_set_ne a2.symm, List.getElem?_set_ne a1.symm, List.getElem?_set_self (by simpa using h.st.lc)]
theorem StT.gbs (h : StT H t S x Vc V ts) (Y Y' Z : Blk) (V' : Value) (ts' : List Term) (L : List (Option Blk)) : (tbOf (stB H S Y Z) t V' ts' ++ L).set S.b (some Y') = tbOf (stB H S Y' Z) t V' ts' ++ L := by
  obtain ⟨a1, a2, a3⟩ := h.st.nb
  rw [List.set_append_left _ _ (by rw [stB_len]; exact h.st.lb)]
  unfold tbOf stB
  rw [List.set_comm _ _ a3.symm, List.set_comm _ _ a2.symm, List.set_comm _ _ a1.symm, List.set_comm _ _ h.st.bc.symm, List.set_set]
theorem SC.of {P : Program} {f : FuncId} {vs : List AV} {r : AV} {x0 : Ses} {Vc0 V0 : Value} {ts0 : List Term} (hh : StT H t S x0 Vc0 V0 ts0)
    (h : ∀ H V Vc, StT H t S x Vc V ts → XCall P f vs H fun r' H' => r' = r ∧ ∃ V' Vc', H' = tbOf (stOf H t S x' Vc') t V' ts') : SC P f vs H t S x ts r x' ts' := fun V Vc L => by
  have h1 := hh.of x Vc V ts
  refine XCall.mono (h _ V Vc (h1.app L)) ?_
  rintro r' H' ⟨e, V', Vc', h2⟩
  exact ⟨e, V', Vc', by rw [h2, h1.of_app, hh.of_of]⟩
theorem KC.st {P : Program} {f : FuncId} {vs : List AV} {r : AV} {Vc0 V0 : Value} {x0 : Ses} {ts0 : List Term} (hh : StT H t S x0 Vc0 V0 ts0) (x : Ses) (Vc : Value)
    (h : ∀ H V, TbOk H t V ts → XCall P f vs H fun r' H' => r' = r ∧ ∃ V', H' = tbOf H t V' ts') : KC P f vs (stOf H t S x Vc) t ts r ts' :=
  KC.of (hh.st.tb hh.tb x Vc) h
end
theorem areg_sc {P : Program} {N : Nat} {tm : List AV} {L H : List (Option Blk)} {t : Tb} {S : Sb} {x x' : Ses} {V Vc : Value} {ts ts' : List Term} {r : AV} {K : AS → Prop} {xs : List AOp} {d : Option Tmp} {g : XT} {ys : List Operand} {keep fresh : List Tmp} {fo : List Tmp} {ow : Option Tmp} {vs : List AV} {f : FuncId}
    (us : List AV) (hN : H.length = N) (ha : (ys.map fun y => AS.ev ⟨N, tm, tbOf (stOf H t S x Vc) t V ts ++ L⟩ y) = us) (ht : tgtA P g us = some (f, vs)) (hc : SC P f vs H t S x ts r x' ts') (hlt : ∀ t' ∈ fresh, t' < L.length)
    (hk : ∀ t' ∈ keep, ∀ b, (AS.ev ⟨N, tm, tbOf (stOf H t S x Vc) t V ts ++ L⟩ (.tmp t')).place = some b → N ≤ b)
    (h : ∀ V' Vc', AReg P xs { AS.put ⟨N, tm, tbOf (stOf H t S x Vc) t V ts ++ L⟩ d r with hp := tbOf (stOf H t S x' Vc') t V' ts' ++ L } K) : AReg P (⟨d, none, .xc g ys keep fresh, fo, ow⟩ :: xs) ⟨N, tm, tbOf (stOf H t S x Vc) t V ts ++ L⟩ K := by
  subst hN
  have hl := fun x Vc V ts => StT.len H t S x Vc V ts
  refine areg_xf (us := us) (K' := fun r' H' => r' = r ∧ ∃ V' Vc', H' = tbOf (stOf H t S x' Vc') t V' ts' ++ L) ha ht (fun E _ => ?_) ⟨_, _, rfl, .slice none 0 0, .slice none 0 0, rfl⟩ (fun t' ht' => by simp [hl]; exact hlt t' ht') (fun r' hp' hK => ?_) ?_
  · refine XCall.mono (xf_of (hl x Vc V ts) (KG := fun r' G => r' = r ∧ ∃ V' Vc', G = tbOf (stOf H t S x' Vc') t V' ts') (fun L => XCall.mono (hc V Vc L) ?_) (fun r' G' hG => ?_) E) ?_
    · rintro r' H' ⟨h1, V', Vc', h2⟩
      exact ⟨_, ⟨h1, V', Vc', rfl⟩, h2⟩
    · obtain ⟨_, V', Vc', rfl⟩ := hG
      exact hl _ _ _ _
    · rintro r' H' ⟨hp', ⟨G', ⟨h1, V', Vc', rfl⟩, rfl⟩, h3⟩
      exact ⟨_, ⟨h1, V', Vc', rfl⟩, h3⟩
  · obtain ⟨_, V', Vc', rfl⟩ := hK
    refine ⟨fun t' ht' b hb => ?_, by simp [hl]⟩
    have hge := hk t' ht' b hb
    simp only
    rw [List.getElem?_append_right (by rw [hl]; exact hge), List.getElem?_append_right (by rw [hl]; exact hge), hl, hl]
  · rintro r' hp' ⟨rfl, V', Vc', rfl⟩
    exact h V' Vc'
end Go.Cab
namespace Go.Cab
open Go.RowKit
open Classical
def fb915 : AC := (.seq (.reg [⟨some 3, none, .box 165 (.tmp 1), [], none⟩, ⟨some 4, none, .mov (.const (.pointer .none)), [], none⟩]) (.seq (.reg [⟨some 5, none, .faddr 164 9 (.tmp 3), [], none⟩, ⟨some 6, none, .load false 1 (.tmp 5), [], none⟩, ⟨some 7, none, .call 34 [.tmp 6], [], none⟩, ⟨some 8, none, .faddr 164 9 (.tmp 3), [], none⟩, ⟨none, none, .store 1 (.tmp 8) (.tmp 7), [], none⟩]) (.seq (.reg [⟨some 9, none, .mov (.tmp 0), [], none⟩, ⟨some 10, none, .load true 165 (.tmp 3), [], none⟩, ⟨some 11, none, .build (.st [1, 165] [(.lit .nilIface), (.st [32, 32, 32, 32, 32, 1, 1, 1, 1, 1] [(.arr 1 (List.replicate 32 (.lit (bn 0)))), (.arr 1 (List.replicate 32 (.lit (bn 0)))), (.arr 1 (List.replicate 32 (.lit (bn 0)))), (.arr 1 (List.replicate 32 (.lit (bn 0)))), (.arr 1 (List.replicate 32 (.lit (bn 0)))), (.lit (wn 0)), (.lit (wn 0)), (.lit (wn 0)), (.lit (.bool false)), (.lit (.slice .none 0 0))])]) [(0, (.tmp 9)), (1, (.tmp 10))], [], none⟩, ⟨some 12, none, .box 166 (.tmp 11), [], none⟩, ⟨some 4, none, .mov (.tmp 12), [], none⟩]) .ret)))
def fc915 : FC := ⟨2, 13, [(.tmp 4)], fb915⟩
theorem fc915_eq : compF Go.Proofs.Tryd.prog 19 = some fc915 := by kernel_rfl
def fb916 : AC := (.seq (.reg [⟨some 3, none, .box 32 (.tmp 1), [], none⟩, ⟨some 4, none, .alloc 32 (.arr 1 (List.replicate 32 (.lit (bn 0)))), [], none⟩]) (.seq (.reg [⟨some 8, none, .mov (.tmp 0), [], none⟩, ⟨some 9, none, .rdp (.mkifc 68) [.tmp 8], [], none⟩, ⟨some 10, none, .mov (.tmp 0), [], none⟩, ⟨some 11, none, .nilc (.tmp 10), [], none⟩, ⟨some 12, none, .faddr 1 1 (.tmp 11), [], none⟩, ⟨some 13, none, .faddr 64 2 (.tmp 12), [], none⟩, ⟨some 14, none, .load true 32 (.tmp 13), [5, 6], (.some 0)⟩, ⟨some 15, none, .load true 32 (.tmp 3), [5, 6], (.some 3)⟩, ⟨some 16, none, .bslice 32 (.arr 1 (List.replicate 32 (.lit (bn 0)))) 2 [(0, (.tmp 14)), (1, (.tmp 15))], [], none⟩, ⟨some 17, none, .xc (.dir 21) [(.tmp 9), (.const (tx [116, 117, 114, 110])), (.tmp 16)] [] [5, 6], [], none⟩, ⟨some 7, none, .mov (.tmp 17), [], none⟩, ⟨some 18, none, .ext (.tmp 7) 0, [], none⟩, ⟨some 19, none, .ext (.tmp 7) 1, [], none⟩, ⟨some 5, none, .alloc 32 (.arr 1 (List.replicate 32 (.lit (bn 0)))), [], none⟩, ⟨some 6, none, .alloc 32 (.arr 1 (List.replicate 32 (.lit (bn 0)))), [], none⟩, ⟨none, none, .store 32 (.tmp 5) (.tmp 18), [], none⟩, ⟨none, none, .store 32 (.tmp 6) (.tmp 19), [], none⟩]) (.seq (.reg [⟨some 20, none, .mov (.tmp 0), [], none⟩, ⟨some 21, none, .load true 32 (.tmp 5), [], none⟩, ⟨some 22, none, .nilc (.tmp 20), [], none⟩, ⟨some 23, none, .faddr 1 1 (.tmp 22), [], none⟩, ⟨some 24, none, .faddr 64 2 (.tmp 23), [], none⟩, ⟨none, none, .store 32 (.tmp 24) (.tmp 21), [], none⟩]) (.seq (.reg [⟨some 25, none, .load true 32 (.tmp 6), [], none⟩, ⟨none, none, .store 32 (.tmp 4) (.tmp 25), [], none⟩]) .ret))))
def fc916 : FC := ⟨2, 26, [(.cell 4 .true 32)], fb916⟩
theorem fc916_eq : compF Go.Proofs.Tryd.prog 20 = some fc916 := by kernel_rfl
theorem Le.ahead {N n m : Nat} {tm tm' : List AV} {H Lo Lo' M M' : List (Option Blk)} (hH : H.length = N) (hLo : Lo.length = n) (hM : M.length = m) (ht : leA tm tm') (hb : leB Lo Lo') (hm : leB M M') : Le ⟨N, tm, (H ++ Lo) ++ M⟩ ⟨N + m, tm', (H ++ M') ++ Lo'⟩ := by
  obtain ⟨a1, a2⟩ := leA_get ht
  obtain ⟨b1, b2⟩ := leB_get hb
  obtain ⟨c1, c2⟩ := leB_get hm
  have hlt : ∀ (k : Nat) (x : Blk), (((H ++ M') ++ Lo')[k]?).join = some x → k < N + m + n := fun k x hx => by
    by_cases h : k < N + m + n
    · exact h
    · rw [List.getElem?_eq_none (by simp; omega)] at hx; cases hx
  have key : ∀ (k : Nat), k < N + m + n → ((((H ++ M') ++ Lo')[k]?) = if k < N then H[k]? else if k < N + m then M'[k - N]? else Lo'[k - N - m]?) := fun k hk => by
    by_cases h1 : k < N
    · rw [if_pos h1, List.getElem?_append_left (by simp; omega), List.getElem?_append_left (by omega)]
    · rw [if_neg h1]
      by_cases h2 : k < N + m
      · rw [if_pos h2, List.getElem?_append_left (by simp; omega), List.getElem?_append_right (by omega), hH]
      · rw [if_neg h2, List.getElem?_append_right (by simp; omega)]
        congr 1
        simp; omega
  refine Le.genR a1 a2 (fun k => if k < N then k else if k < N + m then k + n else k - m) (fun k k' x y hx hy e => ?_) (fun k x hx => ?_)
  · have h1 := hlt k x hx
    have h2 := hlt k' y hy
    try simp only at e
    split at e <;> split at e <;> (try split at e) <;> (try split at e) <;> omega
  · have h1 := hlt k x hx
    simp only at hx ⊢
    rw [key k h1] at hx
    by_cases h2 : k < N
    · rw [if_pos h2] at hx ⊢
      exact ⟨x, by rw [List.append_assoc, List.getElem?_append_left (by omega)]; exact hx, BlkLe.refl _⟩
    · rw [if_neg h2] at hx ⊢
      by_cases h3 : k < N + m
      · rw [if_pos h3] at hx ⊢
        obtain ⟨v, hv, hle⟩ := c2 _ x hx
        exact ⟨v, by rw [List.getElem?_append_right (by simp; omega), show k + n - (H ++ Lo).length = k - N by simp; omega]; exact hv, hle⟩
      · rw [if_neg h3] at hx ⊢
        obtain ⟨v, hv, hle⟩ := b2 _ x hx
        have hi : k - N - m < Lo.length := by
          by_cases h : k - N - m < Lo.length
          · exact h
          · rw [List.getElem?_eq_none (by omega)] at hv; cases hv
        exact ⟨v, by rw [List.append_assoc, List.getElem?_append_right (by omega), List.getElem?_append_left (by omega), show k - m - H.length = k - N - m by omega]; exact hv, hle⟩
attribute [local irreducible] AReg
theorem HpLe.two {N : Nat} {G L : List (Option Blk)} {p q : Nat} {X X' Y Y' : Blk} (hN : G.length = N) (hpq : p ≠ q) (hp : L[p]? = some (some X)) (hq : L[q]? = some (some Y)) (hX : BlkLe X X') (hY : BlkLe Y Y') : HpLe (G ++ L) (G ++ [some X', some Y']) := by
  refine HpLe.gen (fun k => if k < N then k else if k = N then N + p else N + q) (fun k k' x y hx hy e => ?_) (fun k x hx => ?_)
  · have hlt : ∀ (k : Nat) (x : Blk), ((G ++ [some X', some Y'])[k]?).join = some x → k < N + 2 := fun k x hx => by
      by_cases h : k < N + 2
      · exact h
      · rw [List.getElem?_eq_none (by simp; omega)] at hx; cases hx
    have h1 := hlt k x hx
    have h2 := hlt k' y hy
    try simp only at e
    split at e <;> split at e <;> (try split at e) <;> (try split at e) <;> omega
  · by_cases h1 : k < N
    · rw [if_pos h1]
      rw [List.getElem?_append_left (by omega)] at hx
      exact ⟨x, by rw [List.getElem?_append_left (by omega)]; exact hx, BlkLe.refl _⟩
    · rw [if_neg h1]
      rw [List.getElem?_append_right (by omega), hN] at hx
      by_cases h2 : k = N
      · subst h2
        rw [if_pos rfl, cat1 _ _ _ _ hN, hp]
        simp at hx
        subst hx
        exact ⟨X, rfl, hX⟩
      · rw [if_neg h2, cat1 _ _ _ _ hN, hq]
        by_cases h3 : k = N + 1
        · subst h3
          simp [show N + 1 - N = 1 by omega] at hx
          subst hx
          exact ⟨Y, rfl, hY⟩
        · rw [List.getElem?_eq_none (by simp; omega)] at hx
          cases hx
theorem AVle.side {t : Tb} {S S' : Sb} {x : Ses} {Vc : Value} : AVle (sdA t S x Vc) (sdA t S' x Vc) := by
  unfold sdA sesV
  exact AVle.st1 (AVle.refl _) (AVle.st1 (AVle.st1 (AVle.refl _) (AVle.st1 (AVle.refl _) (AVle.st1 (AVle.refl _) (AVle.st1 (AVle.refl _) (AVle.st1 (AVle.refl _) (AVle.st1 (AVle.refl _) (AVle.st1 (AVle.refl _) (AVle.st1 (AVle.refl _) (AVle.st1 (AVle.refl _) (AVle.st1 (AVle.own _ _ _) AVle.st0)))))))))) AVle.st0)
def nSb (N : Nat) (l : Nat × Nat) : Sb := ⟨N, l, N + 1⟩
def BegZ (H : List (Option Blk)) (t : Tb) (x : Ses) (r : AV) (H' : List (Option Blk)) : Prop :=
  ∃ l Vc, r = .ptr H.length l 0 [] ∧ H' = H ++ [some (sbk t (nSb H.length l) x Vc), some (swk x Vc)]
theorem BegZ.ex (H : List (Option Blk)) (t : Tb) (x : Ses) : ∃ r H', BegZ H t x r H' := ⟨_, _, (0, 0), .slice none 0 0, rfl, rfl⟩
set_option maxHeartbeats 8000000 in
theorem zbegin_call {H : List (Option Blk)} {t : Tb} {x : Ses} (hx : SeOk x) : XCall Go.Proofs.Tryd.prog 19 [freeI t.b t.l, sesA x] H (BegZ H t x) := by
  have h915 := fc915_eq
  refine XCall.le ?_
  have cc := cloneS_row (x.skips.map skA) (by rw [List.length_map]; have := hx.skl; omega)
  obtain ⟨x1, x2, x3, x4, x5, x6, x7, x8, x9, x10⟩ := hx
  unfold sesA sesV
  refine XCall.of h915 rfl ?_; show AC.wp _ fb915 ⟨H.length, [freeI t.b t.l, .st [32, 32, 32, 32, 32, 1, 1, 1, 1, 1] [keyA x.mine, keyA x.theirs, keyA x.root, keyA x.send, keyA x.recv, .lit (wn x.ns), .lit (wn x.nr), .lit (wn x.pn), .lit (.bool x.turn), .sl 65 (x.skips.map skA)]] ++ List.replicate (13 - 2) .any, H ++ List.replicate 13 none⟩ (fun x s => match x with | .exit _ => False | _ => ∃ s1, Le s s1 ∧ FinX [(.tmp 4)] s1 _); unfold fb915
  generalize hN : H.length = N at *
  have p1 : ∀ L k, (H ++ L)[N + k]? = L[k]? := fun L k => cat1 N H L k hN
  have p2 : ∀ L k x, (H ++ L).set (N + k) x = H ++ L.set k x := fun L k x => cat2 N H L k x hN
  refine wp_sg (areg_bx rfl (by simp [AS.ev, AV.sz]) fun l3 => areg_end (by simp [push_cast, p1, p2]; exact rfl) ?_)
  refine wp_sg ?_
  refine areg_run 2 (by simp [push_cast, p1, p2]; exact rfl) ?_
  refine areg_cr (d := 7) (by simp [AS.ev, AS.coe, AS.put] <;> exact rfl) cc fun Vw => ?_
  refine areg_end (by simp [push_cast, p1, p2]; exact rfl) ?_
  refine wp_sg ?_
  refine areg_run 2 (by simp [push_cast, p1, p2]; exact rfl) ?_
  refine areg_bd (z' := sdA t ⟨N + 12, (0, 0), N + 7⟩ x Vw) (fill_st rfl rfl rfl rfl rfl (fill_st rfl rfl rfl rfl (by simp [AV.sz, AS.ev, AS.put]) rfl)) ?_
  refine areg_bx rfl (by simp only [AS.ev, AS.put]; rfl) fun l12 => areg_end (by simp [push_cast, p1, p2]; exact rfl) (wp_ret' ?_)
  refine ⟨_, Le.refl _, [], .ptr (N + 12) l12 0 [], ⟨by simp [AS.seals, RVals, RVal, AS.ev, AS.coe], by simp⟩, .ptr N l12 0 [], _, RelLe.ptr _ _ _ _ _, by simp, ?_, l12, Vw, by rw [hN], by rw [hN]⟩
  exact HpLe.two (p := 12) (q := 7) hN (by decide) rfl rfl (BlkLe.box AVle.side) (BlkLe.refl _)
end Go.Cab
namespace Go.Cab
open Go.RowKit
open Classical
def fb917 : AC := (.seq (.reg [⟨some 4, none, .box 34 (.tmp 1), [], none⟩, ⟨some 5, none, .box 32 (.tmp 2), [], none⟩, ⟨some 6, none, .alloc 32 (.arr 1 (List.replicate 32 (.lit (bn 0)))), [], none⟩]) (.seq (.reg [⟨some 7, none, .mov (.const (tx [104, 101, 97, 100])), [], none⟩]) (.seq (.seq (.reg [⟨some 10, none, .faddr 32 1 (.tmp 4), [], none⟩, ⟨some 11, none, .load false 1 (.tmp 10), [], none⟩, ⟨some 12, none, .faddr 33 2 (.tmp 4), [], none⟩, ⟨some 13, none, .load false 1 (.tmp 12), [], none⟩, ⟨some 14, none, .build (.arr 1 [(.lit (wn 0)), (.lit (wn 0))]) [(0, (.tmp 11)), (1, (.tmp 13))], [], none⟩, ⟨some 15, none, .mov (.const (jn 0)), [], none⟩]) (.block 0 (.loop (.seq (.reg [⟨some 16, none, .bin .lss (.tmp 15) (.const (jn 2)), [], none⟩]) (.seq (.cond (.tmp 16) .skip (.exit 0)) (.seq (.block 1 (.seq (.reg [⟨some 17, none, .rdp (.aix 1 2 false) [.tmp 14, .tmp 15], [], none⟩, ⟨some 9, none, .mov (.tmp 17), [], none⟩]) (.reg [⟨some 18, none, .mov (.tmp 7), [], none⟩, ⟨some 19, none, .mov (.tmp 9), [], none⟩, ⟨some 20, none, .cvt .u64 (.tmp 19), [], none⟩, ⟨some 21, none, .call 35 [(.tmp 20), (.const (jn 10))], [], none⟩, ⟨some 22, none, .bin .add (.const (tx [32])) (.tmp 21), [], none⟩, ⟨some 23, none, .bin .add (.tmp 18) (.tmp 22), [], none⟩, ⟨some 7, none, .mov (.tmp 23), [], none⟩]))) (.reg [⟨some 24, none, .bin .add (.tmp 15) (.const (jn 1)), [], none⟩, ⟨some 15, none, .mov (.tmp 24), [], none⟩]))))))) (.seq (.reg [⟨some 25, none, .mov (.tmp 0), [], none⟩, ⟨some 26, none, .mov (.tmp 7), [], none⟩, ⟨some 27, none, .load true 32 (.tmp 5), [], none⟩, ⟨some 28, none, .faddr 0 0 (.tmp 4), [], none⟩, ⟨some 29, none, .load true 32 (.tmp 28), [], none⟩, ⟨some 30, none, .bslice 32 (.arr 1 (List.replicate 32 (.lit (bn 0)))) 2 [(0, (.tmp 27)), (1, (.tmp 29))], [], none⟩, ⟨some 31, none, .xc (.inv "Hash") [.tmp 25, .tmp 26, .tmp 30] [] [], [], none⟩, ⟨none, none, .store 32 (.tmp 6) (.tmp 31), [], none⟩]) .ret))))
def fc917 : FC := ⟨3, 32, [(.cell 6 .true 32)], fb917⟩
theorem fc917_eq : compF Go.Proofs.Tryd.prog 22 = some fc917 := by kernel_rfl
attribute [local irreducible] AReg
def zI (S : Sb) : AV := .ifc 68 (.ptr S.b S.l 0 [])
theorem mkifc_z (b : Nat) (l : Nat × Nat) : rdA Go.Proofs.Tryd.prog (fun _ => none) (.mkifc 68) [.ptr b l 0 []] = some (.ifc 68 (.ptr b l 0 [])) := by kernel_rfl
theorem via_hashZ : viaB Go.Proofs.Tryd.prog 68 "Hash" = true := by kernel_rfl
theorem meth_hashZ (b : Nat) (l : Nat × Nat) : methA Go.Proofs.Tryd.prog (Go.Proofs.Tryd.prog.types.size + Made.depth - 1) 26 (freeS b l) "Hash" = some (27, .ptr b l 0 []) := by kernel_rfl
theorem call_hashZ : callable Go.Proofs.Tryd.prog 27 = true := by kernel_rfl
theorem tgtA_z (b : Nat) (l : Nat × Nat) (x y : AV) : tgtA Go.Proofs.Tryd.prog (.inv "Hash") [.ifc 68 (.ptr b l 0 []), x, y] = none := by kernel_rfl
theorem tgt_zHash {hp : List (Option Blk)} {t : Tb} {S : Sb} {x : Ses} {Vc : Value} (hb : hp[S.b]? = some (some (sbk t S x Vc))) (a b : AV) : tgtH Go.Proofs.Tryd.prog hp (.inv "Hash") [zI S, a, b] = some (27, [.ptr t.b t.l 0 [], a, b]) := by
  unfold tgtH zI
  rw [tgtA_z]
  simp only
  have hpk : AS.peek ⟨0, [], hp⟩ (fun _ => true) (.ptr S.b S.l 0 ([] ++ [0])) = some (1, .ifc 26 (freeS t.b t.l)) := by
    simp [AS.peek, AS.blk, hb, sbk, Blk.loc, Blk.cont, Blk.n, sdA, AV.nav, freeI]
  unfold tgtP
  simp only [via_hashZ, if_true, hpk, meth_hashZ, Option.bind_some, call_hashZ]
theorem twoZ_sc {H : List (Option Blk)} {t : Tb} {S : Sb} {x0 x : Ses} {Vc0 V0 : Value} {ts0 ts : List Term} (hh : StT H t S x0 Vc0 V0 ts0) (hn : ts.length + 1 < 100000) {s : List UInt8} (hs : s.length < 90000) {ks : List (List UInt8)} (hk : ks.length < 100000) (h32 : ∀ k ∈ ks, k.length = 32) :
    SC Go.Proofs.Tryd.prog 21 [zI S, .lit (tx s), .sl 32 (klA ks)] H t S x ts (.tup [keyA (twoV ts s ks).1.1, keyA (twoV ts s ks).1.2]) x (twoV ts s ks).2 :=
  SC.of hh fun H V Vc h => XCall.mono (two_gen h.tb hn hs hk h32 (I := zI S) fun V' ts' L a b => tgt_zHash (((h.st.tbOf V' ts').app L).hb) a b) fun r H' ⟨h1, V', h2⟩ => ⟨h1, V', Vc, by rw [h2, h.st.self]⟩
def txTurn : List UInt8 := [116, 117, 114, 110]
def txStep : List UInt8 := [115, 116, 101, 112]
set_option maxHeartbeats 16000000 in
theorem turn_call {G : List (Option Blk)} {t : Tb} {S : Sb} {x : Ses} {Vc V : Value} {ts : List Term} (hh : StT G t S x Vc V ts) (hn : ts.length + 1 < 100000) (hx : SeOk x) {w : List UInt8} (hw : w.length = 32) :
    XCall Go.Proofs.Tryd.prog 20 [.ptr S.b S.l 0 [], keyA w] G fun r' H' => r' = keyA (twoV ts txTurn [x.root, w]).1.2 ∧ ∃ V' Vc', H' = tbOf (stOf G t S { x with root := (twoV ts txTurn [x.root, w]).1.1 } Vc') t V' (twoV ts txTurn [x.root, w]).2 := by
  have h916 := fc916_eq
  refine XCall.le ?_
  obtain ⟨x1, x2, x3, x4, x5, x6, x7, x8, x9, x10⟩ := hx
  have c2 := twoZ_sc hh (x := x) hn (s := txTurn) (by simp [txTurn]) (ks := [x.root, w]) (by simp) (by simp [x3, hw])
  have n1 : (twoV ts txTurn [x.root, w]).1.1.length = 32 := nameK_len _
  have n2 : (twoV ts txTurn [x.root, w]).1.2.length = 32 := nameK_len _
  generalize twoV ts txTurn [x.root, w] = tv at *
  obtain ⟨⟨k1, k2⟩, ts2⟩ := tv
  simp only at c2 n1 n2 ⊢
  have hself := hh.self
  have G1 : ∀ Y Z V' ts', (tbOf (stB G S Y Z) t V' ts').length = G.length := fun Y Z V' ts' => stB_len _ _ _ _ _ _ _
  have g1 : ∀ Y Z V' ts' L k, (tbOf (stB G S Y Z) t V' ts' ++ L)[G.length + k]? = L[k]? := fun Y Z V' ts' L k => cat1 _ _ _ _ (G1 _ _ _ _)
  have g2 : ∀ Y Z V' ts' L k x, (tbOf (stB G S Y Z) t V' ts' ++ L).set (G.length + k) x = tbOf (stB G S Y Z) t V' ts' ++ L.set k x := fun Y Z V' ts' L k x => cat2 _ _ _ _ _ (G1 _ _ _ _)
  have gb := hh.gb
  have gbs := hh.gbs
  refine XCall.of h916 rfl ?_; show AC.wp _ fb916 ⟨G.length, [.ptr S.b S.l 0 [], keyA w] ++ List.replicate (26 - 2) .any, G ++ List.replicate 26 none⟩ (fun x s => match x with | .exit _ => False | _ => ∃ s1, Le s s1 ∧ FinX [(.cell 4 .true 32)] s1 _); unfold fb916
  rw [← hself]
  unfold stOf
  rw [stB_len]
  have hnb : ∀ k, ¬ S.b = G.length + k := fun k h => by have := hh.st.lb; omega
  generalize hN : G.length = N at *
  refine wp_sg (areg_bx rfl (by simp [AS.ev, AS.put, keyA, AV.sz, bl, hw]) fun l3 => areg_al' zk_eq.symm fun l4 => areg_end (by simp [push_cast, g1, g2]; exact rfl) ?_)
  refine wp_sg ?_
  refine areg_run 1 (by simp [push_cast]; exact rfl) ?_
  refine areg_rdp (us := [.ptr S.b S.l 0 []]) rfl (mkifc_z _ _) ?_
  refine areg_run 6 (by simp [push_cast, gb, g1, hw, sbk, sdA, sesV, x3, hnb]; exact rfl) ?_
  refine areg_bsl (k := 32) (els := klA [x.root, w]) (fill_ar rfl rfl rfl (by simp [AV.sz, AS.ev, AS.put, x3, bl_len]) (fill_ar rfl rfl rfl (by simp [AV.sz, AS.ev, AS.put, hw, bl_len]) rfl)) ?_
  refine areg_sc (x := x) (Vc := Vc) (x' := x) [zI S, .lit (tx txTurn), .sl 32 (klA [x.root, w])] hN rfl (tgt_two _ _ _) c2 (by simp) (by simp) fun V2 Vc2 => ?_
  unfold stOf
  refine areg_run 3 (by simp [push_cast]; exact rfl) ?_
  refine areg_al' zk_eq.symm fun l5 => areg_al' zk_eq.symm fun l6 => areg_end (by simp [push_cast, g1, g2, n1, n2]; exact rfl) ?_
  refine wp_sr (by simp [push_cast, gb, gbs, g1, sbk, sdA, sesV, x3, n1, n2]; exact rfl) ?_
  refine wp_sr (by simp [push_cast, g1, g2, n2]; exact rfl) (wp_ret' ?_)
  refine ⟨_, Le.refl _, [], _, ⟨by simp [AS.seals, RVal, AS.ev, AS.peek, AS.blk, g1, Blk.loc, Blk.cont, Blk.n, AV.nav, AV.isAgg, AV.isTup, AS.coe]; rfl, by simp [keyA]⟩, keyA k2, _, RelLe.refl _, by simp [keyA], HpLe.trim _ _, rfl, V2, Vc2, ?_⟩
  exact (hh.of_of x { x with root := k1 } Vc Vc2 V V2 ts ts2).symm
structure HeadV where
  pub : List UInt8
  n : Nat
  prev : Nat
def headA (h : HeadV) : AV := .st [32, 1, 1] [keyA h.pub, .lit (wn h.n), .lit (wn h.prev)]
def txHead : List UInt8 := [104, 101, 97, 100]
def bindX (n p : Nat) : List UInt8 := txHead ++ ([32] ++ dec2 n) ++ ([32] ++ dec2 p)
def bindT (h : HeadV) (by_ : List UInt8) : Term := ⟨2, bindX h.n h.prev, [by_, h.pub]⟩
theorem cvt_wu (n : Nat) (h : n < 100) : cvtA .u64 (.lit (wn n)) = some (.lit (un n)) := by
  simp only [cvtA, wn, wrap_u64]
  rw [Nat.mod_eq_of_lt (by omega)]
  rfl
set_option maxHeartbeats 16000000 in
theorem bind_call {G : List (Option Blk)} {t : Tb} {S : Sb} {x : Ses} {Vc V : Value} {ts : List Term} (hh : StT G t S x Vc V ts) (hn : ts.length + 1 < 100000) {h : HeadV} {by_ : List UInt8} (hp : h.pub.length = 32) (hb : by_.length = 32) (h1 : h.n < 100) (h2 : h.prev < 100) :
    XCall Go.Proofs.Tryd.prog 22 [zI S, headA h, keyA by_] G fun r' H' => r' = keyA (nameK (putN ts (bindT h by_))) ∧ ∃ V', H' = tbOf G t V' (putT ts (bindT h by_)) := by
  have h917 := fc917_eq
  refine XCall.le ?_
  have f1 := fmt_call h.n h1
  have f2 := fmt_call h.prev h2
  have d1 := dec2_len h.n
  have d2 := dec2_len h.prev
  have c1 := cvt_wu h.n h1
  have c2 := cvt_wu h.prev h2
  have hk := hash_k hh.tb (ts := ts) (by omega) (s := bindX h.n h.prev) (by simp [bindX, txHead]; omega) (ks := [by_, h.pub]) (by simp) (by simp [hp, hb])
  have e1 : binVal .add (tx [32]) (tx (dec2 h.n)) = some (tx ([32] ++ dec2 h.n)) := bin_adds _ _ (by simp only [List.length_cons, List.length_nil]; omega)
  have e2 : binVal .add (tx [32]) (tx (dec2 h.prev)) = some (tx ([32] ++ dec2 h.prev)) := bin_adds _ _ (by simp only [List.length_cons, List.length_nil]; omega)
  have e3 : binVal .add (tx txHead) (tx ([32] ++ dec2 h.n)) = some (tx (txHead ++ ([32] ++ dec2 h.n))) := bin_adds _ _ (by simp only [txHead, List.length_append, List.length_cons, List.length_nil]; omega)
  have e4 : binVal .add (tx (txHead ++ ([32] ++ dec2 h.n))) (tx ([32] ++ dec2 h.prev)) = some (tx (bindX h.n h.prev)) := bin_adds _ _ (by simp only [txHead, List.length_append, List.length_cons, List.length_nil]; omega)
  have nl := nameK_len (putN ts (bindT h by_))
  unfold bindT at nl ⊢
  unfold headA
  obtain ⟨pub, n, prev⟩ := h
  simp only at *
  have hself := hh.self
  have gtb := hh.tb
  have hz : ∀ V' L, (tbOf G t V' ts ++ L)[S.b]? = some (some (sbk t S x Vc)) := fun V' L => ((hh.st.tbOf V' ts).app L).hb
  have G1 : ∀ V' ts', (tbOf G t V' ts').length = G.length := fun V' ts' => tbOf_len _ _ _ _
  have g1 : ∀ V' ts' L k, (tbOf G t V' ts' ++ L)[G.length + k]? = L[k]? := fun V' ts' L k => cat1 _ _ _ _ (G1 _ _)
  have g2 : ∀ V' ts' L k x, (tbOf G t V' ts' ++ L).set (G.length + k) x = tbOf G t V' ts' ++ L.set k x := fun V' ts' L k x => cat2 _ _ _ _ _ (G1 _ _)
  generalize bindX n prev = bx at *
  generalize hx1 : [32] ++ dec2 n = a1 at *
  generalize hx2 : [32] ++ dec2 prev = a2 at *
  generalize hx3 : txHead ++ a1 = a3 at *
  generalize dec2 n = b1 at *
  generalize dec2 prev = b2 at *
  clear hx1 hx2 hx3
  unfold txHead at e3
  refine XCall.of h917 rfl ?_; show AC.wp _ fb917 ⟨G.length, [zI S, .st [32, 1, 1] [keyA pub, .lit (wn n), .lit (wn prev)], keyA by_] ++ List.replicate (32 - 3) .any, G ++ List.replicate 32 none⟩ (fun x s => match x with | .exit _ => False | _ => ∃ s1, Le s s1 ∧ FinX [(.cell 6 .true 32)] s1 _); unfold fb917
  rw [← gtb.self]
  rw [tbOf_len]
  generalize hN : G.length = N at *
  refine wp_sg (areg_bx rfl (by simp [AS.ev, AS.put, AV.sz]) fun l4 => areg_bx rfl (by simp [AS.ev, AS.put, keyA, AV.sz, bl, hb]) fun l5 => areg_al' zk_eq.symm fun l6 => areg_end (by simp [push_cast, g1, g2]; exact rfl) ?_)
  refine wp_sr (by simp [push_cast]; exact rfl) ?_
  refine wp_seq' (wp_seq' (wp_r (by simp [push_cast, g1, hp]; exact rfl) ?_))
  refine wp_block' (wp_loopN 3 (loopN_succ ?_))
  refine wp_sr (by simp [push_cast]; exact rfl) (wp_seq' (wp_cond_t (by simp [AS.ev]) (wp_skip' ?_)))
  refine wp_seq' (wp_block' (wp_sr (by simp [push_cast]; exact rfl) (wp_rg ?_)))
  refine areg_run 3 (by simp [push_cast, c1]; exact rfl) ?_
  refine areg_ca (by simp [AS.ev, AS.coe, AS.put] <;> exact rfl) f1 ?_
  refine areg_end (by simp [push_cast, e1, e3]; exact rfl) ?_
  refine wp_r (by simp [push_cast]; exact rfl) (loopN_succ ?_)
  refine wp_sr (by simp [push_cast]; exact rfl) (wp_seq' (wp_cond_t (by simp [AS.ev]) (wp_skip' ?_)))
  refine wp_seq' (wp_block' (wp_sr (by simp [push_cast]; exact rfl) (wp_rg ?_)))
  refine areg_run 3 (by simp [push_cast, c2]; exact rfl) ?_
  refine areg_ca (by simp [AS.ev, AS.coe, AS.put] <;> exact rfl) f2 ?_
  refine areg_end (by simp [push_cast, e2, e4]; exact rfl) ?_
  refine wp_r (by simp [push_cast]; exact rfl) (loopN_succ ?_)
  refine wp_sr (by simp [push_cast]; exact rfl) (wp_seq' (wp_cond_f (by simp [AS.ev]) (wp_exit' (if_hit rfl ?_))))
  refine wp_sg ?_
  refine areg_run 5 (by simp [push_cast, g1, hb, hp]; exact rfl) ?_
  refine areg_bsl (k := 32) (els := klA [by_, pub]) (fill_ar rfl rfl rfl (by simp [AV.sz, AS.ev, AS.put, hb, bl_len]) (fill_ar rfl rfl rfl (by simp [AV.sz, AS.ev, AS.put, hp, bl_len]) rfl)) ?_
  refine areg_kH [zI S, .lit (tx bx), .sl 32 (klA [by_, pub])] hN rfl (fun L => tgt_zHash (hz _ L) _ _) hk (by simp) (by simp) fun V2 => ?_
  refine areg_end (by simp [push_cast, g1, g2, nl]; exact rfl) (wp_ret' ?_)
  exact ⟨_, Le.refl _, [], _, ⟨by simp [AS.seals, RVal, AS.ev, AS.peek, AS.blk, g1, Blk.loc, Blk.cont, Blk.n, AV.nav, AV.isAgg, AV.isTup, AS.coe]; rfl, by simp [keyA]⟩, keyA _, _, RelLe.refl _, by simp [keyA], HpLe.trim _ _, rfl, V2, (gtb.of_of _ _ _ _).symm⟩
end Go.Cab
namespace Go.Cab
open Go.RowKit
open Classical
def fb921 : AC := (.seq (.reg [⟨some 4, none, .mov (.const (jn 0)), [], none⟩]) (.seq (.seq (.reg [⟨some 6, none, .mov (.tmp 1), [], none⟩, ⟨some 7, none, .mov (.tmp 0), [], none⟩, ⟨some 8, none, .nilc (.tmp 7), [], none⟩, ⟨some 9, none, .faddr 1 1 (.tmp 8), [], none⟩, ⟨some 10, none, .faddr 161 6 (.tmp 9), [], none⟩, ⟨some 11, none, .load false 1 (.tmp 10), [], none⟩, ⟨some 12, none, .bin .lss (.tmp 6) (.tmp 11), [], none⟩, ⟨some 13, none, .mov (.tmp 12), [], none⟩, ⟨some 14, some (13, false), .mov (.tmp 1), [], none⟩, ⟨some 15, some (13, false), .mov (.tmp 0), [], none⟩, ⟨some 16, some (13, false), .nilc (.tmp 15), [], none⟩, ⟨some 17, some (13, false), .faddr 1 1 (.tmp 16), [], none⟩, ⟨some 18, some (13, false), .faddr 161 6 (.tmp 17), [], none⟩, ⟨some 19, some (13, false), .load false 1 (.tmp 18), [], none⟩, ⟨some 20, some (13, false), .bin .sub (.tmp 14) (.tmp 19), [], none⟩, ⟨some 21, some (13, false), .mov (.tmp 0), [], none⟩, ⟨some 22, some (13, false), .nilc (.tmp 21), [], none⟩, ⟨some 23, some (13, false), .faddr 1 1 (.tmp 22), [], none⟩, ⟨some 24, some (13, false), .faddr 164 9 (.tmp 23), [], none⟩, ⟨some 25, some (13, false), .load false 1 (.tmp 24), [], none⟩, ⟨some 26, some (13, false), .len false (.tmp 25), [], none⟩, ⟨some 27, some (13, false), .prim .imin [(.tmp 26), (.const (jn 16))], [], none⟩, ⟨some 28, some (13, false), .bin .sub (.const (jn 16)) (.tmp 27), [], none⟩, ⟨some 29, some (13, false), .cvt .u32 (.tmp 28), [], none⟩, ⟨some 30, some (13, false), .bin .gtr (.tmp 20) (.tmp 29), [], none⟩, ⟨some 31, none, .pick (.tmp 13) (.const (.bool true)) (.tmp 30), [], none⟩]) (.cond (.tmp 31) (.seq (.reg [⟨some 4, none, .mov (.const (jn 11)), [], none⟩]) .ret) .skip)) (.seq (.block 0 (.loop (.seq (.seq (.reg [⟨some 32, none, .mov (.tmp 0), [], none⟩, ⟨some 33, none, .nilc (.tmp 32), [], none⟩, ⟨some 34, none, .faddr 1 1 (.tmp 33), [], none⟩, ⟨some 35, none, .faddr 161 6 (.tmp 34), [], none⟩, ⟨some 36, none, .load false 1 (.tmp 35), [], none⟩, ⟨some 37, none, .mov (.tmp 1), [], none⟩, ⟨some 38, none, .bin .lss (.tmp 36) (.tmp 37), [], none⟩]) (.cond (.tmp 38) .skip (.exit 0))) (.seq (.block 1 (.seq (.reg [⟨some 5, none, .alloc 32 (.arr 1 (List.replicate 32 (.lit (bn 0)))), [], none⟩]) (.seq (.reg [⟨some 49, none, .mov (.tmp 0), [], none⟩, ⟨some 50, none, .mov (.tmp 0), [], none⟩, ⟨some 51, none, .rdp (.mkifc 68) [.tmp 50], [], none⟩, ⟨some 52, none, .mov (.tmp 0), [], none⟩, ⟨some 53, none, .nilc (.tmp 52), [], none⟩, ⟨some 54, none, .faddr 1 1 (.tmp 53), [], none⟩, ⟨some 55, none, .faddr 128 4 (.tmp 54), [], none⟩, ⟨some 56, none, .load true 32 (.tmp 55), [], none⟩, ⟨some 57, none, .bslice 32 (.arr 1 (List.replicate 32 (.lit (bn 0)))) 1 [(0, (.tmp 56))], [], none⟩, ⟨some 58, none, .xc (.dir 21) [(.tmp 51), (.const (tx [115, 116, 101, 112])), (.tmp 57)] [] [], [], none⟩, ⟨some 48, none, .mov (.tmp 58), [], none⟩, ⟨some 59, none, .ext (.tmp 48) 0, [], none⟩, ⟨some 60, none, .ext (.tmp 48) 1, [], none⟩, ⟨none, none, .store 32 (.tmp 5) (.tmp 59), [], none⟩, ⟨some 61, none, .nilc (.tmp 49), [], none⟩, ⟨some 62, none, .faddr 1 1 (.tmp 61), [], none⟩, ⟨some 63, none, .faddr 128 4 (.tmp 62), [], none⟩, ⟨none, none, .store 32 (.tmp 63) (.tmp 60), [], none⟩]) (.reg [⟨some 64, none, .mov (.tmp 0), [], none⟩, ⟨some 65, none, .mov (.tmp 0), [], none⟩, ⟨some 66, none, .nilc (.tmp 65), [], none⟩, ⟨some 67, none, .faddr 1 1 (.tmp 66), [], none⟩, ⟨some 68, none, .faddr 164 9 (.tmp 67), [], none⟩, ⟨some 69, none, .load false 1 (.tmp 68), [], none⟩, ⟨some 70, none, .mov (.tmp 0), [], none⟩, ⟨some 71, none, .nilc (.tmp 70), [], none⟩, ⟨some 72, none, .faddr 1 1 (.tmp 71), [], none⟩, ⟨some 73, none, .faddr 32 1 (.tmp 72), [], none⟩, ⟨some 74, none, .load true 32 (.tmp 73), [], (.some 0)⟩, ⟨some 75, none, .mov (.tmp 0), [], none⟩, ⟨some 76, none, .nilc (.tmp 75), [], none⟩, ⟨some 77, none, .faddr 1 1 (.tmp 76), [], none⟩, ⟨some 78, none, .faddr 161 6 (.tmp 77), [], none⟩, ⟨some 79, none, .load false 1 (.tmp 78), [], (.some 0)⟩, ⟨some 80, none, .load true 32 (.tmp 5), [], (.some 5)⟩, ⟨some 81, none, .build (.st [32, 1, 32] [(.arr 1 (List.replicate 32 (.lit (bn 0)))), (.lit (wn 0)), (.arr 1 (List.replicate 32 (.lit (bn 0))))]) [(0, (.tmp 74)), (1, (.tmp 79)), (2, (.tmp 80))], [], none⟩, ⟨some 82, none, .bslice 65 (.st [32, 1, 32] [(.arr 1 (List.replicate 32 (.lit (bn 0)))), (.lit (wn 0)), (.arr 1 (List.replicate 32 (.lit (bn 0))))]) 1 [(0, (.tmp 81))], [], none⟩, ⟨some 83, none, .append 80 65 68 (.tmp 69) (.tmp 82), [], none⟩, ⟨some 84, none, .nilc (.tmp 64), [], none⟩, ⟨some 85, none, .faddr 1 1 (.tmp 84), [], none⟩, ⟨some 86, none, .faddr 164 9 (.tmp 85), [], none⟩, ⟨none, none, .store 1 (.tmp 86) (.tmp 83), [], none⟩])))) (.reg [⟨some 39, none, .mov (.tmp 0), [], none⟩, ⟨some 40, none, .nilc (.tmp 39), [], none⟩, ⟨some 41, none, .faddr 1 1 (.tmp 40), [], none⟩, ⟨some 42, none, .faddr 161 6 (.tmp 41), [], none⟩, ⟨some 43, none, .load false 1 (.tmp 42), [], none⟩, ⟨some 44, none, .bin .add (.tmp 43) (.const (wn 1)), [], none⟩, ⟨some 45, none, .nilc (.tmp 39), [], none⟩, ⟨some 46, none, .faddr 1 1 (.tmp 45), [], none⟩, ⟨some 47, none, .faddr 161 6 (.tmp 46), [], none⟩, ⟨none, none, .store 1 (.tmp 47) (.tmp 44), [], none⟩]))))) (.seq (.reg [⟨some 4, none, .mov (.const (jn 0)), [], none⟩]) .ret))))
def fc921 : FC := ⟨2, 87, [(.tmp 4)], fb921⟩
theorem fc921_eq : compF Go.Proofs.Tryd.prog 26 = some fc921 := by kernel_rfl
attribute [local irreducible] AReg
theorem Z_back {G : List (Option Blk)} {t : Tb} {S : Sb} {x0 x x' : Ses} {Vc0 V0 Vc V V' : Value} {ts0 ts : List Term} (hh : StT G t S x0 Vc0 V0 ts0) {N d : Nat} {tm tm' : List AV} {Lo : List (Option Blk)} (hN : G.length = N) (hd : Lo[d]? = some (some (swk x' V'))) (ht : leT tm tm') :
    Le ⟨N, tm, ((tbOf (stOf G t S x Vc) t V ts).set S.c none).set S.b (some (.box S.l 166 (.st [1, 165] [freeI t.b t.l, sesV x' (.own (N + d) V')]))) ++ Lo⟩ ⟨N, tm', tbOf (stOf G t S x' V') t V ts ++ Lo.set d none⟩ := by
  have h1 := hh.st.lb; have h2 := hh.st.lc; have h3 := hh.st.bc
  have hF := hh.of x Vc V ts
  have hlF : (tbOf (stOf G t S x Vc) t V ts).length = N := by rw [StT.len, hN]
  have e0 := hh.of_of x x' Vc V' V V ts ts
  have e1 := (hF.st.tb hF.tb x' V').self
  rw [e1] at e0
  rw [← e0]
  generalize tbOf (stOf G t S x Vc) t V ts = F at *
  have hb := HpLe.back (N := N) (G := (F.set S.c none).set S.b (some (.box S.l 166 (.st [1, 165] [freeI t.b t.l, sesV x' (.own (N + d) V')])))) (b := S.b) (j := S.c) (d := d) (X := .box S.l 166 (.st [1, 165] [freeI t.b t.l, sesV x' (.own (N + d) V')])) (X' := sbk t S x' V') (Y := swk x' V') (Lo := Lo)
    (by simp [hlF]) h3 (by omega) (by omega) (by rw [List.getElem?_set_self (by simp; omega)]) (BlkLe.box (AVle.side (S := ⟨S.b, S.l, N + d⟩) (S' := S))) hd
  have e : ((((F.set S.c none).set S.b (some (.box S.l 166 (.st [1, 165] [freeI t.b t.l, sesV x' (.own (N + d) V')])))).set S.b (some (sbk t S x' V'))).set S.c (some (swk x' V'))) = stOf F t S x' V' := by
    unfold stOf stB
    rw [List.set_set, List.set_comm _ _ h3.symm, List.set_set]
  rw [e] at hb
  exact Le.hp hb ht
def skipG : Nat → Ses → List Term → Ses × List Term
  | 0, x, ts => (x, ts)
  | n + 1, x, ts => skipG n { x with recv := (twoV ts txStep [x.recv]).1.2, nr := x.nr + 1, skips := x.skips ++ [⟨x.theirs, x.nr, (twoV ts txStep [x.recv]).1.1⟩] } (twoV ts txStep [x.recv]).2
theorem twoV_len (ts : List Term) (s : List UInt8) (ks : List (List UInt8)) : (twoV ts s ks).2.length ≤ ts.length + 2 := by
  have h1 := putT_len ts ⟨2, s ++ [47, 49], ks⟩
  have h2 := putT_len (putT ts ⟨2, s ++ [47, 49], ks⟩) ⟨2, s ++ [47, 50], ks⟩
  unfold twoV
  simp only
  omega
theorem bin_lssw (a b : Nat) : binVal .lss (wn a) (wn b) = some (.bool (decide (a < b))) := by simp [binVal, wn]
theorem bin_gtrw (a b : Nat) : binVal .gtr (wn a) (wn b) = some (.bool (decide (b < a))) := by simp [binVal, wn]
theorem bin_subw (a b : Nat) (h : b ≤ a) (ha : a < 4294967296) : binVal .sub (wn a) (wn b) = some (wn (a - b)) := by
  simp only [binVal, wn, ne_eq, not_true_eq_false, if_false, Option.some.injEq, Value.int.injEq, true_and]
  rw [show ((a : Int) - (b : Int)) = ((a - b : Nat) : Int) by omega, wrap_u32, Nat.mod_eq_of_lt (by omega)]
theorem bin_addw (a b : Nat) (h : a + b < 4294967296) : binVal .add (wn a) (wn b) = some (wn (a + b)) := by
  simp only [binVal, wn, ne_eq, not_true_eq_false, if_false, Option.some.injEq, Value.int.injEq, true_and]
  rw [show ((a : Int) + (b : Int)) = ((a + b : Nat) : Int) by omega, wrap_u32, Nat.mod_eq_of_lt (by omega)]
theorem bin_subj16 (a : Nat) (h : a ≤ 16) : binVal .sub (jn 16) (jn a) = some (jn (16 - a)) := by
  simp only [binVal, jn, ne_eq, not_true_eq_false, if_false, Option.some.injEq, Value.int.injEq, true_and]
  rw [wrap_i64 (by omega) (by omega)]
  omega
theorem cvt_jw (n : Nat) (h : n < 4294967296) : cvtA .u32 (.lit (jn n)) = some (.lit (wn n)) := by
  simp only [cvtA, jn, wrap_u32]
  rw [Nat.mod_eq_of_lt (by omega)]
  rfl
theorem SeOk.step {x : Ses} (h : SeOk x) {k r : List UInt8} (hk : k.length = 32) (hr : r.length = 32) (hn : x.nr + 1 < 4294967296) (hs : x.skips.length + 1 < 1000) : SeOk { x with recv := r, nr := x.nr + 1, skips := x.skips ++ [⟨x.theirs, x.nr, k⟩] } := by
  obtain ⟨x1, x2, x3, x4, x5, x6, x7, x8, x9, x10⟩ := h
  refine ⟨x1, x2, x3, x4, hr, x6, hn, x8, by simp; omega, fun s hs => ?_⟩
  rcases List.mem_append.1 hs with hs | hs
  · exact x10 s hs
  · simp only [List.mem_singleton] at hs
    subst hs
    exact ⟨x2, x7, hk⟩
abbrev SkT := Ses × List Term × Value × Value
def skS (N : Nat) (G : List (Option Blk)) (t : Tb) (S : Sb) (to : Nat) (y : SkT) : AS :=
  ⟨N, [.ptr S.b S.l 0 [], .lit (wn to), .any, .any, .lit (jn 0)] ++ List.replicate 82 .any, tbOf (stOf G t S y.1 y.2.2.2) t y.2.2.1 y.2.1 ++ List.replicate 87 none⟩
set_option maxHeartbeats 32000000 in
theorem skip_call {G : List (Option Blk)} {t : Tb} {S : Sb} {x : Ses} {Vc V : Value} {ts : List Term} (hh : StT G t S x Vc V ts) (hn : ts.length + 100 < 100000) (hx : SeOk x) {to : Nat} (h1 : x.nr ≤ to) (h2 : to < 4294967296) (h3 : to - x.nr + x.skips.length ≤ 16) :
    XCall Go.Proofs.Tryd.prog 26 [.ptr S.b S.l 0 [], .lit (wn to)] G fun r' H' => r' = .lit (jn 0) ∧ ∃ V' Vc', H' = tbOf (stOf G t S (skipG (to - x.nr) x ts).1 Vc') t V' (skipG (to - x.nr) x ts).2 := by
  have h921 := fc921_eq
  refine XCall.le ?_
  have hself := hh.self
  have G1 : ∀ Y Z V' ts', (tbOf (stB G S Y Z) t V' ts').length = G.length := fun Y Z V' ts' => stB_len _ _ _ _ _ _ _
  have g1 : ∀ Y Z V' ts' L k, (tbOf (stB G S Y Z) t V' ts' ++ L)[G.length + k]? = L[k]? := fun Y Z V' ts' L k => cat1 _ _ _ _ (G1 _ _ _ _)
  have g2 : ∀ Y Z V' ts' L k x, (tbOf (stB G S Y Z) t V' ts' ++ L).set (G.length + k) x = tbOf (stB G S Y Z) t V' ts' ++ L.set k x := fun Y Z V' ts' L k x => cat2 _ _ _ _ _ (G1 _ _ _ _)
  have gb := hh.gb
  have gc := hh.gc
  have gbs := hh.gbs
  have hnb : ∀ k, ¬ S.b = G.length + k := fun k h => by have := hh.st.lb; omega
  have b1 : binVal .lss (wn to) (wn x.nr) = some (.bool false) := by rw [bin_lssw]; simp; omega
  have b2 := bin_subw to x.nr h1 h2
  have b3 := bin_subj16 x.skips.length (by omega)
  have b4 := cvt_jw (16 - x.skips.length) (by omega)
  have b5 : binVal .gtr (wn (to - x.nr)) (wn (16 - x.skips.length)) = some (.bool false) := by rw [bin_gtrw]; simp; omega
  have hml : (x.skips.map skA).length = x.skips.length := List.length_map _
  have b6 : min x.skips.length 16 = x.skips.length := by omega
  refine XCall.of h921 rfl ?_; show AC.wp _ fb921 ⟨G.length, [.ptr S.b S.l 0 [], .lit (wn to)] ++ List.replicate (87 - 2) .any, G ++ List.replicate 87 none⟩ (fun x s => match x with | .exit _ => False | _ => ∃ s1, Le s s1 ∧ FinX [(.tmp 4)] s1 _); unfold fb921
  rw [← hself]
  unfold stOf
  rw [stB_len]
  generalize hN : G.length = N at *
  refine wp_sr (by simp [push_cast]; exact rfl) ?_
  refine wp_seq' (wp_seq' (wp_rg ?_))
  refine areg_end (by simp [push_cast, gb, gc, sbk, swk, sdA, sesV, b1, b2, b3, b4, b5, b6, hml]; exact rfl) ?_
  refine wp_cond_f rfl (wp_skip' ?_)
  refine wp_seq' (wp_block' (wp_loop_m (skS N G t S to) (fun y => to - y.1.nr) (fun y => skipG (to - y.1.nr) y.1 y.2.1 = skipG (to - x.nr) x ts ∧ y.1.nr ≤ to ∧ SeOk y.1 ∧ to - y.1.nr + y.1.skips.length ≤ 16 ∧ y.2.1.length + 2 * (to - y.1.nr) ≤ ts.length + 2 * (to - x.nr)) (x, ts, V, Vc) (Le.mk rfl (by simp [skS, leT]) (leH_refl _)) ⟨rfl, h1, hx, h3, Nat.le_refl _⟩ ?_))
  have hm : to - x.nr ≤ 16 := by omega
  clear b1 b2 b3 b4 b5 b6 hml
  generalize hfin : skipG (to - x.nr) x ts = fin at *
  rintro ⟨y, us, V1, Vc1⟩ ⟨i1, i2, i3, i4, i5⟩
  simp only at i1 i2 i3 i4 i5 ⊢
  unfold skS
  simp only
  unfold stOf
  have i3' := i3
  obtain ⟨x1, x2, x3, x4, x5, x6, x7, x8, x9, x10⟩ := i3
  by_cases hlt : y.nr < to
  · have c1 : binVal .lss (wn y.nr) (wn to) = some (.bool true) := by rw [bin_lssw]; simp [hlt]
    have c2 := bin_addw y.nr 1 (by omega)
    have k2 := twoZ_sc hh (x := y) (ts := us) (by omega) (s := txStep) (by simp [txStep]) (ks := [y.recv]) (by simp) (by simp [x5])
    have n1 : (twoV us txStep [y.recv]).1.1.length = 32 := nameK_len _
    have n2 : (twoV us txStep [y.recv]).1.2.length = 32 := nameK_len _
    have n3 := twoV_len us txStep [y.recv]
    rw [show to - y.nr = (to - (y.nr + 1)) + 1 by omega, skipG] at i1
    generalize twoV us txStep [y.recv] = tv at *
    obtain ⟨⟨a1, a2⟩, us2⟩ := tv
    simp only at k2 n1 n2 n3 i1
    have i6 := i3'.step n1 n2 (by omega) (by omega)
    obtain ⟨y2, hy2⟩ : ∃ y2 : Ses, y2 = { y with recv := a2, nr := y.nr + 1, skips := y.skips ++ [⟨y.theirs, y.nr, a1⟩] } := ⟨_, rfl⟩
    refine wp_seq' (wp_seq' (wp_r (by simp [push_cast, gb, sbk, sdA, sesV, c1]; exact rfl) ?_))
    refine wp_cond_t (by simp [AS.ev]) (wp_skip' ?_)
    refine wp_seq' (wp_block' (wp_sg (areg_al' zk_eq.symm fun l5 => areg_end (by simp [push_cast, g2]; exact rfl) ?_)))
    refine wp_sg ?_
    refine areg_run 2 (by simp [push_cast]; exact rfl) ?_
    refine areg_rdp (us := [.ptr S.b S.l 0 []]) rfl (mkifc_z _ _) ?_
    refine areg_run 5 (by simp [push_cast, gb, g1, sbk, sdA, sesV, x5, hnb]; exact rfl) ?_
    refine areg_bsl (k := 32) (els := klA [y.recv]) (fill_ar rfl rfl rfl (by simp [AV.sz, AS.ev, AS.put, x5, bl_len]) rfl) ?_
    refine areg_sc (x := y) (Vc := Vc1) (x' := y) [zI S, .lit (tx txStep), .sl 32 (klA [y.recv])] hN rfl (tgt_two _ _ _) k2 (by simp) (by simp) fun V2 Vc2 => ?_
    unfold stOf
    refine areg_end (by simp [push_cast, g1, g2, gb, gbs, sbk, sdA, sesV, n1, n2, x5]; exact rfl) ?_
    have hY : Blk.box S.l 166 (.st [1, 165] [freeI t.b t.l, sesV { y with recv := a2 } (.own S.c Vc2)]) = sbk t S { y with recv := a2 } Vc2 := rfl
    have hb0 := gb (sbk t S { y with recv := a2 } Vc2) (swk { y with recv := a2 } Vc2) V2 us2 []
    have hc0 := gc (sbk t S { y with recv := a2 } Vc2) (swk { y with recv := a2 } Vc2) V2 us2 []
    have hlF := G1 (sbk t S { y with recv := a2 } Vc2) (swk { y with recv := a2 } Vc2) V2 us2
    have hgoal := fun V' d tm tm' Lo (hd : Lo[d]? = some (some (swk y2 V'))) (ht : leT tm tm') => Z_back hh (x := { y with recv := a2 }) (x' := y2) (Vc := Vc2) (V := V2) (V' := V') (ts := us2) (N := N) (d := d) (tm := tm) (tm' := tm') (Lo := Lo) hN hd ht
    unfold sbk swk sdA sesV at hb0 hc0 hlF
    unfold sesV at hgoal
    simp only [stOf, sbk, swk, sdA, sesV] at hgoal
    simp only at hb0 hc0 hlF hgoal
    rw [List.append_nil] at hb0 hc0
    have lb : S.b < N := by have := hh.st.lb; omega
    have lc : S.c < N := by have := hh.st.lc; omega
    have hbc := hh.st.bc
    simp only [keyA] at hb0 hc0 hlF hgoal
    unfold swk
    generalize tbOf (stB G S (Blk.box S.l 166 (AV.st [1, 165] [freeI t.b t.l, AV.st [32, 32, 32, 32, 32, 1, 1, 1, 1, 1] [AV.arr 1 (bl y.mine), AV.arr 1 (bl y.theirs), AV.arr 1 (bl y.root), AV.arr 1 (bl y.send), AV.arr 1 (bl a2), AV.lit (wn y.ns), AV.lit (wn y.nr), AV.lit (wn y.pn), AV.lit (Value.bool y.turn), AV.own S.c Vc2]])) (Blk.row 80 Vc2 65 (List.map skA y.skips) 0)) t V2 us2 = F at *
    have p1 : ∀ L k, (F ++ L)[N + k]? = L[k]? := fun L k => cat1 N F L k hlF
    have pb : ∀ L, (F ++ L)[S.b]? = F[S.b]? := fun L => cat4 N F L _ hlF lb
    have pc : ∀ L, (F ++ L)[S.c]? = F[S.c]? := fun L => cat4 N F L _ hlF lc
    rw [hb0] at pb
    rw [hc0] at pc
    have psc : ∀ L x, (F ++ L).set S.c x = F.set S.c x ++ L := fun L x => cat3 N F L _ x hlF lc
    have hG1 : (F.set S.c none).length = N := by rw [List.length_set]; exact hlF
    have q2 : ∀ L k x, (F.set S.c none ++ L).set (N + k) x = F.set S.c none ++ L.set k x := fun L k x => cat2 N _ L k x hG1
    have qb : ∀ L, (F.set S.c none ++ L)[S.b]? = F[S.b]? := fun L => by rw [cat4 N _ L _ hG1 lb, List.getElem?_set_ne hbc.symm]
    rw [hb0] at qb
    have qsb : ∀ L B, (F.set S.c none ++ L).set S.b B = (F.set S.c none).set S.b B ++ L := fun L B => cat3 N _ L _ _ hG1 lb
    have hG2 : ∀ B, ((F.set S.c none).set S.b B).length = N := fun B => by rw [List.length_set]; exact hG1
    have rb : ∀ L B, ((F.set S.c none).set S.b B ++ L)[S.b]? = some B := fun L B => by rw [cat4 N _ L _ (hG2 B) lb, List.getElem?_set_self (by omega)]
    have rsb : ∀ L B B', ((F.set S.c none).set S.b B ++ L).set S.b B' = (F.set S.c none).set S.b B' ++ L := fun L B B' => by rw [cat3 N _ L _ _ (hG2 B) lb, List.set_set]
    have bd1 : (y.skips.map skA).length + 1 ≤ maxLen := by rw [List.length_map]; simp [maxLen]; omega
    have bd2 : ((y.skips.map skA).length + 1) * 68 ≤ 140737488355328 := by rw [List.length_map]; omega
    refine wp_rg ?_
    refine areg_run 17 (by simp [push_cast, p1, pb, x2, n1]; exact rfl) ?_
    refine areg_bd (z' := skA ⟨y.theirs, y.nr, a1⟩) (fill_st rfl rfl rfl rfl (by simp [AV.sz, AS.ev, AS.put, x2, bl_len]) (fill_st rfl rfl rfl rfl rfl (fill_st rfl rfl rfl rfl (by simp [AV.sz, AS.ev, AS.put, n1, bl_len]) rfl))) ?_
    refine areg_bsl (k := 65) (els := [skA ⟨y.theirs, y.nr, a1⟩]) (fill_ar rfl rfl rfl (by simp [AV.sz, AS.ev, AS.put, skA]) rfl) ?_
    refine areg_ap (b := S.c) (V := Vc2) (ys := [skA ⟨y.theirs, y.nr, a1⟩]) rfl (by simp only [AS.blk, AS.put, pc]; rfl) (by simp [AS.ev, AS.put, AS.coe]) bd1 bd2 (fun V' => ?_)
    refine areg_end (by simp [push_cast, psc, q2, qb, qsb]; exact rfl) ?_
    refine wp_r (by simp [push_cast, rb, rsb, c2]; exact rfl) ?_
    refine Exists.intro (y2, us2, V2, V') ⟨⟨?_, ?_, ?_, ?_, ?_⟩, ?_, ?_⟩
    · rw [hy2]; exact i1
    · rw [hy2]; simp only; omega
    · rw [hy2]; exact i6
    · rw [hy2]; simp; omega
    · rw [hy2]; simp only; omega
    · rw [hy2]; simp only; omega
    · subst hy2
      refine Le.trans (hgoal V' 83 _ ([.ptr S.b S.l 0 [], .lit (wn to), .any, .any, .lit (jn 0)] ++ List.replicate 82 .any) _ ?_ ?_) ?_
      rotate_left
      · simp [leT]
      · exact Le.mk rfl (by simp [leT]) (leH_cat _ (by simp [leH]))
      · simp
  · have c1 : binVal .lss (wn y.nr) (wn to) = some (.bool false) := by rw [bin_lssw]; simp [hlt]
    have e : y.nr = to := by omega
    rw [e, Nat.sub_self, skipG] at i1
    rw [← i1]
    refine wp_seq' (wp_seq' (wp_r (by simp [push_cast, gb, sbk, sdA, sesV, c1]; exact rfl) ?_))
    refine wp_cond_f (by simp [AS.ev]) (wp_exit' (if_hit rfl ?_))
    refine wp_sr (by simp [push_cast]; exact rfl) (wp_ret' ?_)
    exact ⟨_, Le.refl _, finX1 (v := .lit (jn 0)) (by simp [AS.seals, RVals, RVal, AS.ev, AS.coe]) (by simp) ⟨.lit (jn 0), _, RelLe.refl _, by simp, HpLe.trim _ _, rfl, V1, Vc1, (hh.of_of _ _ _ _ _ _ _ _).symm⟩⟩
end Go.Cab
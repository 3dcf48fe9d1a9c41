/- Part 12 of what the proof stands on: Z9, Z21, Z10, ZS, Z11, Z22, Z13. -/
import Derived.Test.YtiikindmkllbiaaDoorCab11
set_option linter.unusedSimpArgs false
set_option linter.unnecessarySimpa false
set_option linter.unusedVariables false
set_option linter.unusedSectionVars false
namespace Go.Cab
open Go.RowKit
open Classical
def fbWrong : AC := (.seq .skip (.seq (.reg [⟨some 223, none, .load true 165 (.tmp 6), [], none⟩, ⟨some 224, none, .mov (.tmp 18), [], none⟩, ⟨none, none, .store 165 (.tmp 10) (.tmp 223), [], none⟩, ⟨some 11, none, .mov (.const (.slice .none 0 0)), [], none⟩, ⟨some 12, none, .mov (.tmp 224), [], none⟩]) .ret))
def fbOpen : AC := (.seq .skip (.seq (.reg [⟨some 200, none, .mov (.tmp 13), [], none⟩, ⟨some 201, none, .nilc (.tmp 200), [], none⟩, ⟨some 202, none, .faddr 0 0 (.tmp 201), [], none⟩, ⟨some 203, none, .load false 1 (.tmp 202), [], (.some 13)⟩, ⟨some 204, none, .load true 32 (.tmp 14), [], (.some 14)⟩, ⟨some 205, none, .mov (.tmp 13), [], none⟩, ⟨some 206, none, .rdp (.mkifc 68) [.tmp 205], [], none⟩, ⟨some 207, none, .load true 34 (.tmp 7), [], (.some 7)⟩, ⟨some 208, none, .load true 32 (.tmp 8), [], (.some 8)⟩, ⟨some 209, none, .xc (.dir 22) [.tmp 206, .tmp 207, .tmp 208] [13, 14] [], [], none⟩, ⟨some 210, none, .mov (.tmp 4), [], none⟩, ⟨some 211, none, .rdp .nilv [.tmp 203], [], none⟩, ⟨some 212, none, .mov (.tmp 203), [], none⟩, ⟨some 213, none, .xc (.inv "Open") [.tmp 212, .tmp 204, .tmp 209, .tmp 210] [] [], [], none⟩, ⟨some 199, none, .mov (.tmp 213), [], none⟩, ⟨some 214, none, .ext (.tmp 199) 0, [], none⟩, ⟨some 215, none, .ext (.tmp 199) 1, [], none⟩, ⟨some 216, none, .ext (.tmp 199) 2, [], none⟩, ⟨some 15, none, .mov (.tmp 215), [], none⟩, ⟨some 16, none, .mov (.tmp 216), [], none⟩]) (.seq (.seq (.reg [⟨some 217, none, .mov (.tmp 16), [], none⟩]) (.cond (.tmp 217) (.seq (.reg [⟨some 218, none, .mov (.tmp 13), [], none⟩, ⟨some 219, none, .nilc (.tmp 218), [], none⟩, ⟨some 220, none, .faddr 1 1 (.tmp 219), [], none⟩, ⟨some 221, none, .load true 165 (.tmp 220), [], none⟩, ⟨some 222, none, .mov (.tmp 15), [], none⟩, ⟨none, none, .store 165 (.tmp 10) (.tmp 221), [], none⟩, ⟨some 11, none, .mov (.tmp 222), [], none⟩, ⟨some 12, none, .mov (.const (jn 0)), [], none⟩]) .ret) .skip)) (.seq (.reg [⟨some 18, none, .mov (.const (jn 2)), [], none⟩]) fbWrong))))
def fbStep : AC := (.seq (.seq (.reg [⟨some 155, none, .faddr 32 1 (.tmp 7), [], none⟩, ⟨some 156, none, .load false 1 (.tmp 155), [], none⟩, ⟨some 157, none, .mov (.tmp 13), [], none⟩, ⟨some 158, none, .nilc (.tmp 157), [], none⟩, ⟨some 159, none, .faddr 1 1 (.tmp 158), [], none⟩, ⟨some 160, none, .faddr 161 6 (.tmp 159), [], none⟩, ⟨some 161, none, .load false 1 (.tmp 160), [], none⟩, ⟨some 162, none, .bin .lss (.tmp 156) (.tmp 161), [], none⟩]) (.cond (.tmp 162) (.seq (.reg [⟨some 18, none, .mov (.const (jn 10)), [], none⟩]) (.exit 1000000001)) .skip)) (.seq (.seq (.reg [⟨some 163, none, .mov (.tmp 13), [], none⟩, ⟨some 164, none, .faddr 32 1 (.tmp 7), [], none⟩, ⟨some 165, none, .load false 1 (.tmp 164), [], none⟩, ⟨some 166, none, .icall 26 (.tmp 163) [.tmp 165], [], none⟩, ⟨some 18, none, .mov (.tmp 166), [], none⟩]) (.seq (.reg [⟨some 167, none, .mov (.tmp 18), [], none⟩, ⟨some 168, none, .bin .neq (.tmp 167) (.const (jn 0)), [], none⟩, ⟨some 169, none, .mov (.tmp 168), [], none⟩, ⟨some 170, some (169, false), .faddr 32 1 (.tmp 7), [], none⟩, ⟨some 171, some (169, false), .load false 1 (.tmp 170), [], none⟩, ⟨some 172, some (169, false), .bin .eql (.tmp 171) (.const (wn 4294967295)), [], none⟩, ⟨some 173, none, .pick (.tmp 169) (.const (.bool true)) (.tmp 172), [], none⟩]) (.cond (.tmp 173) (.seq (.reg [⟨some 18, none, .mov (.const (jn 11)), [], none⟩]) (.exit 1000000001)) .skip))) (.seq (.reg [⟨some 175, none, .mov (.tmp 13), [], none⟩, ⟨some 176, none, .mov (.tmp 13), [], none⟩, ⟨some 177, none, .rdp (.mkifc 68) [.tmp 176], [], none⟩, ⟨some 178, none, .mov (.tmp 13), [], none⟩, ⟨some 179, none, .nilc (.tmp 178), [], none⟩, ⟨some 180, none, .faddr 1 1 (.tmp 179), [], none⟩, ⟨some 181, none, .faddr 128 4 (.tmp 180), [], none⟩, ⟨some 182, none, .load true 32 (.tmp 181), [], none⟩, ⟨some 183, none, .bslice 32 (.arr 1 (List.replicate 32 (.lit (bn 0)))) 1 [(0, (.tmp 182))], [], none⟩, ⟨some 184, none, .xc (.dir 21) [(.tmp 177), (.const (tx [115, 116, 101, 112])), (.tmp 183)] [] [], [], none⟩, ⟨some 174, none, .mov (.tmp 184), [], none⟩, ⟨some 185, none, .ext (.tmp 174) 0, [], none⟩, ⟨some 186, none, .ext (.tmp 174) 1, [], none⟩, ⟨none, none, .store 32 (.tmp 14) (.tmp 185), [], none⟩, ⟨some 187, none, .nilc (.tmp 175), [], none⟩, ⟨some 188, none, .faddr 1 1 (.tmp 187), [], none⟩, ⟨some 189, none, .faddr 128 4 (.tmp 188), [], none⟩, ⟨none, none, .store 32 (.tmp 189) (.tmp 186), [], none⟩]) (.seq (.reg [⟨some 190, none, .mov (.tmp 13), [], none⟩, ⟨some 191, none, .nilc (.tmp 190), [], none⟩, ⟨some 192, none, .faddr 1 1 (.tmp 191), [], none⟩, ⟨some 193, none, .faddr 161 6 (.tmp 192), [], none⟩, ⟨some 194, none, .load false 1 (.tmp 193), [], none⟩, ⟨some 195, none, .bin .add (.tmp 194) (.const (wn 1)), [], none⟩, ⟨some 196, none, .nilc (.tmp 190), [], none⟩, ⟨some 197, none, .faddr 1 1 (.tmp 196), [], none⟩, ⟨some 198, none, .faddr 161 6 (.tmp 197), [], none⟩, ⟨none, none, .store 1 (.tmp 198) (.tmp 195), [], none⟩]) fbOpen))))
def fb911 : AC := (.seq (.reg [⟨some 6, none, .box 165 (.tmp 1), [], none⟩, ⟨some 7, none, .box 34 (.tmp 2), [], none⟩, ⟨some 8, none, .box 32 (.tmp 3), [], none⟩, ⟨some 10, none, .alloc 165 (.st [32, 32, 32, 32, 32, 1, 1, 1, 1, 1] [(.arr 1 (List.replicate 32 (.lit (bn 0)))), (.arr 1 (List.replicate 32 (.lit (bn 0)))), (.arr 1 (List.replicate 32 (.lit (bn 0)))), (.arr 1 (List.replicate 32 (.lit (bn 0)))), (.arr 1 (List.replicate 32 (.lit (bn 0)))), (.lit (wn 0)), (.lit (wn 0)), (.lit (wn 0)), (.lit (.bool false)), (.lit (.slice .none 0 0))]), [], none⟩, ⟨some 11, none, .mov (.const (.slice .none 0 0)), [], none⟩, ⟨some 12, none, .mov (.const (jn 0)), [], none⟩]) (.jump (.jump (.seq (.reg [⟨some 20, none, .mov (.tmp 0), [], none⟩, ⟨some 21, none, .load true 165 (.tmp 6), [], none⟩, ⟨some 22, none, .xc (.dir 19) [.tmp 20, .tmp 21] [] [], [], none⟩, ⟨some 13, none, .mov (.tmp 22), [], none⟩]) (.seq (.reg [⟨some 14, none, .alloc 32 (.arr 1 (List.replicate 32 (.lit (bn 0)))), [], none⟩]) (.seq (.reg [⟨some 15, none, .mov (.const (.slice .none 0 0)), [], none⟩]) (.seq (.reg [⟨some 16, none, .mov (.const (.bool false)), [], none⟩]) (.seq (.reg [⟨some 17, none, .alloc 32 (.arr 1 (List.replicate 32 (.lit (bn 0)))), [], none⟩]) (.seq (.reg [⟨some 18, none, .mov (.const (jn 2)), [], none⟩]) (.seq (.reg [⟨some 23, none, .mov (.tmp 13), [], none⟩, ⟨some 24, none, .nilc (.tmp 23), [], none⟩, ⟨some 25, none, .faddr 1 1 (.tmp 24), [], none⟩, ⟨some 26, none, .faddr 164 9 (.tmp 25), [], none⟩, ⟨some 27, none, .load false 1 (.tmp 26), [], none⟩, ⟨some 28, none, .rdp (.mkfn (.func 24) 0) [.tmp 7], [], none⟩, ⟨some 29, none, .xc (.dir 23) [.tmp 27, .tmp 28] [] [], [], none⟩, ⟨some 19, none, .mov (.tmp 29), [], none⟩]) (.seq (.seq (.reg [⟨some 30, none, .mov (.tmp 19), [], none⟩, ⟨some 31, none, .bin .geq (.tmp 30) (.const (jn 0)), [], none⟩]) (.cond (.tmp 31) (.seq (.reg [⟨some 32, none, .mov (.tmp 13), [], none⟩, ⟨some 33, none, .nilc (.tmp 32), [], none⟩, ⟨some 34, none, .faddr 1 1 (.tmp 33), [], none⟩, ⟨some 35, none, .faddr 164 9 (.tmp 34), [], none⟩, ⟨some 36, none, .load false 1 (.tmp 35), [], none⟩, ⟨some 37, none, .mov (.tmp 19), [], none⟩, ⟨some 38, none, .iaddrS 65 (.tmp 36) (.tmp 37), [], none⟩, ⟨some 39, none, .faddr 33 2 (.tmp 38), [], none⟩, ⟨some 40, none, .load true 32 (.tmp 39), [], none⟩, ⟨none, none, .store 32 (.tmp 14) (.tmp 40), [], none⟩]) (.seq (.reg [⟨some 41, none, .mov (.tmp 13), [], none⟩, ⟨some 42, none, .mov (.tmp 13), [], none⟩, ⟨some 43, none, .nilc (.tmp 42), [], none⟩, ⟨some 44, none, .faddr 1 1 (.tmp 43), [], none⟩, ⟨some 45, none, .faddr 164 9 (.tmp 44), [], none⟩, ⟨some 46, none, .load false 1 (.tmp 45), [], none⟩, ⟨some 47, none, .mov (.tmp 19), [], none⟩, ⟨some 48, none, .mov (.tmp 19), [], none⟩, ⟨some 49, none, .bin .add (.tmp 48) (.const (jn 1)), [], none⟩, ⟨some 50, none, .xc (.dir 25) [.tmp 46, .tmp 47, .tmp 49] [] [], [], none⟩, ⟨some 51, none, .nilc (.tmp 41), [], none⟩, ⟨some 52, none, .faddr 1 1 (.tmp 51), [], none⟩, ⟨some 53, none, .faddr 164 9 (.tmp 52), [], none⟩, ⟨none, none, .store 1 (.tmp 53) (.tmp 50), [], none⟩]) (.exit 1000000000))) .skip)) (.seq (.seq (.reg [⟨some 54, none, .faddr 0 0 (.tmp 7), [], none⟩, ⟨some 55, none, .load true 32 (.tmp 54), [], none⟩, ⟨some 56, none, .mov (.tmp 13), [], none⟩, ⟨some 57, none, .nilc (.tmp 56), [], none⟩, ⟨some 58, none, .faddr 1 1 (.tmp 57), [], none⟩, ⟨some 59, none, .faddr 32 1 (.tmp 58), [], none⟩, ⟨some 60, none, .load true 32 (.tmp 59), [], none⟩, ⟨some 61, none, .eqv 29 true (.tmp 55) (.tmp 60), [], none⟩]) (.cond (.tmp 61) (.seq (.reg [⟨some 63, none, .mov (.tmp 13), [], none⟩, ⟨some 64, none, .nilc (.tmp 63), [], none⟩, ⟨some 65, none, .faddr 0 0 (.tmp 64), [], none⟩, ⟨some 66, none, .load false 1 (.tmp 65), [], (.some 13)⟩, ⟨some 67, none, .mov (.tmp 13), [], none⟩, ⟨some 68, none, .nilc (.tmp 67), [], none⟩, ⟨some 69, none, .faddr 1 1 (.tmp 68), [], none⟩, ⟨some 70, none, .faddr 0 0 (.tmp 69), [], none⟩, ⟨some 71, none, .load true 32 (.tmp 70), [], none⟩, ⟨some 72, none, .faddr 0 0 (.tmp 7), [], none⟩, ⟨some 73, none, .load true 32 (.tmp 72), [], none⟩, ⟨some 74, none, .rdp .nilv [.tmp 66], [], none⟩, ⟨some 75, none, .mov (.tmp 66), [], none⟩, ⟨some 76, none, .xc (.inv "Agree") [.tmp 75, .tmp 71, .tmp 73] [] [], [], none⟩, ⟨some 62, none, .mov (.tmp 76), [], none⟩, ⟨some 77, none, .ext (.tmp 62) 0, [], none⟩, ⟨some 78, none, .ext (.tmp 62) 1, [], none⟩, ⟨none, none, .store 32 (.tmp 17) (.tmp 77), [], none⟩, ⟨some 16, none, .mov (.tmp 78), [], none⟩]) (.seq (.seq (.reg [⟨some 79, none, .mov (.tmp 13), [], none⟩, ⟨some 80, none, .nilc (.tmp 79), [], none⟩, ⟨some 81, none, .faddr 1 1 (.tmp 80), [], none⟩, ⟨some 82, none, .faddr 163 8 (.tmp 81), [], none⟩, ⟨some 83, none, .load false 1 (.tmp 82), [], none⟩, ⟨some 84, none, .mov (.tmp 83), [], none⟩, ⟨some 85, some (84, false), .mov (.tmp 16), [], none⟩, ⟨some 86, some (84, false), .un .not (.tmp 85), [], none⟩, ⟨some 87, none, .pick (.tmp 84) (.const (.bool true)) (.tmp 86), [], none⟩, ⟨some 88, none, .mov (.tmp 87), [], none⟩, ⟨some 89, some (88, false), .faddr 33 2 (.tmp 7), [], none⟩, ⟨some 90, some (88, false), .load false 1 (.tmp 89), [], none⟩, ⟨some 91, some (88, false), .mov (.tmp 13), [], none⟩, ⟨some 92, some (88, false), .nilc (.tmp 91), [], none⟩, ⟨some 93, some (88, false), .faddr 1 1 (.tmp 92), [], none⟩, ⟨some 94, some (88, false), .faddr 161 6 (.tmp 93), [], none⟩, ⟨some 95, some (88, false), .load false 1 (.tmp 94), [], none⟩, ⟨some 96, some (88, false), .bin .lss (.tmp 90) (.tmp 95), [], none⟩, ⟨some 97, none, .pick (.tmp 88) (.const (.bool true)) (.tmp 96), [], none⟩]) (.cond (.tmp 97) (.seq (.reg [⟨some 18, none, .mov (.const (jn 12)), [], none⟩]) (.exit 1000000001)) .skip)) (.seq (.seq (.reg [⟨some 98, none, .faddr 33 2 (.tmp 7), [], none⟩, ⟨some 99, none, .load false 1 (.tmp 98), [], none⟩, ⟨some 100, none, .bin .eql (.tmp 99) (.const (wn 4294967295)), [], none⟩, ⟨some 101, none, .mov (.tmp 100), [], none⟩, ⟨some 102, some (101, false), .faddr 32 1 (.tmp 7), [], none⟩, ⟨some 103, some (101, false), .load false 1 (.tmp 102), [], none⟩, ⟨some 104, some (101, false), .bin .eql (.tmp 103) (.const (wn 4294967295)), [], none⟩, ⟨some 105, none, .pick (.tmp 101) (.const (.bool true)) (.tmp 104), [], none⟩, ⟨some 106, none, .mov (.tmp 105), [], none⟩, ⟨some 107, some (106, false), .faddr 33 2 (.tmp 7), [], none⟩, ⟨some 108, some (106, false), .load false 1 (.tmp 107), [], none⟩, ⟨some 109, some (106, false), .mov (.tmp 13), [], none⟩, ⟨some 110, some (106, false), .nilc (.tmp 109), [], none⟩, ⟨some 111, some (106, false), .faddr 1 1 (.tmp 110), [], none⟩, ⟨some 112, some (106, false), .faddr 161 6 (.tmp 111), [], none⟩, ⟨some 113, some (106, false), .load false 1 (.tmp 112), [], none⟩, ⟨some 114, some (106, false), .bin .sub (.tmp 108) (.tmp 113), [], none⟩, ⟨some 115, some (106, false), .cvt .u64 (.tmp 114), [], none⟩, ⟨some 116, some (106, false), .faddr 32 1 (.tmp 7), [], none⟩, ⟨some 117, some (106, false), .load false 1 (.tmp 116), [], none⟩, ⟨some 118, some (106, false), .cvt .u64 (.tmp 117), [], none⟩, ⟨some 119, some (106, false), .bin .add (.tmp 115) (.tmp 118), [], none⟩, ⟨some 120, some (106, false), .mov (.tmp 13), [], none⟩, ⟨some 121, some (106, false), .nilc (.tmp 120), [], none⟩, ⟨some 122, some (106, false), .faddr 1 1 (.tmp 121), [], none⟩, ⟨some 123, some (106, false), .faddr 164 9 (.tmp 122), [], none⟩, ⟨some 124, some (106, false), .load false 1 (.tmp 123), [], none⟩, ⟨some 125, some (106, false), .len false (.tmp 124), [], none⟩, ⟨some 126, some (106, false), .cvt .u64 (.tmp 125), [], none⟩, ⟨some 127, some (106, false), .bin .add (.tmp 119) (.tmp 126), [], none⟩, ⟨some 128, some (106, false), .bin .gtr (.tmp 127) (.const (un 16)), [], none⟩, ⟨some 129, none, .pick (.tmp 106) (.const (.bool true)) (.tmp 128), [], none⟩]) (.cond (.tmp 129) (.seq (.reg [⟨some 18, none, .mov (.const (jn 11)), [], none⟩]) (.exit 1000000001)) .skip)) (.seq (.reg [⟨some 130, none, .mov (.tmp 13), [], none⟩, ⟨some 131, none, .faddr 33 2 (.tmp 7), [], none⟩, ⟨some 132, none, .load false 1 (.tmp 131), [], none⟩, ⟨some 133, none, .icall 26 (.tmp 130) [.tmp 132], [], none⟩]) (.reg [⟨some 134, none, .mov (.tmp 13), [], none⟩, ⟨some 135, none, .mov (.tmp 13), [], none⟩, ⟨some 136, none, .mov (.tmp 13), [], none⟩, ⟨some 137, none, .mov (.tmp 13), [], none⟩, ⟨some 138, none, .mov (.tmp 13), [], none⟩, ⟨some 139, none, .load true 32 (.tmp 17), [], none⟩, ⟨some 140, none, .xc (.dir 20) [.tmp 138, .tmp 139] [7] [], [], none⟩, ⟨some 141, none, .faddr 0 0 (.tmp 7), [], none⟩, ⟨some 142, none, .load true 32 (.tmp 141), [13], (.some 7)⟩, ⟨some 143, none, .nilc (.tmp 134), [], none⟩, ⟨some 144, none, .faddr 1 1 (.tmp 143), [], none⟩, ⟨some 145, none, .faddr 128 4 (.tmp 144), [], none⟩, ⟨none, none, .store 32 (.tmp 145) (.tmp 140), [], (.some 13)⟩, ⟨some 146, none, .nilc (.tmp 135), [], none⟩, ⟨some 147, none, .faddr 1 1 (.tmp 146), [], none⟩, ⟨some 148, none, .faddr 32 1 (.tmp 147), [], none⟩, ⟨none, none, .store 32 (.tmp 148) (.tmp 142), [], none⟩, ⟨some 149, none, .nilc (.tmp 136), [], none⟩, ⟨some 150, none, .faddr 1 1 (.tmp 149), [], none⟩, ⟨some 151, none, .faddr 161 6 (.tmp 150), [], none⟩, ⟨none, none, .store 1 (.tmp 151) (.const (wn 0)), [], none⟩, ⟨some 152, none, .nilc (.tmp 137), [], none⟩, ⟨some 153, none, .faddr 1 1 (.tmp 152), [], none⟩, ⟨some 154, none, .faddr 163 8 (.tmp 153), [], none⟩, ⟨none, none, .store 1 (.tmp 154) (.const (.bool true)), [], none⟩]))))) .skip)) fbStep))))))))) 0 fbOpen) 1 fbWrong))
def fc911 : FC := ⟨5, 225, [(.cell 10 .true 165), (.tmp 11), (.tmp 12)], fb911⟩
theorem fc911_eq : compF Go.Proofs.Tryd.prog 11 = some fc911 := by kernel_rfl
attribute [local irreducible] AReg
theorem twoV_pre (ts : List Term) (s : List UInt8) (ks : List (List UInt8)) : ts <+: (twoV ts s ks).2 := (put_pre _ _).trans (put_pre _ _)
theorem twoV_ok {ts : List Term} (h : TsOk ts) (hl : ts.length + 2 < 90000) {s : List UInt8} (hs : s.length < 90000) {ks : List (List UInt8)} (hk : ks.length < 1000) (h32 : ∀ k ∈ ks, k.length = 32) : TsOk (twoV ts s ks).2 := by
  have h1 := putT_len ts ⟨2, s ++ [47, 49], ks⟩
  unfold twoV
  simp only
  exact (h.put ⟨by simp, by simp; omega, by simp only; omega, h32⟩ ⟨by simp, by simp⟩ (by omega)).put ⟨by simp, by simp; omega, by simp only; omega, h32⟩ ⟨by simp, by simp⟩ (by omega)
theorem skipG_ok : ∀ (n : Nat) (x : Ses) (ts : List Term), TsOk ts → ts.length + 2 * n + 10 < 90000 → SeOk x → x.nr + n < 4294967296 → x.skips.length + n < 1000 →
    TsOk (skipG n x ts).2 ∧ (skipG n x ts).2.length ≤ ts.length + 2 * n ∧ SeOk (skipG n x ts).1 ∧ (skipG n x ts).1.nr = x.nr + n ∧ (skipG n x ts).1.skips.length = x.skips.length + n ∧ ts <+: (skipG n x ts).2
  | 0, x, ts, h1, h2, h3, h4, h5 => ⟨h1, Nat.le_refl _, h3, rfl, rfl, List.prefix_refl _⟩
  | n + 1, x, ts, h1, h2, h3, h4, h5 => by
    have l1 := twoV_len ts txStep [x.recv]
    have o1 := twoV_ok h1 (by omega) (s := txStep) (by simp [txStep]) (ks := [x.recv]) (by simp) (by simp [h3.recv])
    have n1 : (twoV ts txStep [x.recv]).1.1.length = 32 := nameK_len _
    have n2 : (twoV ts txStep [x.recv]).1.2.length = 32 := nameK_len _
    obtain ⟨r1, r2, r3, r4, r5, r6⟩ := skipG_ok n { x with recv := (twoV ts txStep [x.recv]).1.2, nr := x.nr + 1, skips := x.skips ++ [⟨x.theirs, x.nr, (twoV ts txStep [x.recv]).1.1⟩] } (twoV ts txStep [x.recv]).2 o1 (by omega) (h3.step n1 n2 (by omega) (by omega)) (by simp only; omega) (by simp; omega)
    rw [skipG]
    refine ⟨r1, by omega, r3, by rw [r4]; simp only; omega, by rw [r5]; simp; omega, (twoV_pre _ _ _).trans r6⟩
def turnR (x : Ses) (root recv theirs : List UInt8) : Ses := { x with root := root, recv := recv, theirs := theirs, nr := 0, turn := true }
def rcvQ (ts : List Term) (x : Ses) (h : HeadV) : Sum (Nat × List Term) (Ses × List UInt8 × List Term) :=
  if h.n < x.nr then .inl (10, ts) else
    let g := skipG (h.n - x.nr) x ts
    let tv := twoV g.2 txStep [g.1.recv]
    .inr ({ g.1 with recv := tv.1.2, nr := g.1.nr + 1 }, tv.1.1, tv.2)
def rcvT (ts : List Term) (x : Ses) (h : HeadV) (w : List UInt8) : Ses × List Term :=
  let g := skipG (h.prev - x.nr) x ts
  let tv := twoV g.2 txTurn [g.1.root, w]
  (turnR g.1 tv.1.1 tv.1.2 h.pub, tv.2)
def rcvP (ts : List Term) (x : Ses) (h : HeadV) : Sum (Nat × List Term) (Ses × List UInt8 × List Term) :=
  match idxQ (skP h.pub h.n) x.skips 0 with
  | some i => .inr ({ x with skips := x.skips.take i ++ x.skips.drop (i + 1) }, ((x.skips[i]?).map SkV.key).getD zk, ts)
  | none => if h.pub = x.theirs then rcvQ ts x h else
    match agreeX ts x.mine h.pub with
    | none => .inl (12, ts)
    | some y => if x.turn = true ∨ h.prev < x.nr then .inl (12, putT ts y) else if 16 < h.prev - x.nr + h.n + x.skips.length then .inl (11, putT ts y) else
      rcvQ (rcvT (putT ts y) x h (nameK (putN ts y))).2 (rcvT (putT ts y) x h (nameK (putN ts y))).1 h
def rcvO (ts : List Term) (x0 x : Ses) (h : HeadV) (by_ body key : List UInt8) : (Ses × List (List UInt8) × Nat) × List Term :=
  match openX (putT ts (bindT h by_)) key (nameK (putN ts (bindT h by_))) body with
  | some y => ((x, y.keys.drop 2, 0), putT ts (bindT h by_))
  | none => ((x0, [], 2), putT ts (bindT h by_))
def rcvV (ts : List Term) (x : Ses) (h : HeadV) (by_ body : List UInt8) : (Ses × List (List UInt8) × Nat) × List Term :=
  match rcvP ts x h with
  | .inl (e, us) => ((x, [], e), us)
  | .inr (x1, key, us) => rcvO us x x1 h by_ body key
def rcvA (x : Ses × List (List UInt8) × Nat) : AV := .tup [sesA x.1, .sl 32 (klA x.2.1), .lit (jn x.2.2)]
def wrT (N e : Nat) (l6 l10 : Nat × Nat) : List AV :=
  [.any, .any, .any, .any, .any, .any, .ptr (N + 6) l6 0 [], .any, .any, .any, .ptr (N + 10) l10 0 [], .any, .any, .any, .any, .any, .any, .any, .lit (jn e)] ++ List.replicate 206 .any
def wrL (x : Ses) (l6 l10 : Nat × Nat) : List (Option Blk) :=
  [none, none, none, none, none, none, some (.box l6 165 (sesA x)), none, none, none, some (.box l10 165 zsA)] ++ List.replicate 214 none
abbrev rcvRV : List RV := [.cell 10 true 165, .tmp 11, .tmp 12]
def RcvK (H : List (Option Blk)) (t : Tb) (o : (Ses × List (List UInt8) × Nat) × List Term) (r : AV) (H' : List (Option Blk)) : Prop :=
  ∃ r' A, RelLe r r' ∧ r' ≠ .any ∧ HpLe H' A ∧ r' = rcvA o.1 ∧ ∃ V', A = tbOf H t V' o.2
set_option maxRecDepth 100000 in
set_option maxHeartbeats 8000000 in
theorem wrong_wp {H : List (Option Blk)} {t : Tb} {V V0 : Value} {ts ts0 : List Term} (hh : TbOk H t V0 ts0) {N : Nat} (hN : H.length = N) {x : Ses} (hx : SeOk x) {e : Nat} {l6 l10 : Nat × Nat} {Q : AX → AS → Prop}
    (hq : ∀ s, (∃ s1, Le s s1 ∧ FinX rcvRV s1 (RcvK H t ((x, [], e), ts))) → Q .ret s) : fbWrong.wp Go.Proofs.Tryd.prog ⟨N, wrT N e l6 l10, tbOf H t V ts ++ wrL x l6 l10⟩ Q := by
  have g1 : ∀ V' ts' L k, (tbOf H t V' ts' ++ L)[N + k]? = L[k]? := fun V' ts' L k => cat1 _ _ _ _ (by rw [tbOf_len]; exact hN)
  have g2 : ∀ V' ts' L k x, (tbOf H t V' ts' ++ L).set (N + k) x = tbOf H t V' ts' ++ L.set k x := fun V' ts' L k x => cat2 _ _ _ _ _ (by rw [tbOf_len]; exact hN)
  unfold fbWrong wrT wrL
  have hsA : sesA x = .st [32, 32, 32, 32, 32, 1, 1, 1, 1, 1] [keyA x.mine, keyA x.theirs, keyA x.root, keyA x.send, keyA x.recv, .lit (wn x.ns), .lit (wn x.nr), .lit (wn x.pn), .lit (.bool x.turn), .sl 65 (x.skips.map skA)] := rfl
  refine wp_seq' (wp_skip' ?_)
  refine wp_sr (by simp [push_cast, g1, g2, hsA, zsA, zk_len]; exact rfl) (wp_ret' (hq _ ?_))
  refine ⟨_, Le.refl _, [], _, ⟨_, rfl, by simp [AS.seals, RVals, RVal, AS.ev, AS.peek, AS.blk, g1, Blk.loc, Blk.cont, Blk.n, AV.nav, AV.isAgg, AV.isTup, AS.coe]; rfl, by simp⟩, rcvA (x, [], e), tbOf H t V ts, ?_, by simp [rcvA], HpLe.trim _ _, rfl, V, rfl⟩
  exact RelLe.tup (AVle.tupC (AVle.tupNil (AVle.refl _)))
end Go.Cab
namespace Go.Cab
open Classical
theorem twoV_nm (ts : List Term) (s : List UInt8) (ks : List (List UInt8)) : Nm (twoV ts s ks).2 ⟨2, s ++ [47, 49], ks⟩ (twoV ts s ks).1.1 ∧ Nm (twoV ts s ks).2 ⟨2, s ++ [47, 50], ks⟩ (twoV ts s ks).1.2 :=
  ⟨(Nm.put _ _).mono (put_pre _ _), Nm.put _ _⟩
theorem twoV_again {us : List Term} {s a b : List UInt8} {ks : List (List UInt8)} (h1 : Nm us ⟨2, s ++ [47, 49], ks⟩ a) (h2 : Nm us ⟨2, s ++ [47, 50], ks⟩ b) : twoV us s ks = ((a, b), us) := by
  unfold twoV
  rw [h1.putT, h1.putN, h2.putN, h2.putT]
theorem two_ok {s : List UInt8} (hs : s.length < 90000) {ks : List (List UInt8)} (hk : ks.length < 1000) (h32 : ∀ k ∈ ks, k.length = 32) (e : List UInt8) (he : e.length = 2) : TermOk ⟨2, s ++ e, ks⟩ := ⟨by simp, by simp [he]; omega, by simp only; omega, h32⟩
structure Lc (ts : List Term) (W : List (List UInt8)) (i : Nat) (x y : Ses) : Prop where
  root : x.root = y.root
  sr : x.send = y.recv
  rs : x.recv = y.send
  ns : x.ns = y.nr
  nr : x.nr = y.ns
  turn : x.turn = !y.turn
  skx : x.skips = []
  sky : y.skips = []
  mx : Mine ts i x.mine
  my : Mine ts i y.mine
  cr : Cur ts W x.root
  cs : Cur ts W x.send
  cv : Cur ts W x.recv
  d1 : x.root ≠ x.send
  d2 : x.root ≠ x.recv
  d3 : x.send ≠ x.recv
theorem Lc.mono {ts us : List Term} {W : List (List UInt8)} {i : Nat} {x y : Ses} (h : Lc ts W i x y) (p : ts <+: us) : Lc us W i x y :=
  ⟨h.root, h.sr, h.rs, h.ns, h.nr, h.turn, h.skx, h.sky, h.mx.mono p, h.my.mono p, h.cr.mono p, h.cs.mono p, h.cv.mono p, h.d1, h.d2, h.d3⟩
theorem Cur.up {ts : List Term} {W V : List (List UInt8)} {k : List UInt8} (h : Cur ts W k) (hV : k ∉ V) : Cur ts (W ++ V) k := by
  obtain ⟨⟨x, h1, h2, h3⟩, h4⟩ := h
  exact ⟨⟨x, h1, h2, h3.up fun k hk => List.mem_append_left _ hk⟩, fun hk => (List.mem_append.1 hk).elim h4 hV⟩
theorem Cur.len {ts : List Term} {W : List (List UInt8)} {k : List UInt8} (h : Cur ts W k) : k.length = 32 := by
  obtain ⟨⟨x, _, h2, _⟩, _⟩ := h
  exact h2.len
theorem Cur.ne_draw {ts : List Term} (hts : TsOk ts) {W : List (List UInt8)} {k m s : List UInt8} (h : Cur ts W k) (hm : Nm ts (drawT s) m) (ho : TermOk (drawT s)) : k ≠ m := fun e => by
  subst e
  obtain ⟨⟨x, h1, h2, h3, _⟩, _⟩ := h
  have e := h2.inj hm hts h1 ho
  subst e
  simp [drawT] at h3
set_option maxHeartbeats 2000000 in
theorem step_law {ts : List Term} (hts : TsOk ts) (hl : ts.length + 20 < 90000) {W : List (List UInt8)} (hW : HidW ts W) {i : Nat} {x y : Ses} (L : Lc ts W i x y) (hns : x.ns < 99) (hpn : x.pn < 99) {s sec by_ : List UInt8} (hsec : Nm ts (drawT s) sec) (hs : HidS s) (hso : TermOk (drawT s)) (hb : by_.length = 32) :
    ∃ key next pub body us, sendS ts x by_ [sec] = (({ x with send := next, ns := x.ns + 1 }, ⟨pub, x.ns, x.pn⟩, body), us) ∧ TsOk us ∧ us.length ≤ ts.length + 5 ∧ ts <+: us ∧ Nm us (pubT x.mine) pub ∧ body.length = 32 ∧ next.length = 32 ∧
      (∃ z, TermOk z ∧ Nm us z body ∧ z.kind = 6) ∧
      (∀ y1 : Ses, y1.recv = x.send → y1.nr = x.ns → rcvQ us y1 ⟨pub, x.ns, x.pn⟩ = .inr ({ y1 with recv := next, nr := y1.nr + 1 }, key, us)) ∧
      (∀ y0 y1 : Ses, rcvO us y0 y1 ⟨pub, x.ns, x.pn⟩ by_ body key = ((y1, [sec], 0), us)) ∧
      HidW us (W ++ [x.send, key, sec]) ∧ Lc us (W ++ [x.send, key, sec]) i { x with send := next, ns := x.ns + 1 } { y with recv := next, nr := y.nr + 1 } := by
  have hc := L.cs.len
  obtain ⟨a1, a2⟩ := twoV_nm ts txStep [x.send]
  have a3 := twoV_pre ts txStep [x.send]
  have a4 := twoV_ok hts (by omega) (s := txStep) (by simp [txStep]) (ks := [x.send]) (by simp) (by simp [hc])
  have a5 := twoV_len ts txStep [x.send]
  have a6 : ∀ z ∈ (twoV ts txStep [x.send]).2, z.kind = 6 → z.keys.getD 0 zk ∈ W := fun z hz h6 => by
    rcases mem_put hz with hz | rfl
    · rcases mem_put hz with hz | rfl
      · exact hW.box z hz h6
      · simp at h6
    · simp at h6
  have o1 := two_ok (s := txStep) (by simp [txStep]) (ks := [x.send]) (by simp) (by simp [hc]) [47, 49] rfl
  have o2 := two_ok (s := txStep) (by simp [txStep]) (ks := [x.send]) (by simp) (by simp [hc]) [47, 50] rfl
  unfold sendS
  generalize twoV ts txStep [x.send] = tv at *
  obtain ⟨⟨key, next⟩, t1⟩ := tv
  simp only at a1 a2 a3 a4 a5 a6 ⊢
  have hm : x.mine.length = 32 := by obtain ⟨_, _, h, _⟩ := L.mx; exact h.len
  have b1 := Nm.put t1 (pubT x.mine)
  have b2 := put_pre t1 (pubT x.mine)
  have b3 := a4.putPub hm (by omega)
  have b4 := putT_len t1 (pubT x.mine)
  have b5 : ∀ z ∈ putT t1 (pubT x.mine), z.kind = 6 → z.keys.getD 0 zk ∈ W := fun z hz h6 => by
    rcases mem_put hz with hz | rfl
    · exact a6 z hz h6
    · simp [pubT] at h6
  generalize nameK (putN t1 (pubT x.mine)) = pub at *
  generalize putT t1 (pubT x.mine) = t2 at *
  have hp := b1.len
  have hbl : (bindX x.ns x.pn).length < 1000 := by
    have := dec2_len x.ns; have := dec2_len x.pn
    simp [bindX, txHead]; omega
  have ob : TermOk (bindT ⟨pub, x.ns, x.pn⟩ by_) := ⟨by simp [bindT], by simp only [bindT]; omega, by simp [bindT], by simp [bindT, hb, hp]⟩
  have c1 := Nm.put t2 (bindT ⟨pub, x.ns, x.pn⟩ by_)
  have c2 := put_pre t2 (bindT ⟨pub, x.ns, x.pn⟩ by_)
  have c3 := b3.put ob ⟨by simp [bindT], by simp [bindT]⟩ (by omega)
  have c4 := putT_len t2 (bindT ⟨pub, x.ns, x.pn⟩ by_)
  have c5 : ∀ z ∈ putT t2 (bindT ⟨pub, x.ns, x.pn⟩ by_), z.kind = 6 → z.keys.getD 0 zk ∈ W := fun z hz h6 => by
    rcases mem_put hz with hz | rfl
    · exact b5 z hz h6
    · simp [bindT] at h6
  have hbt : ∀ us, Nm us (bindT ⟨pub, x.ns, x.pn⟩ by_) (nameK (putN t2 (bindT ⟨pub, x.ns, x.pn⟩ by_))) → nameK (putN us (bindT ⟨pub, x.ns, x.pn⟩ by_)) = nameK (putN t2 (bindT ⟨pub, x.ns, x.pn⟩ by_)) ∧ putT us (bindT ⟨pub, x.ns, x.pn⟩ by_) = us := fun us h => ⟨h.putN, h.putT⟩
  generalize nameK (putN t2 (bindT ⟨pub, x.ns, x.pn⟩ by_)) = bd at *
  generalize putT t2 (bindT ⟨pub, x.ns, x.pn⟩ by_) = t3 at *
  have hk := a1.len
  have hbd := c1.len
  have hse := hsec.len
  have os : TermOk (sealK key bd [] [sec]) := sealK_ok hk hbd (by simp) (by simp) (by simp [hse])
  have d1 := Nm.put t3 (sealK key bd [] [sec])
  have d2 := put_pre t3 (sealK key bd [] [sec])
  have d3 := c3.put os ⟨by simp [sealK], by simp [sealK]⟩ (by omega)
  have d4 := putT_len t3 (sealK key bd [] [sec])
  have d5 : ∀ z ∈ putT t3 (sealK key bd [] [sec]), z.kind = 6 → z.keys.getD 0 zk ∈ W ∨ z.keys.getD 0 zk = key := fun z hz h6 => by
    rcases mem_put hz with hz | rfl
    · exact .inl (c5 z hz h6)
    · simp [sealK]
  generalize nameK (putN t3 (sealK key bd [] [sec])) = body at *
  generalize putT t3 (sealK key bd [] [sec]) = us at *
  have p1 := (b2.trans c2).trans d2
  have p0 := a3.trans p1
  have n1 := a1.mono p1
  have n2 := a2.mono p1
  have hW1 : HidW t3 W := hW.mono (a3.trans (b2.trans c2)) c5
  have q1 := (a1.mono b2).mono c2
  have q2 := (a2.mono b2).mono c2
  have q3 := hsec.mono (a3.trans (b2.trans c2))
  have L3 := L.mono (a3.trans (b2.trans c2))
  obtain ⟨f1, f2⟩ := new_hash c3 hW1 o1 q1 rfl (by simp only [List.mem_singleton]; rintro q rfl; exact L.cs.2)
  obtain ⟨g1, g2⟩ := new_hash c3 hW1 o2 q2 rfl (by simp only [List.mem_singleton]; rintro q rfl; exact L.cs.2)
  have hkn : next ≠ key := fun e => by
    subst e
    have := q2.inj q1 c3 o2 o1
    simp at this
  have hns2 : next ≠ sec := fun e => by
    subst e
    have := q2.inj q3 c3 o2 hso
    simp [drawT] at this
  have hup : HidW t3 (W ++ [x.send, key, sec]) := hW1.up fun k hk => by
    simp only [List.mem_cons, List.not_mem_nil, or_false] at hk
    rcases hk with rfl | rfl | rfl
    · obtain ⟨⟨z, z1, z2, z3⟩, _⟩ := L3.cs
      exact ⟨z, z1, z2, .inr (z3.up fun k hk => List.mem_append_left _ hk)⟩
    · exact ⟨_, o1, q1, .inr ⟨rfl, x.send, by simp, by simp⟩⟩
    · exact ⟨_, hso, q3, .inl ⟨s, rfl, hs⟩⟩
  have hup2 : HidW us (W ++ [x.send, key, sec]) := hup.mono d2 fun z hz h6 => by
    rcases d5 z hz h6 with h | h
    · exact List.mem_append_left _ h
    · rw [h]; simp
  refine ⟨key, next, pub, body, us, rfl, d3, by omega, p0, (b1.mono c2).mono d2, d1.len, a2.len, ⟨_, os, d1, rfl⟩, fun y1 e1 e2 => ?_, fun y0 y1 => ?_, hup2, ?_⟩
  · unfold rcvQ
    rw [if_neg (by simp only; omega)]
    simp only [e2, Nat.sub_self, skipG, e1]
    rw [twoV_again n1 n2]
  · unfold rcvO
    obtain ⟨r1, r2⟩ := hbt us (c1.mono d2)
    rw [r1, r2, openX_nm d3 os d1]
    simp [sealK]
  · have hr : x.root ∉ [x.send, key, sec] := by
      simp only [List.mem_cons, List.not_mem_nil, or_false, not_or]
      exact ⟨L.d1, fun e => f2 _ L3.cr e.symm, L3.cr.ne_draw c3 q3 hso⟩
    have hv : x.recv ∉ [x.send, key, sec] := by
      simp only [List.mem_cons, List.not_mem_nil, or_false, not_or]
      exact ⟨fun e => L.d3 e.symm, fun e => f2 _ L3.cv e.symm, L3.cv.ne_draw c3 q3 hso⟩
    have hnx : Cur t3 (W ++ [x.send, key, sec]) next := ⟨⟨_, o2, q2, rfl, x.send, by simp, by simp⟩, fun hk => by
      rcases List.mem_append.1 hk with hk | hk
      · exact g1 hk
      · simp only [List.mem_cons, List.not_mem_nil, or_false] at hk
        rcases hk with h | h | h
        · exact g2 _ L3.cs h
        · exact hkn h
        · exact hns2 h⟩
    exact ⟨L.root, rfl, L.rs, by simp [L.ns], L.nr, L.turn, L.skx, L.sky, L.mx.mono p0, L.my.mono p0, (L3.cr.up hr).mono d2, hnx.mono d2, (L3.cv.up hv).mono d2, fun e => g2 _ L3.cr e.symm, L.d2, g2 _ L3.cv⟩
end Go.Cab
namespace Go.Cab
open Go.RowKit
open Classical
attribute [local irreducible] AReg
def opT (N : Nat) (t : Tb) (l : Nat × Nat) (x : Ses) (h : HeadV) (by_ body : List UInt8) (l6 l7 l8 l10 l14 : Nat × Nat) : List AV :=
  [freeI t.b t.l, sesA x, headA h, keyA by_, .lit (tx body), .any, .ptr (N + 6) l6 0 [], .ptr (N + 7) l7 0 [], .ptr (N + 8) l8 0 [], .any, .ptr (N + 10) l10 0 [], .lit (.slice none 0 0), .lit (jn 0), .ptr (N + 13) l 0 [], .ptr (N + 14) l14 0 []] ++ List.replicate 210 .any
def opL (N : Nat) (t : Tb) (l : Nat × Nat) (x0 : Ses) (h : HeadV) (by_ : List UInt8) (l6 l7 l8 l10 l14 : Nat × Nat) (x : Ses) (Vc : Value) (key : List UInt8) : List (Option Blk) :=
  [some (swk x Vc), none, none, none, none, none, some (.box l6 165 (sesA x0)), some (.box l7 34 (headA h)), some (.box l8 32 (keyA by_)), none, some (.box l10 165 zsA), none, none, some (sbk t ⟨N + 13, l, N + 0⟩ x Vc), some (.box l14 32 (keyA key))] ++ List.replicate 210 none
set_option maxRecDepth 100000 in
set_option maxHeartbeats 32000000 in
theorem open_wp {H : List (Option Blk)} {t : Tb} {V V0 : Value} {ts ts0 : List Term} (hh : TbOk H t V0 ts0) {N : Nat} (hN : H.length = N) (hts : TsOk ts) (hl : ts.length + 10 < 90000) {x0 x : Ses} (hx0 : SeOk x0) (hx : SeOk x) {h : HeadV} (hp : h.pub.length = 32) (h1 : h.n < 100) (h2 : h.prev < 100) {by_ body key : List UInt8} (hb : by_.length = 32) (hbo : body.length < 1000) (hk : key.length = 32)
    {l l6 l7 l8 l10 l14 : Nat × Nat} {Vc : Value} {Q : AX → AS → Prop}
    (hq : ∀ s, (∃ s1, Le s s1 ∧ FinX rcvRV s1 (RcvK H t (rcvO ts x0 x h by_ body key))) → Q .ret s) : fbOpen.wp Go.Proofs.Tryd.prog ⟨N, opT N t l x0 h by_ body l6 l7 l8 l10 l14, tbOf H t V ts ++ opL N t l x0 h by_ l6 l7 l8 l10 l14 x Vc key⟩ Q := by
  have g1 : ∀ V' ts' L k, (tbOf H t V' ts' ++ L)[N + k]? = L[k]? := fun V' ts' L k => cat1 _ _ _ _ (by rw [tbOf_len]; exact hN)
  have g2 : ∀ V' ts' L k x, (tbOf H t V' ts' ++ L).set (N + k) x = tbOf H t V' ts' ++ L.set k x := fun V' ts' L k x => cat2 _ _ _ _ _ (by rw [tbOf_len]; exact hN)
  have kb := fun G V Vc (hG : StT G t ⟨N + 13, l, N + 0⟩ x Vc V ts) => bind_call (h := h) (by_ := by_) hG (by omega) hp hb h1 h2
  have n6 := nameK_len (putN ts (bindT h by_))
  have n7 := putT_len ts (bindT h by_)
  have hbl : (bindX h.n h.prev).length < 1000 := by
    have := dec2_len h.n; have := dec2_len h.prev
    simp [bindX, txHead]; omega
  have o7 : TsOk (putT ts (bindT h by_)) := hts.put ⟨by simp [bindT], by simp only [bindT]; omega, by simp [bindT], by simp [bindT, hb, hp]⟩ ⟨by simp [bindT], by simp [bindT]⟩ (by omega)
  unfold rcvO at hq
  generalize nameK (putN ts (bindT h by_)) = bd at *
  generalize putT ts (bindT h by_) = ts4 at *
  have ke : KC Go.Proofs.Tryd.prog 74 [.ptr t.b t.l 0 [], keyA key, keyA bd, .lit (tx body)] H t ts4 (openA (openX ts4 key bd body)) ts4 := open_k hh o7 hk n6 (by omega)
  have hhd : headA h = .st [32, 1, 1] [keyA h.pub, .lit (wn h.n), .lit (wn h.prev)] := rfl
  have hz : (headA h).sz = 34 := by simp [headA, AV.sz]
  unfold fbOpen opT opL
  refine wp_seq' (wp_skip' ?_)
  refine wp_sg ?_
  refine areg_run 6 (by simp [push_cast, g1, sbk, sdA, sesV, freeI, hk]; exact rfl) ?_
  refine areg_rdp (us := [.ptr (N + 13) l 0 []]) rfl (mkifc_z _ _) ?_
  refine areg_run 2 (by simp [push_cast, g1, hhd, hp, hb]; exact rfl) ?_
  refine areg_sb0 (x := x) (S := ⟨N + 13, l, N + 0⟩) (Vc := Vc) (p := 13) (q := 0) [zI ⟨N + 13, l, N + 0⟩, headA h, keyA by_] hh hN ⟨rfl, rfl, by decide, rfl, rfl⟩ rfl (tgt_bindZ _ _ _) kb (by simp [AS.ev, AV.place]) fun V4 => ?_
  refine areg_run 1 (by simp [push_cast]; exact rfl) ?_
  refine areg_rdp (us := [freeI t.b t.l]) rfl (nilv_free _ _) ?_
  refine areg_run 1 (by simp [push_cast]; exact rfl) ?_
  refine areg_k [freeI t.b t.l, keyA key, keyA bd, .lit (tx body)] hN rfl (tgt_openI _ _ _ _ _) ke (by simp) (by simp) fun V5 => ?_
  cases hop : openX ts4 key bd body with
  | none =>
    rw [hop] at hq
    simp only at hq
    unfold openA
    simp only
    refine areg_end (by simp [push_cast]; exact rfl) ?_
    refine wp_seq' (wp_seq' (wp_r (by simp [push_cast]; exact rfl) ?_))
    refine wp_cond_f (by simp [AS.ev]) (wp_skip' ?_)
    refine wp_seqL (wp_r (by simp [push_cast]; exact rfl) ?_)
    refine ⟨_, ?_, wrong_wp (V := V5) (e := 2) (l6 := l6) (l10 := l10) hh hN hx0 hq⟩
    exact Le.cat (by simp [wrT, leT]) (by simp [wrL, leH])
  | some y =>
    rw [hop] at hq
    simp only at hq
    unfold openA
    simp only
    refine areg_end (by simp [push_cast]; exact rfl) ?_
    refine wp_seq' (wp_seq' (wp_r (by simp [push_cast]; exact rfl) ?_))
    refine wp_cond_t (by simp [AS.ev]) ?_
    refine wp_sr (by simp [push_cast, g1, g2, zsA, zk_len, sbk, sdA, sesV]; exact rfl) (wp_ret' (hq _ ?_))
    refine ⟨_, Le.sealedF (b := N + 10) (j := N + 0) (n := 165) (i := 9) (e := 80) (esz := 65) (sl := 0) (l := l10) (ns := [32, 32, 32, 32, 32, 1, 1, 1, 1, 1]) (fs := [keyA x.mine, keyA x.theirs, keyA x.root, keyA x.send, keyA x.recv, .lit (wn x.ns), .lit (wn x.nr), .lit (wn x.pn), .lit (.bool x.turn), .own (N + 0) Vc]) (els := x.skips.map skA) (V := Vc) (by simp only [AS.blk, g1]; rfl) rfl (by simp only [AS.blk, g1]; rfl), ?_⟩
    refine ⟨[], _, ⟨_, rfl, by simp [AS.seals, RVals, RVal, AS.ev, AS.peek, AS.blk, g1, g2, Blk.loc, Blk.cont, Blk.n, AV.nav, AV.isAgg, AV.isTup, AS.coe]; rfl, by simp [sesA, sesV]⟩, rcvA (x, y.keys.drop 2, 0), tbOf H t V5 ts4, RelLe.refl _, by simp [rcvA], ?_, rfl, V5, rfl⟩
    simp only [AS.seals, g2]
    exact HpLe.trim _ _
end Go.Cab
namespace Go.Cab
open Go.RowKit
open Classical
attribute [local irreducible] AReg
def rwT (N : Nat) (t : Tb) (l : Nat × Nat) (x : Ses) (h : HeadV) (by_ body : List UInt8) (l6 l7 l8 l10 l14 : Nat × Nat) : List AV :=
  [freeI t.b t.l, sesA x, headA h, keyA by_, .lit (tx body), .any, .ptr (N + 6) l6 0 [], .ptr (N + 7) l7 0 [], .ptr (N + 8) l8 0 [], .any, .ptr (N + 10) l10 0 [], .lit (.slice none 0 0), .lit (jn 0), .ptr (N + 13) l 0 [], .ptr (N + 14) l14 0 []] ++ List.replicate 210 .any
set_option maxRecDepth 100000 in
set_option maxHeartbeats 64000000 in
theorem step_wp {H : List (Option Blk)} {t : Tb} {V V0 : Value} {ts ts0 : List Term} (hh : TbOk H t V0 ts0) {N : Nat} (hN : H.length = N) (hts : TsOk ts) (hl : ts.length + 100 < 90000) {x0 x : Ses} (hx0 : SeOk x0) (hx : SeOk x) (hnr : x.nr < 99) {h : HeadV} (hp : h.pub.length = 32) (h1 : h.n < 99) (h2 : h.prev < 99) {by_ body : List UInt8} (hb : by_.length = 32) (hbo : body.length < 1000)
    (hfit : x.nr ≤ h.n → h.n - x.nr + x.skips.length ≤ 16) {l l6 l7 l8 l10 l14 : Nat × Nat} {Vc : Value} {Q : AX → AS → Prop} {out : (Ses × List (List UInt8) × Nat) × List Term}
    (hout : out = (match rcvQ ts x h with
      | .inl (e, us) => ((x0, [], e), us)
      | .inr (x1, key, us) => rcvO us x0 x1 h by_ body key))
    (hq : ∀ s, (∃ s1, Le s s1 ∧ FinX rcvRV s1 (RcvK H t out)) → Q .ret s)
    (hw : ∀ s, (∃ e V' us, out = ((x0, [], e), us) ∧ Le s ⟨N, wrT N e l6 l10, tbOf H t V' us ++ wrL x0 l6 l10⟩) → Q (.exit 1000000001) s) :
    fbStep.wp Go.Proofs.Tryd.prog ⟨N, rwT N t l x0 h by_ body l6 l7 l8 l10 l14, tbOf H t V ts ++ opL N t l x0 h by_ l6 l7 l8 l10 l14 x Vc zk⟩ Q := by
  have g1 : ∀ V' ts' L k, (tbOf H t V' ts' ++ L)[N + k]? = L[k]? := fun V' ts' L k => cat1 _ _ _ _ (by rw [tbOf_len]; exact hN)
  have g2 : ∀ V' ts' L k x, (tbOf H t V' ts' ++ L).set (N + k) x = tbOf H t V' ts' ++ L.set k x := fun V' ts' L k x => cat2 _ _ _ _ _ (by rw [tbOf_len]; exact hN)
  have hsA : sesA x0 = .st [32, 32, 32, 32, 32, 1, 1, 1, 1, 1] [keyA x0.mine, keyA x0.theirs, keyA x0.root, keyA x0.send, keyA x0.recv, .lit (wn x0.ns), .lit (wn x0.nr), .lit (wn x0.pn), .lit (.bool x0.turn), .sl 65 (x0.skips.map skA)] := rfl
  have hhd : headA h = .st [32, 1, 1] [keyA h.pub, .lit (wn h.n), .lit (wn h.prev)] := rfl
  have b0 := bin_lssw h.n x.nr
  unfold rcvQ at hout
  unfold fbStep rwT opL
  refine wp_seq' (wp_seq' (wp_r (by simp [push_cast, g1, hhd, sbk, sdA, sesV, b0]; exact rfl) ?_))
  by_cases hlt : h.n < x.nr
  · rw [if_pos hlt] at hout
    simp only at hout
    refine wp_cond_t (by simp [AS.ev, hlt]) ?_
    refine wp_sr (by simp [push_cast]; exact rfl) ?_
    refine wp_exit' (hw _ ⟨10, V, ts, hout, ?_⟩)
    exact Le.cat (by simp [wrT, leT]) (by simp [wrL, leH])
  · rw [if_neg hlt] at hout
    simp only at hout
    refine wp_cond_f (by simp [AS.ev, hlt]) (wp_skip' ?_)
    obtain ⟨q1, q2, q3, q4, q5, q6⟩ := skipG_ok (h.n - x.nr) x ts hts (by have := hfit (by omega); omega) hx (by omega) (by have := hfit (by omega); omega)
    have hfit' := hfit (by omega)
    have ks := fun G V Vc (hG : StT G t ⟨N + 13, l, N + 0⟩ x Vc V ts) => skip_call (to := h.n) hG (by omega) hx (by omega) (by omega) hfit'
    generalize skipG (h.n - x.nr) x ts = g at *
    obtain ⟨y, us⟩ := g
    simp only at q1 q2 q3 q4 q5 q6 ks hout
    have y5 := q3.recv
    have k2 := fun G V Vc (hG : StT G t ⟨N + 13, l, N + 0⟩ y Vc V us) => two_gen hG.tb (by omega) (s := txStep) (by simp [txStep]) (ks := [y.recv]) (by simp) (by simp [y5]) (I := zI ⟨N + 13, l, N + 0⟩) fun V' ts' L a b => tgt_zHash (((hG.st.tbOf V' ts').app L).hb) a b
    have n1 : (twoV us txStep [y.recv]).1.1.length = 32 := nameK_len _
    have n2 : (twoV us txStep [y.recv]).1.2.length = 32 := nameK_len _
    have n3 := twoV_len us txStep [y.recv]
    have n4 := twoV_ok q1 (by omega) (s := txStep) (by simp [txStep]) (ks := [y.recv]) (by simp) (by simp [y5])
    generalize twoV us txStep [y.recv] = tv at *
    obtain ⟨⟨key, next⟩, us2⟩ := tv
    simp only at k2 n1 n2 n3 n4 hout
    have b2 : binVal .eql (wn h.n) (wn 4294967295) = some (.bool false) := by rw [bin_eqlw]; simp; omega
    have c2 := bin_addw y.nr 1 (by omega)
    refine wp_seq' (wp_seq' (wp_rg ?_))
    refine areg_run 3 (by simp [push_cast, g1, hhd]; exact rfl) ?_
    refine areg_xc (vs := [.ptr (N + 13) l 0 [], .lit (wn h.n)]) rfl (ks _ _ _ (Bg.st hh (x := x) (S := ⟨N + 13, l, N + 0⟩) (p := 13) (q := 0) ⟨by rw [hN], by rw [hN], by decide, rfl, rfl⟩)) ⟨_, _, rfl, .slice none 0 0, .slice none 0 0, rfl⟩ ?_
    rintro r H' ⟨rfl, V3, Vc3, rfl⟩
    rw [bg_set hh (x := x) (S := ⟨N + 13, l, N + 0⟩) (p := 13) (q := 0) ⟨by rw [hN], by rw [hN], by decide, rfl, rfl⟩]
    refine areg_end (by simp [push_cast]; exact rfl) ?_
    refine wp_sr (by simp [push_cast, g1, hhd, b2]; exact rfl) ?_
    refine wp_cond_f (by simp [AS.ev]) (wp_skip' ?_)
    refine wp_sg ?_
    refine areg_run 2 (by simp [push_cast]; exact rfl) ?_
    refine areg_rdp (us := [.ptr (N + 13) l 0 []]) rfl (mkifc_z _ _) ?_
    refine areg_run 5 (by simp [push_cast, g1, sbk, sdA, sesV, y5]; exact rfl) ?_
    refine areg_bsl (k := 32) (els := klA [y.recv]) (fill_ar rfl rfl rfl (by simp [AV.sz, AS.ev, AS.put, y5, bl_len]) rfl) ?_
    refine areg_sb0 (x := y) (S := ⟨N + 13, l, N + 0⟩) (Vc := Vc3) (p := 13) (q := 0) [zI ⟨N + 13, l, N + 0⟩, .lit (tx txStep), .sl 32 (klA [y.recv])] hh hN ⟨rfl, rfl, by decide, rfl, rfl⟩ rfl (tgt_two _ _ _) k2 (by simp) fun V4 => ?_
    refine areg_end (by simp [push_cast, g1, g2, n1, n2, y5, zk_len]; exact rfl) ?_
    have hy : SeOk { y with recv := next, nr := y.nr + 1 } := by
      obtain ⟨x1, x2, x3, x4, x5, x6, x7, x8, x9, x10⟩ := q3
      exact ⟨x1, x2, x3, x4, n2, x6, by simp only; omega, x8, x9, x10⟩
    refine wp_sgL ?_
    refine areg_end (by simp [push_cast, g1, g2, c2]; exact rfl) ?_
    refine ⟨_, ?_, open_wp (V := V4) (ts := us2) (x0 := x0) (x := { y with recv := next, nr := y.nr + 1 }) (h := h) (by_ := by_) (body := body) (key := key) (l := l) (l6 := l6) (l7 := l7) (l8 := l8) (l10 := l10) (l14 := l14) (Vc := Vc3) hh hN n4 (by omega) hx0 hy hp (by omega) (by omega) hb hbo n1 ?_⟩
    · exact Le.cat (by simp [opT, leT]; exact ⟨.inr rfl, .inr rfl⟩) (by simp [opL, leH, sbk, sdA, sesV, swk]; exact ⟨rfl, rfl, ⟨rfl, rfl, rfl, rfl, rfl⟩, rfl⟩)
    · intro s hs
      rw [hout] at hq
      exact hq s hs
end Go.Cab
namespace Go.Cab
open Go.RowKit
open Classical
attribute [local irreducible] AReg
theorem idxQ_spec {α : Type} (p : α → Bool) : ∀ (l : List α) (i j : Nat), idxQ p l i = some j → i ≤ j ∧ ∃ x, l[j - i]? = some x ∧ p x = true
  | [], _, _, h => by cases h
  | k :: ks, i, j, h => by
    rw [idxQ] at h
    split at h
    · rename_i hp; cases h; exact ⟨Nat.le_refl _, k, by simp, hp⟩
    · obtain ⟨h1, x, h2, h3⟩ := idxQ_spec p ks (i + 1) j h
      exact ⟨by omega, x, by rw [show j - i = (j - (i + 1)) + 1 by omega]; simpa using h2, h3⟩
theorem wp_jumpL {P : Program} {s : AS} {Q : AX → AS → Prop} {c r : AC} {l : Nat} (h : c.wp P s fun x s' => match x with | .exit i => if i = gotoX l then ∃ s0, Le s' s0 ∧ r.wp P s0 (fun x s2 => match x with | .exit j => j < 1000000000 ∧ Q (.exit j) s2 | x => Q x s2) else Q (.exit i) s' | x => Q x s') : (AC.jump c l r).wp P s Q := h
theorem bin_geqi (a : Nat) : binVal .geq (jn a) (jn 0) = some (.bool true) := by simp [binVal, jn]
theorem bin_geqm : binVal .geq (.int .i64 (-1)) (jn 0) = some (.bool false) := by simp [binVal, jn]
theorem agreeX_ex {ts : List Term} {a p : List UInt8} (hz : p ≠ zk) : ∃ y, agreeX ts a p = some y := by
  unfold agreeX
  rw [if_neg hz]
  by_cases h : ts.length ≤ be32 p ∨ nameK (be32 p) ≠ p
  · rw [if_pos h]; exact ⟨_, rfl⟩
  · rw [if_neg h, List.getElem?_eq_getElem (by omega)]
    simp only
    split
    · split <;> exact ⟨_, rfl⟩
    · exact ⟨_, rfl⟩
theorem tgt_delZ (a b c : AV) : tgtA Go.Proofs.Tryd.prog (.dir 25) [a, b, c] = some (25, [a, b, c]) := by kernel_rfl
theorem SeOk.del {x : Ses} (h : SeOk x) (i : Nat) : SeOk { x with skips := x.skips.take i ++ x.skips.drop (i + 1) } := by
  obtain ⟨x1, x2, x3, x4, x5, x6, x7, x8, x9, x10⟩ := h
  refine ⟨x1, x2, x3, x4, x5, x6, x7, x8, by simp; omega, fun s hs => ?_⟩
  rcases List.mem_append.1 hs with hs | hs
  · exact x10 s (List.mem_of_mem_take hs)
  · exact x10 s (List.mem_of_mem_drop hs)
def rbT (N : Nat) (t : Tb) (l : Nat × Nat) (x : Ses) (h : HeadV) (by_ body : List UInt8) (l6 l7 l8 l10 : Nat × Nat) : List AV :=
  [freeI t.b t.l, sesA x, headA h, keyA by_, .lit (tx body), .any, .ptr (N + 6) l6 0 [], .ptr (N + 7) l7 0 [], .ptr (N + 8) l8 0 [], .any, .ptr (N + 10) l10 0 [], .lit (.slice none 0 0), .lit (jn 0), .ptr (N + 13) l 0 []] ++ List.replicate 211 .any
set_option maxRecDepth 100000 in
set_option maxHeartbeats 64000000 in
theorem rcv_call {H : List (Option Blk)} {t : Tb} {V : Value} {ts : List Term} (hh : TbOk H t V ts) (hts : TsOk ts) (hn : ts.length + 400 < 90000) {x : Ses} (hx : SeOk x) (hsk : x.skips.length ≤ 16) (hnr : x.nr < 99) {h : HeadV} (hp : h.pub.length = 32) (hz : h.pub ≠ zk) (h1 : h.n < 99) (h2 : h.prev < 99) {by_ body : List UInt8} (hb : by_.length = 32) (hbo : body.length < 1000)
    (hfit : h.pub = x.theirs → idxQ (skP h.pub h.n) x.skips 0 = none → x.nr ≤ h.n → h.n - x.nr + x.skips.length ≤ 16) :
    XCall Go.Proofs.Tryd.prog 11 [freeI t.b t.l, sesA x, headA h, keyA by_, .lit (tx body)] H fun r H' => r = rcvA (rcvV ts x h by_ body).1 ∧ ∃ V', H' = tbOf H t V' (rcvV ts x h by_ body).2 := by
  have h911 := fc911_eq
  refine XCall.le ?_
  have hself := hh.self
  have g1 : ∀ V' ts' L k, (tbOf H t V' ts' ++ L)[H.length + k]? = L[k]? := fun V' ts' L k => cat1 _ _ _ _ (tbOf_len _ _ _ _)
  have g2 : ∀ V' ts' L k x, (tbOf H t V' ts' ++ L).set (H.length + k) x = tbOf H t V' ts' ++ L.set k x := fun V' ts' L k x => cat2 _ _ _ _ _ (tbOf_len _ _ _ _)
  have cB := fun H' => zbegin_call (H := H') (t := t) hx
  have hsA : sesA x = .st [32, 32, 32, 32, 32, 1, 1, 1, 1, 1] [keyA x.mine, keyA x.theirs, keyA x.root, keyA x.send, keyA x.recv, .lit (wn x.ns), .lit (wn x.nr), .lit (wn x.pn), .lit (.bool x.turn), .sl 65 (x.skips.map skA)] := rfl
  have hhd : headA h = .st [32, 1, 1] [keyA h.pub, .lit (wn h.n), .lit (wn h.prev)] := rfl
  have g0 : ∀ V' ts' L, (tbOf H t V' ts' ++ L)[H.length]? = L[0]? := fun V' ts' L => g1 V' ts' L 0
  have g3 : ∀ V' ts' L x, (tbOf H t V' ts' ++ L).set H.length x = tbOf H t V' ts' ++ L.set 0 x := fun V' ts' L x => g2 V' ts' L 0 x
  obtain ⟨out, hout⟩ : ∃ o, rcvV ts x h by_ body = o := ⟨_, rfl⟩
  rw [hout]
  refine XCall.of h911 rfl ?_; show AC.wp _ fb911 ⟨H.length, [freeI t.b t.l, sesA x, headA h, keyA by_, .lit (tx body)] ++ List.replicate (225 - 5) .any, H ++ List.replicate 225 none⟩ (fun x s => match x with | .exit _ => False | _ => ∃ s1, Le s s1 ∧ FinX [(.cell 10 .true 165), (.tmp 11), (.tmp 12)] s1 _); unfold fb911
  rw [← hself]
  rw [tbOf_len]
  simp only [hh.of_of]
  generalize hN : H.length = N at *
  refine wp_sg (areg_bx rfl (by simp [AS.ev, hsA, AV.sz]) fun l6 => areg_bx rfl (by simp [AS.ev, AS.put, hhd, AV.sz]) fun l7 => areg_bx rfl (by simp [AS.ev, AS.put, keyA, AV.sz, bl, hb]) fun l8 => areg_al' (z' := zsA) (by rw [zsA, zk_eq]) fun l10 => areg_end (by simp [push_cast, g2]; exact rfl) ?_)
  refine wp_jumpL (wp_jumpL ?_)
  refine wp_sgL ?_
  refine areg_run 2 (by simp [push_cast, g1, hsA]; exact rfl) ?_
  refine areg_xq (us := [freeI t.b t.l, sesA x]) rfl (tgt_beginZ _ _) (cB _) (BegZ.ex _ _ _) (fun r hp' hK t' ht' => by cases ht') ?_
  rintro r H' ⟨l, Vc, rfl, rfl⟩
  refine areg_end (by simp [push_cast]; exact rfl) ?_
  refine wp_place (N := N) (n := 225) (B := (tbOf H t V ts).length + 225) (l := l) (x := x) (Vc := Vc) (Lo := [none, none, none, none, none, none, some (.box l6 165 (sesA x)), some (.box l7 34 (headA h)), some (.box l8 32 (keyA by_)), none, some (.box l10 165 zsA)] ++ List.replicate 214 none) 13 0 (rbT N t l x h by_ body l6 l7 l8 l10) hN rfl rfl (by decide) (by decide) (by decide) ?_ ?_
  · simp [rbT, leA, RelLe.refl', RelLe.ptr', hsA, hhd, keyA, nSb]
  clear cB hself
  unfold rbT
  refine wp_sg (areg_al' zk_eq.symm fun l14 => areg_end (by simp [push_cast, g2]; exact rfl) ?_)
  refine wp_sr (by simp [push_cast]; exact rfl) ?_
  refine wp_sr (by simp [push_cast]; exact rfl) ?_
  refine wp_sg (areg_al' zk_eq.symm fun l17 => areg_end (by simp [push_cast, g2]; exact rfl) ?_)
  refine wp_sr (by simp [push_cast]; exact rfl) ?_
  have cI := fun (L : List (Option Blk)) V' ts' (a : L[7]? = some (some (.box l7 34 (headA h)))) (b : L[0]? = some (some (swk x Vc))) => idxZ_call (H := tbOf H t V' ts' ++ L) (c := N + 7) (d := N + 0) (lc := l7) (h := h) (l := x.skips) (Vd := Vc) (by rw [g1]; exact a) (by rw [g1]; exact b) hp hx.sk (by omega)
  have hx' := hx
  obtain ⟨x1, x2, x3, x4, x5, x6, x7, x8, x9, x10⟩ := hx'
  refine wp_sg ?_
  refine areg_run 5 (by simp [push_cast, g1, sbk, sdA, sesV]; exact rfl) ?_
  refine areg_rdp (us := [.ptr (N + 7) l7 0 []]) rfl (mkfn_cloZ _ _) ?_
  refine areg_xq (us := [.own (N + 0) Vc, cloZ (N + 7) l7]) rfl (tgt_idxZ _ _) (cI _ _ _ rfl rfl) ⟨_, _, rfl, rfl⟩ (fun r hp' _ t' ht' => by cases ht') ?_
  rintro r H' ⟨rfl, rfl⟩
  refine areg_end (by simp [push_cast]; exact rfl) ?_
  clear cI
  unfold rcvV rcvP at hout
  cases hi : idxQ (skP h.pub h.n) x.skips 0 with
  | some i =>
    obtain ⟨_, sk, hs, _⟩ := idxQ_spec _ _ _ _ hi
    rw [Nat.sub_zero] at hs
    have hlt : i < x.skips.length := (List.getElem?_eq_some_iff.1 hs).1
    have hml : (x.skips.map skA).length = x.skips.length := List.length_map _
    have c1 : (x.skips.map skA)[i]? = some (.st [32, 1, 32] [keyA sk.pub, .lit (wn sk.n), keyA sk.key]) := by rw [List.getElem?_map, hs]; rfl
    have c2 : ∀ h, (x.skips.map skA)[i]'h = .st [32, 1, 32] [keyA sk.pub, .lit (wn sk.n), keyA sk.key] := fun h => by rw [List.getElem?_eq_getElem h] at c1; exact Option.some.inj c1
    obtain ⟨s1, s2, s3⟩ := x10 sk (List.mem_of_getElem? hs)
    have q1 : i + 1 < 9223372036854775808 := by omega
    have dc := fun (L : List (Option Blk)) V' ts' (b : L[0]? = some (some (swk x Vc))) => delete_call (H := tbOf H t V' ts' ++ L) (c := N + 0) (i := i) (j := i + 1) (e := 80) (V := Vc) (els := x.skips.map skA) (by rw [g1]; exact b) (by omega) (by rw [hml]; omega)
    have hk : (x.skips.map skA).take i ++ (x.skips.map skA).drop (i + 1) = (x.skips.take i ++ x.skips.drop (i + 1)).map skA := by simp
    rw [hi] at hout
    simp only [hs, Option.map_some, Option.getD_some] at hout
    simp only [idxV]
    refine wp_seq' (wp_seq' (wp_r (by simp [push_cast, bin_geqi]; exact rfl) ?_))
    refine wp_cond_t (by simp [AS.ev]) ?_
    refine wp_sr (by simp [push_cast, g0, g1, g2, sbk, sdA, sesV, swk, hlt, hml, c1, c2, s3]; exact rfl) ?_
    refine wp_seq' (wp_rg ?_)
    refine areg_run 9 (by simp [push_cast, g1, q1]; exact rfl) ?_
    refine areg_xq (us := [.own (N + 0) Vc, .lit (jn i), .lit (jn (i + 1))]) rfl (tgt_delZ _ _ _) (dc _ _ _ rfl) ⟨_, _, .slice none 0 0, rfl, rfl⟩ (fun r hp' _ t' ht' => by cases ht') ?_
    rintro r H' ⟨V', rfl, rfl⟩
    refine areg_end (by simp [push_cast, g0, g1, g2, g3]; exact rfl) ?_
    rw [hk]
    refine wp_exit' (if_hit rfl ⟨_, ?_, open_wp (V := V) (l := l) (l6 := l6) (l7 := l7) (l8 := l8) (l10 := l10) (l14 := l14) (Vc := V') hh hN hts (by omega) hx (hx.del i) hp (by omega) (by omega) hb hbo s3 (x0 := x) (h := h) (by_ := by_) (body := body) ?_⟩)
    · exact Le.cat (by simp [opT, leT, hsA, hhd] <;> (repeat' (first | rfl | exact Or.inr rfl | apply And.intro))) (by simp [opL, leH, swk] <;> (repeat' (first | rfl | exact Or.inr rfl | apply And.intro)))
    · intro s hs'
      rw [hout] at hs'
      exact hs'
  | none =>
    rw [hi] at hout
    simp only at hout
    simp only [idxV]
    refine wp_seq' (wp_seq' (wp_r (by simp [push_cast, bin_geqm]; exact rfl) ?_))
    refine wp_cond_f (by simp [AS.ev]) (wp_skip' ?_)
    have e1 := eq_key hp x2
    refine wp_seqM (fun y : Ses × List Term × Value × Value => ⟨N, rwT N t l x h by_ body l6 l7 l8 l10 l14, tbOf H t y.2.2.1 y.2.1 ++ opL N t l x h by_ l6 l7 l8 l10 l14 y.1 y.2.2.2 zk⟩) (fun y => SeOk y.1 ∧ TsOk y.2.1 ∧ y.2.1.length + 100 < 90000 ∧ y.1.nr < 99 ∧ (y.1.nr ≤ h.n → h.n - y.1.nr + y.1.skips.length ≤ 16) ∧ out = (match rcvQ y.2.1 y.1 h with
      | .inl (e, us) => ((x, [], e), us)
      | .inr (x1, key, us) => rcvO us x x1 h by_ body key)) ?_ ?_
    rotate_left
    · refine wp_sg ?_
      refine areg_run 7 (by simp [push_cast, g1, hhd, hp, x2]; exact rfl) ?_
      refine areg_eq (by simp [AS.ev, AS.put] <;> exact rfl) (by simp [AS.ev, AS.put] <;> exact rfl) e1 rfl rfl ?_
      refine areg_end (by simp [push_cast]; exact rfl) ?_
      by_cases hpt : h.pub = x.theirs
      · rw [if_pos hpt] at hout
        refine wp_cond_f (by simp [AS.ev, AS.put, hpt]) (wp_skip' ?_)
        refine ⟨(x, ts, V, Vc), ⟨hx, hts, by simp only; omega, hnr, hfit hpt hi, hout.symm⟩, ?_⟩
        exact Le.cat (by simp [rwT, leT] <;> (repeat' (first | rfl | exact Or.inr rfl | apply And.intro))) (by simp [opL, leH] <;> (repeat' (first | rfl | exact Or.inr rfl | apply And.intro)))
      · rw [if_neg hpt] at hout
        refine wp_cond_t (by simp [AS.ev, AS.put, hpt]) ?_
        obtain ⟨y, hy⟩ := agreeX_ex (ts := ts) (a := x.mine) hz
        obtain ⟨y1, y2⟩ := agreeX_ok hts x1 hp hy
        have ka := agreeZ_k hh (ts := ts) hts x1 hp hy
        rw [hy] at hout
        simp only at hout
        have lB := putT_len ts y
        have oB := hts.put y1 y2 (by omega)
        have hw := nameK_len (putN ts y)
        generalize nameK (putN ts y) = w at *
        generalize putT ts y = tsB at *
        refine wp_sg ?_
        refine areg_run 11 (by simp [push_cast, g1, hhd, hp, x1, freeI]; exact rfl) ?_
        refine areg_rdp (us := [freeI t.b t.l]) rfl (nilv_free _ _) ?_
        refine areg_run 1 (by simp [push_cast]; exact rfl) ?_
        refine areg_k [freeI t.b t.l, keyA x.mine, keyA h.pub] hN rfl (tgt_agreeI _ _ _ _) ka (by simp) (by simp) fun V2 => ?_
        refine areg_end (by simp [push_cast, g1, g2, zk_len, hw]; exact rfl) ?_
        obtain ⟨mine, theirs, root, send, recv, ns, nr, pn, turn, skips⟩ := x
        dsimp only at *
        cases turn with
        | true =>
          rw [if_pos (.inl rfl)] at hout
          refine wp_seq' (wp_seq' (wp_rg ?_))
          refine areg_run 6 (by simp [push_cast, g1]; exact rfl) ?_
          refine areg_ng (by simp [AS.ev, AS.put]) (areg_ng (by simp [AS.ev, AS.put]) (?_))
          refine areg_run 2 (by simp [push_cast]; exact rfl) ?_
          refine areg_ng (by simp [AS.ev, AS.put]) (areg_ng (by simp [AS.ev, AS.put]) (areg_ng (by simp [AS.ev, AS.put]) (areg_ng (by simp [AS.ev, AS.put]) (areg_ng (by simp [AS.ev, AS.put]) (areg_ng (by simp [AS.ev, AS.put]) (areg_ng (by simp [AS.ev, AS.put]) (areg_ng (by simp [AS.ev, AS.put]) (?_))))))))
          refine areg_end (by simp [push_cast]; exact rfl) ?_
          refine wp_cond_t (by simp [AS.ev]) ?_
          refine wp_sr (by simp [push_cast]; exact rfl) ?_
          refine wp_exit' (if_miss (by decide) (if_hit rfl ⟨_, ?_, wrong_wp (V := V2) (e := 12) (l6 := l6) (l10 := l10) hh hN hx (ts := tsB) ?_⟩))
          · exact Le.cat (by simp [wrT, leT]) (by simp [wrL, leH])
          · intro s hs'
            rw [← hout]
            exact hs'
        | false =>
          refine wp_seq' (wp_seq' (wp_rg ?_))
          have hml : (skips.map skA).length = skips.length := List.length_map _
          have b0 := bin_lssw h.prev nr
          by_cases hpr : h.prev < nr
          · rw [if_pos (.inr hpr)] at hout
            have b0' : decide (h.prev < nr) = true := by simp [hpr]
            rw [b0'] at b0
            refine areg_end (by simp [push_cast, g1, hhd, b0]; exact rfl) ?_
            refine wp_cond_t (by simp [AS.ev]) ?_
            refine wp_sr (by simp [push_cast]; exact rfl) ?_
            refine wp_exit' (if_miss (by decide) (if_hit rfl ⟨_, ?_, wrong_wp (V := V2) (e := 12) (l6 := l6) (l10 := l10) hh hN hx (ts := tsB) ?_⟩))
            · exact Le.cat (by simp [wrT, leT]) (by simp [wrL, leH])
            · intro s hs'
              rw [← hout]
              exact hs'
          · rw [if_neg (fun h => h.elim (by simp) hpr)] at hout
            have b0' : decide (h.prev < nr) = false := by simp; omega
            rw [b0'] at b0
            refine areg_end (by simp [push_cast, g1, hhd, b0]; exact rfl) ?_
            refine wp_cond_f (by simp [AS.ev]) (wp_skip' ?_)
            have b1 : binVal .eql (wn h.prev) (wn 4294967295) = some (.bool false) := by rw [bin_eqlw]; simp; omega
            have b2 : binVal .eql (wn h.n) (wn 4294967295) = some (.bool false) := by rw [bin_eqlw]; simp; omega
            have b3 := bin_subw h.prev nr (by omega) (by omega)
            have b4 := cvt_wu (h.prev - nr) (by omega)
            have b5 := cvt_wu h.n (by omega)
            have m1 : (h.prev - nr + h.n) % 18446744073709551616 = h.prev - nr + h.n := Nat.mod_eq_of_lt (by omega)
            have m2 : (h.prev - nr + h.n + skips.length) % 18446744073709551616 = h.prev - nr + h.n + skips.length := Nat.mod_eq_of_lt (by omega)
            have b6 : cvtA .u64 (.lit (jn skips.length)) = some (.lit (un skips.length)) := by rw [cvt_64j, Nat.mod_eq_of_lt (by omega)]
            refine wp_seq' ?_
            by_cases hfar : 16 < h.prev - nr + h.n + skips.length
            · rw [if_pos hfar] at hout
              refine wp_seq' (wp_r (by simp [push_cast, g0, g1, hhd, b1, b2, b3, b4, b5, b6, m1, m2, hml, swk, hfar]; exact rfl) ?_)
              refine wp_cond_t (by simp [AS.ev]) ?_
              refine wp_sr (by simp [push_cast]; exact rfl) ?_
              refine wp_exit' (if_miss (by decide) (if_hit rfl ⟨_, ?_, wrong_wp (V := V2) (e := 11) (l6 := l6) (l10 := l10) hh hN hx (ts := tsB) ?_⟩))
              · exact Le.cat (by simp [wrT, leT]) (by simp [wrL, leH])
              · intro s hs'
                rw [← hout]
                exact hs'
            · rw [if_neg hfar] at hout
              refine wp_seq' (wp_r (by simp [push_cast, g0, g1, hhd, b1, b2, b3, b4, b5, b6, m1, m2, hml, swk, hfar]; exact rfl) ?_)
              refine wp_cond_f (by simp [AS.ev]) (wp_skip' ?_)
              obtain ⟨q1, q2, q3, q4, q5, q6⟩ := skipG_ok (h.prev - nr) ⟨mine, theirs, root, send, recv, ns, nr, pn, false, skips⟩ tsB oB (by omega) hx (by simp only; omega) (by simp only; omega)
              have ks := fun G V Vc (hG : StT G t ⟨N + 13, l, N + 0⟩ ⟨mine, theirs, root, send, recv, ns, nr, pn, false, skips⟩ Vc V tsB) => skip_call (to := h.prev) hG (by omega) hx (by simp only; omega) (by omega) (by simp only; omega)
              unfold rcvT at hout
              dsimp only at ks q4 q5 hout
              generalize skipG (h.prev - nr) ⟨mine, theirs, root, send, recv, ns, nr, pn, false, skips⟩ tsB = g at *
              obtain ⟨y', us⟩ := g
              dsimp only at q1 q2 q3 q4 q5 q6 ks hout
              have kt := fun G V Vc (hG : StT G t ⟨N + 13, l, N + 0⟩ y' Vc V us) => turn_call hG (by omega) q3 hw
              have n1 : (twoV us txTurn [y'.root, w]).1.1.length = 32 := nameK_len _
              have n2 : (twoV us txTurn [y'.root, w]).1.2.length = 32 := nameK_len _
              have n3 := twoV_len us txTurn [y'.root, w]
              have n4 := twoV_ok q1 (by omega) (s := txTurn) (by simp [txTurn]) (ks := [y'.root, w]) (by simp) (by simp [q3.root, hw])
              generalize twoV us txTurn [y'.root, w] = tv at *
              obtain ⟨⟨r1, c1⟩, us2⟩ := tv
              dsimp only at kt n1 n2 n3 n4 hout
              refine wp_sg ?_
              refine areg_run 3 (by simp [push_cast, g1, hhd]; exact rfl) ?_
              refine areg_xc (vs := [.ptr (N + 13) l 0 [], .lit (wn h.prev)]) rfl (ks _ _ _ (Bg.st hh (x := ⟨mine, theirs, root, send, recv, ns, nr, pn, false, skips⟩) (S := ⟨N + 13, l, N + 0⟩) (p := 13) (q := 0) ⟨by rw [hN], by rw [hN], by decide, rfl, rfl⟩)) ⟨_, _, rfl, .slice none 0 0, .slice none 0 0, rfl⟩ ?_
              rintro r H' ⟨rfl, V3, Vc3, rfl⟩
              rw [bg_set hh (x := ⟨mine, theirs, root, send, recv, ns, nr, pn, false, skips⟩) (S := ⟨N + 13, l, N + 0⟩) (p := 13) (q := 0) ⟨by rw [hN], by rw [hN], by decide, rfl, rfl⟩]
              refine areg_end (by simp [push_cast]; exact rfl) ?_
              refine wp_rg ?_
              refine areg_run 6 (by simp [push_cast, g1, hw]; exact rfl) ?_
              refine areg_sb (x := y') (x' := { y' with root := r1 }) (S := ⟨N + 13, l, N + 0⟩) (Vc := Vc3) (p := 13) (q := 0) [.ptr (N + 13) l 0 [], keyA w] hh hN ⟨rfl, rfl, by decide, rfl, rfl⟩ rfl (tgt_turnZ _ _) kt (by simp [AS.ev, AV.place]) fun V4 Vc4 => ?_
              refine areg_end (by simp [push_cast, g1, g2, sbk, sdA, sesV, hhd, hp, n2, q3.recv, q3.theirs]; exact rfl) ?_
              have hy : SeOk (turnR y' r1 c1 h.pub) := by
                obtain ⟨x1, x2, x3, x4, x5, x6, x7, x8, x9, x10⟩ := q3
                exact ⟨x1, hp, n1, x4, n2, x6, by simp [turnR], x8, x9, x10⟩
              refine ⟨(turnR y' r1 c1 h.pub, us2, V4, Vc4), ⟨hy, n4, by dsimp only; omega, by simp [turnR], fun _ => by simp only [turnR]; omega, hout.symm⟩, ?_⟩
              exact Le.cat (by simp [rwT, leT] <;> (repeat' (first | rfl | exact Or.inr rfl | apply And.intro))) (by simp [opL, leH, turnR] <;> (repeat' (first | rfl | exact Or.inr rfl | apply And.intro)))
    · rintro ⟨x2, ts2, V2, Vc2⟩ ⟨w1, w2, w3, w4, w5, w6⟩
      refine step_wp (V := V2) (ts := ts2) (x0 := x) (x := x2) (h := h) (by_ := by_) (body := body) (l := l) (l6 := l6) (l7 := l7) (l8 := l8) (l10 := l10) (l14 := l14) (Vc := Vc2) hh hN w2 w3 hx w1 w4 hp h1 h2 hb hbo w5 w6 ?_ ?_
      · intro s hs'
        exact hs'
      · rintro s ⟨e, V', us, ho, hle⟩
        refine if_miss (by decide) (if_hit rfl ⟨_, hle, wrong_wp (V := V') (e := e) (l6 := l6) (l10 := l10) hh hN hx (ts := us) ?_⟩)
        intro s hs'
        rw [← ho] at hs'
        exact hs'
end Go.Cab
namespace Go.Cab
open Classical
set_option maxHeartbeats 2000000 in
theorem turn_law {ts : List Term} (hts : TsOk ts) (hl : ts.length + 20 < 90000) {W : List (List UInt8)} (hW : HidW ts W) {i : Nat} (hi : i < 100) {x y : Ses} (L : Lc ts W i x y) (ht : x.turn = true) (px : Nm ts (pubT y.mine) x.theirs) :
    ∃ mine w r c ts1, TurnOk ts x (116 :: digs i) (turnX x mine r c) ts1 ∧ TsOk ts1 ∧ ts1.length ≤ ts.length + 4 ∧ ts <+: ts1 ∧ Nm ts1 (drawT (116 :: digs i)) mine ∧ mine ≠ x.mine ∧ Nm ts1 (agr y.mine mine) w ∧ w.length = 32 ∧
      Nm ts1 ⟨2, txTurn ++ [47, 49], [x.root, w]⟩ r ∧ Nm ts1 ⟨2, txTurn ++ [47, 50], [x.root, w]⟩ c ∧ HidW ts1 (W ++ [x.root]) ∧ ∀ pub, Lc ts1 (W ++ [x.root]) (i + 1) (turnX x mine r c) (turnR y r c pub) := by
  have hdl := digs_len i
  have od : TermOk (drawT (116 :: digs i)) := drawT_ok (by simp; omega)
  have a1 := Nm.put ts (drawT (116 :: digs i))
  have a2 := put_pre ts (drawT (116 :: digs i))
  have a3 := hts.draw (s := 116 :: digs i) (by simp; omega) (by omega)
  have a4 := putT_len ts (drawT (116 :: digs i))
  have a5 : ∀ z ∈ putT ts (drawT (116 :: digs i)), z.kind = 6 → z.keys.getD 0 zk ∈ W := fun z hz h6 => by
    rcases mem_put hz with hz | rfl
    · exact hW.box z hz h6
    · simp [drawT] at h6
  have hm : x.mine.length = 32 := by obtain ⟨_, _, h, _⟩ := L.mx; exact h.len
  have hmy : y.mine.length = 32 := by obtain ⟨_, _, h, _⟩ := L.my; exact h.len
  have hto : ∀ x1 ts1, TurnOk ts x (116 :: digs i) x1 ts1 ↔ TurnOk ts x (116 :: digs i) x1 ts1 := fun _ _ => Iff.rfl
  have hT : ∀ y1 x1 ts1, agreeX (putT ts (drawT (116 :: digs i))) (nameK (putN ts (drawT (116 :: digs i)))) x.theirs = some y1 →
      x1 = turnX x (nameK (putN ts (drawT (116 :: digs i)))) (twoV (putT (putT ts (drawT (116 :: digs i))) y1) txTurn [x.root, nameK (putN (putT ts (drawT (116 :: digs i))) y1)]).1.1 (twoV (putT (putT ts (drawT (116 :: digs i))) y1) txTurn [x.root, nameK (putN (putT ts (drawT (116 :: digs i))) y1)]).1.2 →
      ts1 = (twoV (putT (putT ts (drawT (116 :: digs i))) y1) txTurn [x.root, nameK (putN (putT ts (drawT (116 :: digs i))) y1)]).2 → TurnOk ts x (116 :: digs i) x1 ts1 := fun y1 x1 ts1 h1 h2 h3 => .inr ⟨ht, a3, y1, h1, h2, h3⟩
  clear hto
  have hne := (L.mx.mono a2).ne a3 a1 od
  generalize nameK (putN ts (drawT (116 :: digs i))) = mine at *
  generalize putT ts (drawT (116 :: digs i)) = tA at *
  have hml := a1.len
  have ha := agreeX_pub a3 (a := mine) hmy (px.mono a2)
  have hT2 := hT _ _ _ ha rfl rfl
  clear hT
  have oa : TermOk (agr mine y.mine) := agr_ok hml hmy
  have b1 := Nm.put tA (agr mine y.mine)
  have b2 := put_pre tA (agr mine y.mine)
  have b3 := a3.put oa (agr_wf _ _) (by omega)
  have b4 := putT_len tA (agr mine y.mine)
  have b5 : ∀ z ∈ putT tA (agr mine y.mine), z.kind = 6 → z.keys.getD 0 zk ∈ W := fun z hz h6 => by
    rcases mem_put hz with hz | rfl
    · exact a5 z hz h6
    · rw [agr_kind] at h6; omega
  generalize nameK (putN tA (agr mine y.mine)) = w at *
  generalize putT tA (agr mine y.mine) = tB at *
  have hwl := b1.len
  have hrl := L.cr.len
  obtain ⟨c1, c2⟩ := twoV_nm tB txTurn [x.root, w]
  have c3 := twoV_pre tB txTurn [x.root, w]
  have c4 := twoV_ok b3 (by omega) (s := txTurn) (by simp [txTurn]) (ks := [x.root, w]) (by simp) (by simp [hrl, hwl])
  have c5 := twoV_len tB txTurn [x.root, w]
  have c6 : ∀ z ∈ (twoV tB txTurn [x.root, w]).2, z.kind = 6 → z.keys.getD 0 zk ∈ W := fun z hz h6 => by
    rcases mem_put hz with hz | rfl
    · rcases mem_put hz with hz | rfl
      · exact b5 z hz h6
      · simp at h6
    · simp at h6
  have o1 := two_ok (s := txTurn) (by simp [txTurn]) (ks := [x.root, w]) (by simp) (by simp [hrl, hwl]) [47, 49] rfl
  have o2 := two_ok (s := txTurn) (by simp [txTurn]) (ks := [x.root, w]) (by simp) (by simp [hrl, hwl]) [47, 50] rfl
  generalize twoV tB txTurn [x.root, w] = tv at *
  obtain ⟨⟨r, c⟩, t1⟩ := tv
  simp only at c1 c2 c3 c4 c5 c6 hT2
  have p0 := a2.trans (b2.trans c3)
  have hW1 : HidW t1 W := hW.mono p0 c6
  have L1 := L.mono p0
  have hmn : Mine t1 (i + 1) mine := ⟨_, od, (a1.mono b2).mono c3, .inr (.inr ⟨i, by omega, rfl⟩)⟩
  have hwW : w ∉ W := fun hk => by
    obtain ⟨z, z1, z2, z3⟩ := hW1.old w hk
    have e := z2.inj (b1.mono c3) c4 z1 oa
    subst e
    rcases z3 with ⟨s, e, _⟩ | ⟨e, _⟩ | ⟨_, _, e⟩
    · have := congrArg Term.kind e
      rw [agr_kind] at this
      simp [drawT] at this
    · rw [agr_kind] at e; omega
    · have : mine ∈ (agr mine y.mine).keys := by unfold agr; split <;> simp
      exact (hmn.open c4 hW1).2 (e _ this)
  have hks : ∀ q ∈ [x.root, w], q ∉ W := by
    simp only [List.mem_cons, List.not_mem_nil, or_false]
    rintro q (rfl | rfl)
    · exact L.cr.2
    · exact hwW
  obtain ⟨f1, f2⟩ := new_hash c4 hW1 o1 c1 rfl hks
  obtain ⟨g1, g2⟩ := new_hash c4 hW1 o2 c2 rfl hks
  have hrc : r ≠ c := fun e => by
    subst e
    have := c1.inj c2 c4 o1 o2
    simp at this
  have hup : HidW t1 (W ++ [x.root]) := hW1.up fun k hk => by
    simp only [List.mem_singleton] at hk
    subst hk
    obtain ⟨⟨z, z1, z2, z3⟩, _⟩ := L1.cr
    exact ⟨z, z1, z2, .inr (z3.up fun k hk => List.mem_append_left _ hk)⟩
  have hcr : Cur t1 (W ++ [x.root]) r := ⟨⟨_, o1, c1, rfl, x.root, by simp, by simp⟩, fun hk => by
    rcases List.mem_append.1 hk with hk | hk
    · exact f1 hk
    · simp only [List.mem_singleton] at hk
      exact f2 _ L1.cr hk⟩
  have hcc : Cur t1 (W ++ [x.root]) c := ⟨⟨_, o2, c2, rfl, x.root, by simp, by simp⟩, fun hk => by
    rcases List.mem_append.1 hk with hk | hk
    · exact g1 hk
    · simp only [List.mem_singleton] at hk
      exact g2 _ L1.cr hk⟩
  have hcv : Cur t1 (W ++ [x.root]) x.recv := L1.cv.up (by simp only [List.mem_singleton]; exact fun e => L.d2 e.symm)
  refine ⟨mine, w, r, c, t1, hT2, c4, by omega, p0, (a1.mono b2).mono c3, hne, by rw [agr_comm]; exact b1.mono c3, hwl, c1, c2, hup, fun pub => ?_⟩
  exact ⟨rfl, rfl, L.rs, rfl, L.nr, rfl, L.skx, L.sky, hmn, L1.my.up, hcr, hcc, hcv, hrc, f2 _ L1.cv, g2 _ L1.cv⟩
structure Lk (ts : List Term) (W : List (List UInt8)) (i : Nat) (x y : Ses) : Prop where
  c : Lc ts W i x y
  px : Nm ts (pubT y.mine) x.theirs
  py : Nm ts (pubT x.mine) y.theirs
  ox : SeOk x
  oy : SeOk y
  bx : x.ns ≤ i ∧ x.nr ≤ i ∧ x.pn ≤ i
  by_ : y.ns ≤ i ∧ y.nr ≤ i ∧ y.pn ≤ i
theorem Lc.symm {ts : List Term} {W : List (List UInt8)} {i : Nat} {x y : Ses} (h : Lc ts W i x y) : Lc ts W i y x :=
  ⟨h.root.symm, h.rs.symm, h.sr.symm, h.nr.symm, h.ns.symm, by rw [h.turn]; simp, h.sky, h.skx, h.my, h.mx, by rw [← h.root]; exact h.cr, by rw [← h.rs]; exact h.cv, by rw [← h.sr]; exact h.cs, by rw [← h.root, ← h.rs]; exact h.d2, by rw [← h.root, ← h.sr]; exact h.d1, by rw [← h.rs, ← h.sr]; exact fun e => h.d3 e.symm⟩
theorem Lk.symm {ts : List Term} {W : List (List UInt8)} {i : Nat} {x y : Ses} (h : Lk ts W i x y) : Lk ts W i y x := ⟨h.c.symm, h.py, h.px, h.oy, h.ox, h.by_, h.bx⟩
theorem Lk.mono {ts us : List Term} {W : List (List UInt8)} {i : Nat} {x y : Ses} (h : Lk ts W i x y) (p : ts <+: us) : Lk us W i x y := ⟨h.c.mono p, h.px.mono p, h.py.mono p, h.ox, h.oy, h.bx, h.by_⟩
theorem Lc.up {ts : List Term} {W : List (List UInt8)} {i : Nat} {x y : Ses} (h : Lc ts W i x y) : Lc ts W (i + 1) x y :=
  ⟨h.root, h.sr, h.rs, h.ns, h.nr, h.turn, h.skx, h.sky, h.mx.up, h.my.up, h.cr, h.cs, h.cv, h.d1, h.d2, h.d3⟩
set_option maxHeartbeats 2000000 in
theorem round_law {ts : List Term} (hts : TsOk ts) (hl : ts.length + 40 < 90000) {W : List (List UInt8)} (hW : HidW ts W) {i : Nat} (hi : i < 90) {x y : Ses} (L : Lk ts W i x y) {s sec by_ : List UInt8} (hsec : Nm ts (drawT s) sec) (hs : HidS s) (hso : TermOk (drawT s)) (hb : by_.length = 32) :
    ∃ x1 ts1 x2 h body us y2 W2, TurnOk ts x (116 :: digs i) x1 ts1 ∧ SeOk x1 ∧ ts1.length ≤ ts.length + 4 ∧ x1.ns < 99 ∧ x1.pn < 99 ∧
      sendS ts1 x1 by_ [sec] = ((x2, h, body), us) ∧ TsOk us ∧ us.length ≤ ts.length + 9 ∧ ts <+: us ∧ h.pub.length = 32 ∧ h.pub ≠ zk ∧ h.n < 99 ∧ h.prev < 99 ∧ body.length = 32 ∧
      rcvV us y h by_ body = ((y2, [sec], 0), us) ∧ (h.pub = y.theirs → idxQ (skP h.pub h.n) y.skips 0 = none → y.nr ≤ h.n → h.n - y.nr + y.skips.length ≤ 16) ∧
      HidW us W2 ∧ Lk us W2 (i + 1) x2 y2 ∧ (∀ k ∈ W, k ∈ W2) ∧ sec ∈ W2 ∧ (∃ z, TermOk z ∧ Nm us z h.pub ∧ z.kind = 3) ∧ (∃ z, TermOk z ∧ Nm us z body ∧ z.kind = 6) ∧ x2.ns = x1.ns + 1 := by
  obtain ⟨L, px, py, ox, oy, ⟨b1, b2, b3⟩, b4, b5, b6⟩ := L
  have hm : x.mine.length = 32 := by obtain ⟨_, _, h, _⟩ := L.mx; exact h.len
  have hmy : y.mine.length = 32 := by obtain ⟨_, _, h, _⟩ := L.my; exact h.len
  have hidx : ∀ p n, idxQ (skP p n) y.skips 0 = none := fun p n => by rw [L.sky]; rfl
  have hskl : y.skips.length = 0 := by rw [L.sky]; rfl
  cases ht : x.turn with
  | false =>
    obtain ⟨key, next, pub, body, us, c1, c2, c3, c4, c5, c6, c7, c8, c9, c10, c11, c12⟩ := step_law hts (by omega) hW L (by omega) (by omega) hsec hs hso hb
    have hpe : pub = y.theirs := c5.fun (py.mono c4)
    refine ⟨x, ts, _, _, body, us, _, _, .inl ⟨ht, rfl, rfl⟩, ox, by omega, by omega, by omega, c1, c2, by omega, c4, c5.len, c5.nz, by simp only; omega, by simp only; omega, c6, ?_, ?_, c11, ⟨c12.up, px.mono c4, py.mono c4, ?_, ?_, ⟨by simp only; omega, by simp only; omega, by simp only; omega⟩, ⟨by simp only; omega, by simp only; omega, by simp only; omega⟩⟩, fun k hk => List.mem_append_left _ hk, by simp, ⟨_, pubT_ok hm, c5, rfl⟩, c8, rfl⟩
    · unfold rcvV rcvP
      rw [hidx]
      simp only [hpe, if_true]
      have h1 := c9 y L.sr.symm L.ns.symm
      rw [hpe] at h1
      rw [h1]
      simp only
      have h2 := c10 y { y with recv := next, nr := y.nr + 1 }
      rw [hpe] at h2
      exact h2
    · intro _ _ _
      simp only [hskl]
      have := L.ns
      omega
    · obtain ⟨o1, o2, o3, o4, o5, o6, o7, o8, o9, o10⟩ := ox
      exact ⟨o1, o2, o3, c7, o5, by simp only; omega, o7, o8, o9, o10⟩
    · obtain ⟨o1, o2, o3, o4, o5, o6, o7, o8, o9, o10⟩ := oy
      exact ⟨o1, o2, o3, o4, c7, o6, by simp only; omega, o8, o9, o10⟩
  | true =>
    obtain ⟨mine, w, r, c, t1, d1, d2, d3, d4, d5, d6, d7, d8, d9, d10, d11, d12⟩ := turn_law hts (by omega) hW (by omega) L ht px
    have hml := d5.len
    obtain ⟨key, next, pub, body, us, c1, c2, c3, c4, c5, c6, c7, c8, c9, c10, c11, c12⟩ := step_law (x := turnX x mine r c) (y := turnR y r c zk) d2 (by omega) d11 (d12 zk) (by simp [turnX]) (by simp [turnX]; omega) (hsec.mono d4) hs hso hb
    have hp0 := d4.trans c4
    have hpub : Nm us (pubT mine) pub := c5
    have hpne : pub ≠ y.theirs := fun e => by
      subst e
      have := hpub.inj (py.mono hp0) c2 (pubT_ok hml) (pubT_ok hm)
      simp only [pubT, Term.mk.injEq, List.cons.injEq, and_true, true_and] at this
      exact d6 this
    have hag := agreeX_pub c2 (a := y.mine) hml hpub
    have hyt : y.turn = false := by have := L.turn; rw [ht] at this; simpa using this.symm
    have hw := d7.mono c4
    have hrc : rcvT us y ⟨pub, 0, x.ns⟩ w = (turnR y r c pub, us) := by
      unfold rcvT
      have e : x.ns - y.nr = 0 := by have := L.ns; omega
      simp only [e, skipG]
      rw [twoV_again (a := r) (b := c) (by rw [← L.root]; exact d9.mono c4) (by rw [← L.root]; exact d10.mono c4)]
    refine ⟨turnX x mine r c, t1, _, _, body, us, { turnR y r c pub with recv := next, nr := 1 }, _, d1, ?_, d3, by simp [turnX], by simp [turnX]; omega, c1, c2, by omega, hp0, hpub.len, hpub.nz, by simp [turnX], by simp [turnX]; omega, c6, ?_, fun e => absurd e hpne, c11, ⟨?_, ?_, ?_, ?_, ?_, ?_, ?_⟩, fun k hk => List.mem_append_left _ (List.mem_append_left _ hk), by simp, ⟨_, pubT_ok hml, hpub, rfl⟩, c8, rfl⟩
    · obtain ⟨o1, o2, o3, o4, o5, o6, o7, o8, o9, o10⟩ := ox
      exact ⟨hml, o2, d9.len, d10.len, o5, by simp [turnX], o7, by simp only [turnX]; exact o6, o9, o10⟩
    · unfold rcvV rcvP
      rw [hidx]
      simp only [if_neg hpne, hag]
      rw [if_neg (by simp only [hyt, turnX, not_or]; have := L.ns; exact ⟨by simp, by omega⟩), if_neg (by simp only [turnX, hskl]; have := L.ns; omega)]
      rw [hw.putN, hw.putT]
      have h0 : (turnX x mine r c).ns = 0 := rfl
      have h1 : (turnX x mine r c).pn = x.ns := rfl
      rw [h0, h1] at c9 c10 ⊢
      rw [hrc]
      simp only
      rw [c9 (turnR y r c pub) rfl rfl]
      simp only
      exact c10 y _
    · obtain ⟨e1, e2, e3, e4, e5, e6, e7, e8, e9, e10, e11, e12, e13, e14, e15, e16⟩ := c12
      exact ⟨e1, e2, e3, e4, e5, e6, e7, e8, e9, e10, e11, e12, e13, e14, e15, e16⟩
    · exact px.mono hp0
    · exact hpub
    · obtain ⟨o1, o2, o3, o4, o5, o6, o7, o8, o9, o10⟩ := ox
      exact ⟨hml, o2, d9.len, c7, o5, by simp [turnX], o7, by simp only [turnX]; exact o6, o9, o10⟩
    · obtain ⟨o1, o2, o3, o4, o5, o6, o7, o8, o9, o10⟩ := oy
      exact ⟨o1, hpub.len, d9.len, o4, c7, o6, by simp, o8, o9, o10⟩
    · exact ⟨by simp [turnX], by simp only [turnX]; omega, by simp only [turnX]; omega⟩
    · exact ⟨by simp only [turnR]; omega, by simp, by simp only [turnR]; omega⟩
end Go.Cab
namespace Go.Cab
open Go.RowKit
open Classical
def fb903 : AC := (.seq (.reg [⟨some 2, none, .alloc 165 (.st [32, 32, 32, 32, 32, 1, 1, 1, 1, 1] [(.arr 1 (List.replicate 32 (.lit (bn 0)))), (.arr 1 (List.replicate 32 (.lit (bn 0)))), (.arr 1 (List.replicate 32 (.lit (bn 0)))), (.arr 1 (List.replicate 32 (.lit (bn 0)))), (.arr 1 (List.replicate 32 (.lit (bn 0)))), (.lit (wn 0)), (.lit (wn 0)), (.lit (wn 0)), (.lit (.bool false)), (.lit (.slice .none 0 0))]), [], none⟩, ⟨some 3, none, .alloc 165 (.st [32, 32, 32, 32, 32, 1, 1, 1, 1, 1] [(.arr 1 (List.replicate 32 (.lit (bn 0)))), (.arr 1 (List.replicate 32 (.lit (bn 0)))), (.arr 1 (List.replicate 32 (.lit (bn 0)))), (.arr 1 (List.replicate 32 (.lit (bn 0)))), (.arr 1 (List.replicate 32 (.lit (bn 0)))), (.lit (wn 0)), (.lit (wn 0)), (.lit (wn 0)), (.lit (.bool false)), (.lit (.slice .none 0 0))]), [], none⟩, ⟨some 4, none, .mov (.const (.bool false)), [], none⟩]) (.seq (.reg [⟨some 13, none, .mov (.tmp 0), [], none⟩, ⟨some 14, none, .xc (.inv "Draw") [(.tmp 13), (.const (tx [97]))] [] [], [], none⟩, ⟨some 15, none, .mov (.tmp 0), [], none⟩, ⟨some 16, none, .xc (.inv "Draw") [(.tmp 15), (.const (tx [98]))] [] [], [], none⟩, ⟨some 17, none, .mov (.tmp 0), [], none⟩, ⟨some 18, none, .xc (.inv "Draw") [(.tmp 17), (.const (tx [99]))] [] [], [], none⟩, ⟨some 19, none, .mov (.tmp 0), [], none⟩, ⟨some 20, none, .xc (.inv "Draw") [(.tmp 19), (.const (tx [100]))] [] [], [], none⟩, ⟨some 5, none, .alloc 32 (.arr 1 (List.replicate 32 (.lit (bn 0)))), [], none⟩, ⟨some 6, none, .alloc 32 (.arr 1 (List.replicate 32 (.lit (bn 0)))), [], none⟩, ⟨some 7, none, .alloc 32 (.arr 1 (List.replicate 32 (.lit (bn 0)))), [], none⟩, ⟨some 8, none, .alloc 32 (.arr 1 (List.replicate 32 (.lit (bn 0)))), [], none⟩, ⟨none, none, .store 32 (.tmp 5) (.tmp 14), [], none⟩, ⟨none, none, .store 32 (.tmp 6) (.tmp 16), [], none⟩, ⟨none, none, .store 32 (.tmp 7) (.tmp 18), [], none⟩, ⟨none, none, .store 32 (.tmp 8) (.tmp 20), [], none⟩]) (.seq (.reg [⟨some 22, none, .mov (.tmp 0), [], none⟩, ⟨some 23, none, .load true 32 (.tmp 5), [9], (.some 5)⟩, ⟨some 24, none, .load true 32 (.tmp 6), [9], (.some 6)⟩, ⟨some 25, none, .mov (.tmp 0), [], none⟩, ⟨some 26, none, .load true 32 (.tmp 7), [9], (.some 7)⟩, ⟨some 27, none, .xc (.inv "Pub") [.tmp 25, .tmp 26] [5, 6, 8] [9], [], none⟩, ⟨some 28, none, .mov (.tmp 0), [], none⟩, ⟨some 29, none, .load true 32 (.tmp 8), [9], (.some 8)⟩, ⟨some 30, none, .xc (.inv "Pub") [.tmp 28, .tmp 29] [5, 6] [9], [], none⟩, ⟨some 31, none, .xc (.dir 17) [(.tmp 22), (.const (.bool true)), (.tmp 23), (.tmp 24), (.tmp 27), (.tmp 30)] [] [9], [], none⟩, ⟨some 21, none, .mov (.tmp 31), [], none⟩, ⟨some 32, none, .ext (.tmp 21) 0, [], none⟩, ⟨some 33, none, .ext (.tmp 21) 1, [], none⟩, ⟨some 9, none, .alloc 165 (.st [32, 32, 32, 32, 32, 1, 1, 1, 1, 1] [(.arr 1 (List.replicate 32 (.lit (bn 0)))), (.arr 1 (List.replicate 32 (.lit (bn 0)))), (.arr 1 (List.replicate 32 (.lit (bn 0)))), (.arr 1 (List.replicate 32 (.lit (bn 0)))), (.arr 1 (List.replicate 32 (.lit (bn 0)))), (.lit (wn 0)), (.lit (wn 0)), (.lit (wn 0)), (.lit (.bool false)), (.lit (.slice .none 0 0))]), [], none⟩, ⟨none, none, .store 165 (.tmp 9) (.tmp 32), [], none⟩, ⟨some 10, none, .mov (.tmp 33), [], none⟩]) (.seq (.reg [⟨some 35, none, .mov (.tmp 0), [], none⟩, ⟨some 36, none, .load true 32 (.tmp 7), [11], (.some 7)⟩, ⟨some 37, none, .load true 32 (.tmp 8), [11], (.some 8)⟩, ⟨some 38, none, .mov (.tmp 0), [], none⟩, ⟨some 39, none, .load true 32 (.tmp 5), [11], (.some 5)⟩, ⟨some 40, none, .xc (.inv "Pub") [.tmp 38, .tmp 39] [7, 8, 6] [11], [], none⟩, ⟨some 41, none, .mov (.tmp 0), [], none⟩, ⟨some 42, none, .load true 32 (.tmp 6), [11], (.some 6)⟩, ⟨some 43, none, .xc (.inv "Pub") [.tmp 41, .tmp 42] [7, 8] [11], [], none⟩, ⟨some 44, none, .xc (.dir 17) [(.tmp 35), (.const (.bool false)), (.tmp 36), (.tmp 37), (.tmp 40), (.tmp 43)] [] [11], [], none⟩, ⟨some 34, none, .mov (.tmp 44), [], none⟩, ⟨some 45, none, .ext (.tmp 34) 0, [], none⟩, ⟨some 46, none, .ext (.tmp 34) 1, [], none⟩, ⟨some 11, none, .alloc 165 (.st [32, 32, 32, 32, 32, 1, 1, 1, 1, 1] [(.arr 1 (List.replicate 32 (.lit (bn 0)))), (.arr 1 (List.replicate 32 (.lit (bn 0)))), (.arr 1 (List.replicate 32 (.lit (bn 0)))), (.arr 1 (List.replicate 32 (.lit (bn 0)))), (.arr 1 (List.replicate 32 (.lit (bn 0)))), (.lit (wn 0)), (.lit (wn 0)), (.lit (wn 0)), (.lit (.bool false)), (.lit (.slice .none 0 0))]), [], none⟩, ⟨none, none, .store 165 (.tmp 11) (.tmp 45), [], none⟩, ⟨some 12, none, .mov (.tmp 46), [], none⟩]) (.seq (.reg [⟨some 47, none, .load true 165 (.tmp 9), [], none⟩, ⟨some 48, none, .load true 165 (.tmp 11), [2], .none⟩, ⟨some 49, none, .mov (.tmp 10), [], none⟩, ⟨some 50, none, .mov (.tmp 49), [], none⟩, ⟨some 51, some (50, true), .mov (.tmp 12), [], none⟩, ⟨some 52, none, .pick (.tmp 50) (.tmp 51) (.const (.bool false)), [], none⟩, ⟨none, none, .store 165 (.tmp 2) (.tmp 47), [], (.some 2)⟩, ⟨none, none, .store 165 (.tmp 3) (.tmp 48), [], none⟩, ⟨some 4, none, .mov (.tmp 52), [], none⟩]) .ret)))))
def fc903 : FC := ⟨1, 53, [(.cell 2 .true 165), (.cell 3 .true 165), (.tmp 4)], fb903⟩
theorem fc903_eq : compF Go.Proofs.Tryd.prog 7 = some fc903 := by kernel_rfl
attribute [local irreducible] AReg
theorem put_ex {ts : List Term} (hts : TsOk ts) (hl : ts.length + 1 < 90000) {x : Term} (hx : TermOk x) (hw : WfT x) : ∃ k us, nameK (putN ts x) = k ∧ putT ts x = us ∧ Nm us x k ∧ ts <+: us ∧ us.length ≤ ts.length + 1 ∧ TsOk us ∧ ∀ z ∈ us, z ∈ ts ∨ z = x :=
  ⟨_, _, rfl, rfl, Nm.put ts x, put_pre ts x, (putT_len ts x).2, hts.put hx hw hl, fun _ hz => mem_put hz⟩
theorem tgt_startZ (a b c d e f : AV) : tgtA Go.Proofs.Tryd.prog (.dir 17) [a, b, c, d, e, f] = some (17, [a, b, c, d, e, f]) := by kernel_rfl
theorem wf1 {s : List UInt8} : WfT (drawT s) := ⟨by simp [drawT], by simp [drawT]⟩
theorem wf3 {k : List UInt8} : WfT (pubT k) := ⟨fun _ => ⟨k, rfl⟩, by simp [pubT]⟩
theorem wf2 {s : List UInt8} {ks : List (List UInt8)} : WfT ⟨2, s, ks⟩ := ⟨by simp, by simp⟩
theorem ok2 {s : List UInt8} (hs : s.length < 1000) {ks : List (List UInt8)} (hk : ks.length < 1000) (h32 : ∀ k ∈ ks, k.length = 32) : TermOk ⟨2, s, ks⟩ := ⟨by simp, by simp only; omega, by simp only; omega, h32⟩
set_option maxRecDepth 100000 in
set_option maxHeartbeats 64000000 in
theorem pair_k : ∃ x y us W, (HidW us W ∧ Lk us W 0 x y ∧ TsOk us ∧ us.length ≤ 30 ∧ x.turn = true ∧ x.ns = 0 ∧ y.nr = 0 ∧ x.nr = 0 ∧ x.pn = 0 ∧ y.pn = 0 ∧ x.mine ≠ y.mine ∧ ∃ b, b.length = 32 ∧ Nm us ⟨2, txDown, [b]⟩ x.recv) ∧
    ∀ (H : List (Option Blk)) (t : Tb) (V0 : Value) (ts0 : List Term), TbOk H t V0 ts0 → KC Go.Proofs.Tryd.prog 7 [freeI t.b t.l] H t [] (.tup [sesA x, sesA y, .lit (.bool true)]) us := by
  obtain ⟨a, t1, ea, eat, na, pa', la, oa, ma⟩ := put_ex (ts := []) TsOk.nil' (by simp) (drawT_ok (s := [97]) (by decide)) wf1
  obtain ⟨b, t2, eb, ebt, nb, pb', lb, ob, mb⟩ := put_ex oa (by simp at la; omega) (drawT_ok (s := [98]) (by decide)) wf1
  obtain ⟨c, t3, ec, ect, nc, pc', lc, oc, mc⟩ := put_ex ob (by simp at la; omega) (drawT_ok (s := [99]) (by decide)) wf1
  obtain ⟨d, t4, ed, edt, nd, pd', ld, od, md⟩ := put_ex oc (by simp at la; omega) (drawT_ok (s := [100]) (by decide)) wf1
  have l0 : t4.length ≤ 4 := by simp at la; omega
  have a32 := na.len; have b32 := nb.len; have c32 := nc.len; have d32 := nd.len
  obtain ⟨pc, t5, epc, epct, npc, ppc, lpc, opc, mpc⟩ := put_ex od (by omega) (pubT_ok c32) wf3
  obtain ⟨pd, t6, epd, epdt, npd, ppd, lpd, opd, mpd⟩ := put_ex opc (by omega) (pubT_ok d32) wf3
  obtain ⟨ac, u1, eac, eact, nac, pac, lac, oac, mac⟩ := put_ex opd (by omega) (agr_ok a32 c32) (agr_wf _ _)
  obtain ⟨ad, u2, ead, eadt, nad, pad, lad, oad, mad⟩ := put_ex oac (by omega) (agr_ok a32 d32) (agr_wf _ _)
  obtain ⟨bc, u3, ebc, ebct, nbc, pbc, lbc, obc, mbc⟩ := put_ex oad (by omega) (agr_ok b32 c32) (agr_wf _ _)
  obtain ⟨bd, u4, ebd, ebdt, nbd, pbd, lbd, obd, mbd⟩ := put_ex obc (by omega) (agr_ok b32 d32) (agr_wf _ _)
  have ac32 := nac.len; have ad32 := nad.len; have bc32 := nbc.len; have bd32 := nbd.len
  obtain ⟨bs, u5, ebs, ebst, nbs, pbs, lbs, obs, mbs⟩ := put_ex obd (by omega) (ok2 (s := txBase) (by simp [txBase]) (ks := [ac, ad, bc, bd]) (by simp) (by simp [ac32, ad32, bc32, bd32])) wf2
  have bs32 := nbs.len
  have okh : ∀ s : List UInt8, s.length < 1000 → TermOk ⟨2, s, [bs]⟩ := fun s hs => ok2 hs (by simp) (by simp [bs32])
  obtain ⟨r, u6, er, ert, nr, pr, lr, or_, mr⟩ := put_ex obs (by omega) (okh txRoot (by simp [txRoot])) wf2
  obtain ⟨u, u7, eu, eut, nu, pu, lu, ou, mu⟩ := put_ex or_ (by omega) (okh txUp (by simp [txUp])) wf2
  obtain ⟨dn, u8, edn, ednt, ndn, pdn, ldn, odn, mdn⟩ := put_ex ou (by omega) (okh txDown (by simp [txDown])) wf2
  obtain ⟨pa, t8, epa, epat, npa, ppa, lpa, opa, mpa⟩ := put_ex odn (by omega) (pubT_ok a32) wf3
  obtain ⟨pb, t9, epb, epbt, npb, ppb, lpb, opb, mpb⟩ := put_ex opa (by omega) (pubT_ok b32) wf3
  have p9 : u8 <+: t9 := ppa.trans ppb
  have p7 := pdn.trans p9
  have p6 := pu.trans p7
  have p5 := pr.trans p6
  have p4 := pbs.trans p5
  have p3 := pbd.trans p4
  have p2 := pbc.trans p3
  have p1 := pad.trans p2
  have pt6 := pac.trans p1
  have pt4 := (ppc.trans ppd).trans pt6
  have pt3 := pd'.trans pt4
  have pt2 := pc'.trans pt3
  have pt1 := pb'.trans pt2
  have k6 : ∀ z ∈ t9, z.kind ≠ 6 := fun z hz => by
    rcases mpb z hz with hz | rfl
    rcases mpa z hz with hz | rfl
    rcases mdn z hz with hz | rfl
    rcases mu z hz with hz | rfl
    rcases mr z hz with hz | rfl
    rcases mbs z hz with hz | rfl
    rcases mbd z hz with hz | rfl
    rcases mbc z hz with hz | rfl
    rcases mad z hz with hz | rfl
    rcases mac z hz with hz | rfl
    rcases mpd z hz with hz | rfl
    rcases mpc z hz with hz | rfl
    rcases md z hz with hz | rfl
    rcases mc z hz with hz | rfl
    rcases mb z hz with hz | rfl
    rcases ma z hz with hz | rfl
    · cases hz
    all_goals first | (rw [agr_kind]; decide) | simp [drawT, pubT]
  have fa := na.mono pt1
  have fb := nb.mono pt2
  have fc := nc.mono pt3
  have fd := nd.mono pt4
  have fac := nac.mono p1
  have fad := nad.mono p2
  have fbc := nbc.mono p3
  have fbd := nbd.mono p4
  have fbs := nbs.mono p5
  have fr := nr.mono p6
  have fu := nu.mono p7
  have fdn := ndn.mono p9
  have fpa := npa.mono ppb
  have s1 : agreeX t6 a pc = some (agr a c) := agreeX_pub opd c32 (npc.mono ppd)
  have s2 : agreeX u1 a pd = some (agr a d) := agreeX_pub oac d32 (npd.mono pac)
  have s3 : agreeX u2 b pc = some (agr b c) := agreeX_pub oad c32 (npc.mono (ppd.trans (pac.trans pad)))
  have s4 : agreeX u3 b pd = some (agr b d) := agreeX_pub obc d32 (npd.mono (pac.trans (pad.trans pbc)))
  have s5 : agreeX t9 c pa = some (agr c a) := agreeX_pub opb a32 fpa
  have s6 : agreeX t9 c pb = some (agr c b) := agreeX_pub opb b32 npb
  have s7 : agreeX t9 d pa = some (agr d a) := agreeX_pub opb a32 fpa
  have s8 : agreeX t9 d pb = some (agr d b) := agreeX_pub opb b32 npb
  have v5 : nameK (putN t9 (agr c a)) = ac ∧ putT t9 (agr c a) = t9 := by rw [agr_comm]; exact ⟨fac.putN, fac.putT⟩
  have v6 : nameK (putN t9 (agr c b)) = bc ∧ putT t9 (agr c b) = t9 := by rw [agr_comm]; exact ⟨fbc.putN, fbc.putT⟩
  have v7 : nameK (putN t9 (agr d a)) = ad ∧ putT t9 (agr d a) = t9 := by rw [agr_comm]; exact ⟨fad.putN, fad.putT⟩
  have v8 : nameK (putN t9 (agr d b)) = bd ∧ putT t9 (agr d b) = t9 := by rw [agr_comm]; exact ⟨fbd.putN, fbd.putT⟩
  have hx : startV u4 true b pd [ac, ad, bc, bd] = (⟨b, pd, r, u, dn, 0, 0, 0, true, []⟩, u8) := by
    unfold startV
    simp only [ebs, ebst, er, ert, eu, eut, edn, ednt, if_true]
  have hy : startV t9 false d pb [ac, ad, bc, bd] = (⟨d, pb, r, dn, u, 0, 0, 0, false, []⟩, t9) := by
    unfold startV
    simp only [fbs.putN, fbs.putT, fr.putN, fr.putT, fu.putN, fu.putT, fdn.putN, fdn.putT]
    rfl
  have pc32 := npc.len; have pd32 := npd.len; have pa32 := npa.len; have pb32 := npb.len
  refine ⟨⟨b, pd, r, u, dn, 0, 0, 0, true, []⟩, ⟨d, pb, r, dn, u, 0, 0, 0, false, []⟩, t9, [a, c, ac, bs], ⟨?_, ?_, opb, by omega, rfl, rfl, rfl, rfl, rfl, rfl, fun e => ?_, bs, bs32, fdn⟩, ?_⟩
  · refine ⟨fun k hk => ?_, fun z hz h6 => absurd h6 (k6 z hz)⟩
    simp only [List.mem_cons, List.not_mem_nil, or_false] at hk
    rcases hk with rfl | rfl | rfl | rfl
    · exact ⟨_, drawT_ok (by decide), fa, .inl ⟨_, rfl, .inl rfl⟩⟩
    · exact ⟨_, drawT_ok (by decide), fc, .inl ⟨_, rfl, .inr (.inl rfl)⟩⟩
    · refine ⟨_, agr_ok a32 c32, fac, .inr (.inr ⟨agr_kind _ _, ?_, ?_⟩)⟩ <;> unfold agr <;> split <;> simp
    · exact ⟨_, ok2 (by simp [txBase]) (by simp) (by simp [ac32, ad32, bc32, bd32]), fbs, .inr (.inl ⟨rfl, ac, by simp, by simp⟩)⟩
  · have cur : ∀ (s : List UInt8) (z : List UInt8), s.length < 1000 → s ≠ txBase → Nm t9 ⟨2, s, [bs]⟩ z → Cur t9 [a, c, ac, bs] z := fun s z h1 h2 h3 => by
      refine ⟨⟨_, okh s h1, h3, rfl, bs, by simp, by simp⟩, fun hk => ?_⟩
      simp only [List.mem_cons, List.not_mem_nil, or_false] at hk
      rcases hk with rfl | rfl | rfl | rfl
      · have := h3.inj fa opb (okh s h1) (drawT_ok (by decide)); simp [drawT] at this
      · have := h3.inj fc opb (okh s h1) (drawT_ok (by decide)); simp [drawT] at this
      · have := congrArg Term.kind (h3.inj fac opb (okh s h1) (agr_ok a32 c32)); rw [agr_kind] at this; cases this
      · have := h3.inj fbs opb (okh s h1) (ok2 (by simp [txBase]) (by simp) (by simp [ac32, ad32, bc32, bd32])); simp at this
    have ne : ∀ (s1 s2 : List UInt8) (z1 z2 : List UInt8), s1.length < 1000 → s2.length < 1000 → s1 ≠ s2 → Nm t9 ⟨2, s1, [bs]⟩ z1 → Nm t9 ⟨2, s2, [bs]⟩ z2 → z1 ≠ z2 := fun s1 s2 z1 z2 h1 h2 h3 h4 h5 e => by
      subst e
      have := h4.inj h5 opb (okh s1 h1) (okh s2 h2)
      simp at this
      exact h3 this
    have r32 := fr.len; have u32 := fu.len; have dn32 := fdn.len
    refine ⟨⟨rfl, rfl, rfl, rfl, rfl, rfl, rfl, rfl, ⟨_, drawT_ok (by decide), fb, .inl rfl⟩, ⟨_, drawT_ok (by decide), fd, .inr (.inl rfl)⟩, cur txRoot r (by simp [txRoot]) (by decide) fr, cur txUp u (by simp [txUp]) (by decide) fu, cur txDown dn (by simp [txDown]) (by decide) fdn, ?_, ?_, ?_⟩, npd.mono (pt6.trans (List.prefix_refl _)), npb, ?_, ?_, ⟨by simp, by simp, by simp⟩, ⟨by simp, by simp, by simp⟩⟩
    · exact ne txRoot txUp r u (by simp [txRoot]) (by simp [txUp]) (by decide) fr fu
    · exact ne txRoot txDown r dn (by simp [txRoot]) (by simp [txDown]) (by decide) fr fdn
    · exact ne txUp txDown u dn (by simp [txUp]) (by simp [txDown]) (by decide) fu fdn
    · exact ⟨b32, pd32, r32, u32, dn32, by simp, by simp, by simp, by simp, by simp⟩
    · exact ⟨d32, pb32, r32, dn32, u32, by simp, by simp, by simp, by simp, by simp⟩
  · have e' : b = d := e
    subst e'
    have := fb.inj fd opb (drawT_ok (by decide)) (drawT_ok (by decide))
    simp [drawT] at this
  · intro H t V0 ts0 hh
    refine KC.of hh fun H V h => ?_
    have ka := draw_k h (ts := []) (s := [97]) (by simp) (by decide)
    have kb := draw_k h (ts := t1) (s := [98]) (by have := oa.len; omega) (by decide)
    have kc := draw_k h (ts := t2) (s := [99]) (by have := ob.len; omega) (by decide)
    have kd := draw_k h (ts := t3) (s := [100]) (by have := oc.len; omega) (by decide)
    rw [ea, eat] at ka
    rw [eb, ebt] at kb
    rw [ec, ect] at kc
    rw [ed, edt] at kd
    have kpc := pub_k h (ts := t4) (by omega) c32
    have kpd := pub_k h (ts := t5) (by omega) d32
    have kpa := pub_k h (ts := u8) (by omega) a32
    have kpb := pub_k h (ts := t8) (by omega) b32
    rw [epc, epct] at kpc
    rw [epd, epdt] at kpd
    rw [epa, epat] at kpa
    rw [epb, epbt] at kpb
    have ksx : KC Go.Proofs.Tryd.prog 17 [freeI t.b t.l, .lit (.bool true), keyA a, keyA b, keyA pc, keyA pd] H t t6 (.tup [sesA ⟨b, pd, r, u, dn, 0, 0, 0, true, []⟩, .lit (.bool true)]) u8 := KC.of h fun H V h => by
      have := start_call h opd (by omega) true a32 b32 pc32 pd32 s1 eac eact s2 ead eadt s3 ebc ebct s4 ebd ebdt
      rw [if_pos rfl, hx] at this
      exact this
    have ksy : KC Go.Proofs.Tryd.prog 17 [freeI t.b t.l, .lit (.bool false), keyA c, keyA d, keyA pa, keyA pb] H t t9 (.tup [sesA ⟨d, pb, r, dn, u, 0, 0, 0, false, []⟩, .lit (.bool true)]) t9 := KC.of h fun H V h => by
      have := start_call h opb (by omega) false c32 d32 pa32 pb32 s5 v5.1 v5.2 s6 v6.1 v6.2 s7 v7.1 v7.2 s8 v8.1 v8.2
      rw [if_neg (by simp), hy] at this
      exact this
    clear fa fb fc fd fac fad fbc fbd fbs fr fu fdn fpa s1 s2 s3 s4 s5 s6 s7 s8 v5 v6 v7 v8 hx hy k6 pt1 pt2 pt3 pt4 pt6 p1 p2 p3 p4 p5 p6 p7 p9 ma mb mc md mpc mpd mac mad mbc mbd mbs mr mu mdn mpa mpb
    have h903 := fc903_eq
    refine XCall.le ?_
    have hself := h.self
    have g1 : ∀ V' ts' L k, (tbOf H t V' ts' ++ L)[H.length + k]? = L[k]? := fun V' ts' L k => cat1 _ _ _ _ (tbOf_len _ _ _ _)
    have g2 : ∀ V' ts' L k x, (tbOf H t V' ts' ++ L).set (H.length + k) x = tbOf H t V' ts' ++ L.set k x := fun V' ts' L k x => cat2 _ _ _ _ _ (tbOf_len _ _ _ _)
    generalize hX : (⟨b, pd, r, u, dn, 0, 0, 0, true, []⟩ : Ses) = X at *
    generalize hY : (⟨d, pb, r, dn, u, 0, 0, 0, false, []⟩ : Ses) = Y at *
    have hsX : sesA X = .st [32, 32, 32, 32, 32, 1, 1, 1, 1, 1] [keyA X.mine, keyA X.theirs, keyA X.root, keyA X.send, keyA X.recv, .lit (wn X.ns), .lit (wn X.nr), .lit (wn X.pn), .lit (.bool X.turn), .sl 65 (X.skips.map skA)] := rfl
    have hsY : sesA Y = .st [32, 32, 32, 32, 32, 1, 1, 1, 1, 1] [keyA Y.mine, keyA Y.theirs, keyA Y.root, keyA Y.send, keyA Y.recv, .lit (wn Y.ns), .lit (wn Y.nr), .lit (wn Y.pn), .lit (.bool Y.turn), .sl 65 (Y.skips.map skA)] := rfl
    refine XCall.of h903 rfl ?_; show AC.wp _ fb903 ⟨H.length, [freeI t.b t.l] ++ List.replicate (53 - 1) .any, H ++ List.replicate 53 none⟩ (fun x s => match x with | .exit _ => False | _ => ∃ s1, Le s s1 ∧ FinX [(.cell 2 .true 165), (.cell 3 .true 165), (.tmp 4)] s1 _); unfold fb903
    rw [← hself]
    rw [tbOf_len]
    simp only [h.of_of]
    generalize hN : H.length = N at *
    refine wp_sg (areg_al' (z' := zsA) (by rw [zsA, zk_eq]) fun l2 => areg_al' (z' := zsA) (by rw [zsA, zk_eq]) fun l3 => areg_end (by simp [push_cast, g2]; exact rfl) ?_)
    refine wp_sg ?_
    refine areg_run 1 (by simp [push_cast]; exact rfl) ?_
    refine areg_k [freeI t.b t.l, .lit (tx [97])] hN rfl (tgt_drawI _ _ _) ka (by simp) (by simp) fun V1 => ?_
    refine areg_run 1 (by simp [push_cast]; exact rfl) ?_
    refine areg_k [freeI t.b t.l, .lit (tx [98])] hN rfl (tgt_drawI _ _ _) kb (by simp) (by simp) fun V2 => ?_
    refine areg_run 1 (by simp [push_cast]; exact rfl) ?_
    refine areg_k [freeI t.b t.l, .lit (tx [99])] hN rfl (tgt_drawI _ _ _) kc (by simp) (by simp) fun V3 => ?_
    refine areg_run 1 (by simp [push_cast]; exact rfl) ?_
    refine areg_k [freeI t.b t.l, .lit (tx [100])] hN rfl (tgt_drawI _ _ _) kd (by simp) (by simp) fun V4 => ?_
    refine areg_al' zk_eq.symm fun l5 => areg_al' zk_eq.symm fun l6 => areg_al' zk_eq.symm fun l7 => areg_al' zk_eq.symm fun l8 => areg_end (by simp [push_cast, g1, g2, a32, b32, c32, d32]; exact rfl) ?_
    refine wp_sg ?_
    refine areg_run 5 (by simp [push_cast, g1, a32, b32, c32]; exact rfl) ?_
    refine areg_k [freeI t.b t.l, keyA c] hN rfl (tgt_pubI _ _ _) kpc (by simp) (by simp [AS.ev, AV.place]) fun V5 => ?_
    refine areg_run 2 (by simp [push_cast, g1, d32]; exact rfl) ?_
    refine areg_k [freeI t.b t.l, keyA d] hN rfl (tgt_pubI _ _ _) kpd (by simp) (by simp [AS.ev, AV.place]) fun V6 => ?_
    refine areg_k [freeI t.b t.l, .lit (.bool true), keyA a, keyA b, keyA pc, keyA pd] hN rfl (tgt_startZ _ _ _ _ _ _) ksx (by simp) (by simp) fun V7 => ?_
    refine areg_run 3 (by simp [push_cast]; exact rfl) ?_
    refine areg_al' (z' := zsA) (by rw [zsA, zk_eq]) fun l9 => areg_end (by simp [push_cast, g1, g2, hsX, zsA, zk_len]; exact rfl) ?_
    refine wp_sg ?_
    refine areg_run 5 (by simp [push_cast, g1, a32, c32, d32]; exact rfl) ?_
    refine areg_k [freeI t.b t.l, keyA a] hN rfl (tgt_pubI _ _ _) kpa (by simp) (by simp [AS.ev, AV.place]) fun V8 => ?_
    refine areg_run 2 (by simp [push_cast, g1, b32]; exact rfl) ?_
    refine areg_k [freeI t.b t.l, keyA b] hN rfl (tgt_pubI _ _ _) kpb (by simp) (by simp [AS.ev, AV.place]) fun V9 => ?_
    refine areg_k [freeI t.b t.l, .lit (.bool false), keyA c, keyA d, keyA pa, keyA pb] hN rfl (tgt_startZ _ _ _ _ _ _) ksy (by simp) (by simp) fun V10 => ?_
    refine areg_run 3 (by simp [push_cast]; exact rfl) ?_
    refine areg_al' (z' := zsA) (by rw [zsA, zk_eq]) fun l11 => areg_end (by simp [push_cast, g1, g2, hsY, zsA, zk_len]; exact rfl) ?_
    refine wp_sr (by simp [push_cast, g1, g2, zsA, zk_len]; exact rfl) (wp_ret' ?_)
    refine ⟨_, Le.refl _, [], _, ⟨_, rfl, by simp [AS.seals, RVals, RVal, AS.ev, AS.peek, AS.blk, g1, Blk.loc, Blk.cont, Blk.n, AV.nav, AV.isAgg, AV.isTup, AS.coe]; rfl, by simp [sesA, sesV]⟩, .tup [sesA X, sesA Y, .lit (.bool true)], tbOf H t V10 t9, RelLe.refl _, by simp, HpLe.trim _ _, rfl, V10, rfl⟩
end Go.Cab
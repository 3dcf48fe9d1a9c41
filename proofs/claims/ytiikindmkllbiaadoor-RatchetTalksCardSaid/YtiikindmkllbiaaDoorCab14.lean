/- Part 14 of what the proof stands on: Z35, KT, KL, KU, KO, KA, JT. -/
import Derived.Test.YtiikindmkllbiaaDoorCab13
import Derived.Test.YtiikindmkllbiaaDoorCab05
import Derived.ProofKit
import Derived.Deep.Slices
import Derived.Test.YtiikindmkllbiaaDoorProg
import Derived.LaidSub
import Derived.Lib.LaidTab
import Derived.Lib.ItoaNum
import Derived.Test.YtiikindmkllbiaaDoorCab06
import Derived.OpenShut
import Derived.Test.YtiikindmkllbiaaDoorRows
import Derived.LaidLaws
import Derived.LaidHandle
import Derived.JoinedOf
set_option linter.unusedSimpArgs false
set_option linter.unnecessarySimpa false
set_option linter.unusedVariables false
set_option linter.unusedSectionVars false
namespace Go.Cab
open Go.RowKit
open Classical
def fb900 : AC := (.seq (.reg [⟨some 2, none, .mov (.const (.bool false)), [], none⟩]) (.seq (.seq (.reg [⟨some 24, none, .call 5 [], [], none⟩, ⟨some 25, none, .un .not (.tmp 24), [], none⟩]) (.cond (.tmp 25) (.seq (.reg [⟨some 2, none, .mov (.const (.bool false)), [], none⟩]) .ret) .skip)) (.seq (.reg [⟨some 26, none, .xc (.dir 6) [] [] [], [], none⟩, ⟨some 3, none, .alloc 1 (.st [1] [(.lit (.pointer .none))]), [], none⟩, ⟨none, none, .store 1 (.tmp 3) (.tmp 26), [], none⟩]) (.seq (.reg [⟨some 28, none, .load true 1 (.tmp 3), [], none⟩, ⟨some 29, none, .rdp (.mkifc 26) [.tmp 28], [], none⟩, ⟨some 30, none, .xc (.dir 7) [.tmp 29] [] [], [], none⟩, ⟨some 27, none, .mov (.tmp 30), [], none⟩, ⟨some 31, none, .ext (.tmp 27) 0, [], none⟩, ⟨some 32, none, .ext (.tmp 27) 1, [], none⟩, ⟨some 33, none, .ext (.tmp 27) 2, [], none⟩, ⟨some 4, none, .alloc 165 (.st [32, 32, 32, 32, 32, 1, 1, 1, 1, 1] [(.arr 1 (List.replicate 32 (.lit (bn 0)))), (.arr 1 (List.replicate 32 (.lit (bn 0)))), (.arr 1 (List.replicate 32 (.lit (bn 0)))), (.arr 1 (List.replicate 32 (.lit (bn 0)))), (.arr 1 (List.replicate 32 (.lit (bn 0)))), (.lit (wn 0)), (.lit (wn 0)), (.lit (wn 0)), (.lit (.bool false)), (.lit (.slice .none 0 0))]), [], none⟩, ⟨some 5, none, .alloc 165 (.st [32, 32, 32, 32, 32, 1, 1, 1, 1, 1] [(.arr 1 (List.replicate 32 (.lit (bn 0)))), (.arr 1 (List.replicate 32 (.lit (bn 0)))), (.arr 1 (List.replicate 32 (.lit (bn 0)))), (.arr 1 (List.replicate 32 (.lit (bn 0)))), (.arr 1 (List.replicate 32 (.lit (bn 0)))), (.lit (wn 0)), (.lit (wn 0)), (.lit (wn 0)), (.lit (.bool false)), (.lit (.slice .none 0 0))]), [], none⟩, ⟨none, none, .store 165 (.tmp 4) (.tmp 31), [], none⟩, ⟨none, none, .store 165 (.tmp 5) (.tmp 32), [], none⟩, ⟨some 6, none, .mov (.tmp 33), [], none⟩]) (.seq (.seq (.reg [⟨some 34, none, .mov (.tmp 6), [], none⟩, ⟨some 35, none, .un .not (.tmp 34), [], none⟩]) (.cond (.tmp 35) (.seq (.reg [⟨some 2, none, .mov (.const (.bool false)), [], none⟩]) .ret) .skip)) (.seq (.reg [⟨some 7, none, .alloc 2 (.arr 1 [(.lit (.slice .none 0 0)), (.lit (.slice .none 0 0))]), [], none⟩]) (.seq (.reg [⟨some 36, none, .load true 165 (.tmp 4), [], none⟩, ⟨some 37, none, .load true 165 (.tmp 5), [], none⟩, ⟨some 38, none, .build (.arr 165 [(.st [32, 32, 32, 32, 32, 1, 1, 1, 1, 1] [(.arr 1 (List.replicate 32 (.lit (bn 0)))), (.arr 1 (List.replicate 32 (.lit (bn 0)))), (.arr 1 (List.replicate 32 (.lit (bn 0)))), (.arr 1 (List.replicate 32 (.lit (bn 0)))), (.arr 1 (List.replicate 32 (.lit (bn 0)))), (.lit (wn 0)), (.lit (wn 0)), (.lit (wn 0)), (.lit (.bool false)), (.lit (.slice .none 0 0))]), (.st [32, 32, 32, 32, 32, 1, 1, 1, 1, 1] [(.arr 1 (List.replicate 32 (.lit (bn 0)))), (.arr 1 (List.replicate 32 (.lit (bn 0)))), (.arr 1 (List.replicate 32 (.lit (bn 0)))), (.arr 1 (List.replicate 32 (.lit (bn 0)))), (.arr 1 (List.replicate 32 (.lit (bn 0)))), (.lit (wn 0)), (.lit (wn 0)), (.lit (wn 0)), (.lit (.bool false)), (.lit (.slice .none 0 0))])]) [(0, (.tmp 36)), (1, (.tmp 37))], [], none⟩, ⟨some 8, none, .alloc 330 (.arr 165 [(.st [32, 32, 32, 32, 32, 1, 1, 1, 1, 1] [(.arr 1 (List.replicate 32 (.lit (bn 0)))), (.arr 1 (List.replicate 32 (.lit (bn 0)))), (.arr 1 (List.replicate 32 (.lit (bn 0)))), (.arr 1 (List.replicate 32 (.lit (bn 0)))), (.arr 1 (List.replicate 32 (.lit (bn 0)))), (.lit (wn 0)), (.lit (wn 0)), (.lit (wn 0)), (.lit (.bool false)), (.lit (.slice .none 0 0))]), (.st [32, 32, 32, 32, 32, 1, 1, 1, 1, 1] [(.arr 1 (List.replicate 32 (.lit (bn 0)))), (.arr 1 (List.replicate 32 (.lit (bn 0)))), (.arr 1 (List.replicate 32 (.lit (bn 0)))), (.arr 1 (List.replicate 32 (.lit (bn 0)))), (.arr 1 (List.replicate 32 (.lit (bn 0)))), (.lit (wn 0)), (.lit (wn 0)), (.lit (wn 0)), (.lit (.bool false)), (.lit (.slice .none 0 0))])]), [], none⟩, ⟨none, none, .store 330 (.tmp 8) (.tmp 38), [], none⟩]) (.seq (.seq (.reg [⟨some 9, none, .mov (.const (jn 0)), [], none⟩]) (.block 0 (.loop (.seq (.seq (.reg [⟨some 39, none, .mov (.tmp 9), [], none⟩, ⟨some 40, none, .mov (.tmp 0), [], none⟩, ⟨some 41, none, .len false (.tmp 40), [], none⟩, ⟨some 42, none, .bin .lss (.tmp 39) (.tmp 41), [], none⟩, ⟨some 43, none, .mov (.tmp 42), [], none⟩, ⟨some 44, some (43, true), .mov (.tmp 9), [], none⟩, ⟨some 45, some (43, true), .bin .lss (.tmp 44) (.const (jn 60)), [], none⟩, ⟨some 46, none, .pick (.tmp 43) (.tmp 45) (.const (.bool false)), [], none⟩]) (.cond (.tmp 46) .skip (.exit 0))) (.seq (.block 1 (.seq (.reg [⟨some 49, none, .mov (.tmp 0), [], none⟩, ⟨some 50, none, .mov (.tmp 9), [], none⟩, ⟨some 51, none, .iaddrS 2 (.tmp 49) (.tmp 50), [], none⟩, ⟨some 52, none, .load true 2 (.tmp 51), [], none⟩, ⟨some 10, none, .alloc 2 (.st [1, 1] [(.lit (jn 0)), (.lit (jn 0))]), [], none⟩, ⟨none, none, .store 2 (.tmp 10) (.tmp 52), [], none⟩]) (.seq (.reg [⟨some 53, none, .faddr 0 0 (.tmp 10), [], none⟩, ⟨some 54, none, .load false 1 (.tmp 53), [], none⟩, ⟨some 55, none, .cvt .u64 (.tmp 54), [], none⟩, ⟨some 56, none, .bin .rem (.tmp 55) (.const (un 2)), [], none⟩, ⟨some 57, none, .cvt .i64 (.tmp 56), [], none⟩, ⟨some 11, none, .mov (.tmp 57), [], none⟩]) (.seq (.seq (.reg [⟨some 58, none, .faddr 0 0 (.tmp 10), [], none⟩, ⟨some 59, none, .load false 1 (.tmp 58), [], none⟩, ⟨some 60, none, .cvt .u64 (.tmp 59), [], none⟩, ⟨some 61, none, .bin .rem (.tmp 60) (.const (un 4)), [], none⟩, ⟨some 62, none, .bin .lss (.tmp 61) (.const (un 2)), [], none⟩]) (.cond (.tmp 62) (.seq (.reg [⟨some 12, none, .mov (.const (jn 0)), [], none⟩]) (.seq (.seq (.reg [⟨some 13, none, .mov (.const (jn 0)), [], none⟩]) (.block 2 (.loop (.seq (.seq (.reg [⟨some 63, none, .mov (.tmp 13), [], none⟩, ⟨some 64, none, .mov (.tmp 11), [], none⟩, ⟨some 65, none, .bin .sub (.const (jn 1)) (.tmp 64), [], none⟩, ⟨some 66, none, .iaddrA 2 1 (.tmp 7) (.tmp 65), [], none⟩, ⟨some 67, none, .load false 1 (.tmp 66), [], none⟩, ⟨some 68, none, .len false (.tmp 67), [], none⟩, ⟨some 69, none, .bin .lss (.tmp 63) (.tmp 68), [], none⟩]) (.cond (.tmp 69) .skip (.exit 2))) (.seq (.block 3 (.seq (.reg [⟨some 72, none, .mov (.tmp 11), [], none⟩, ⟨some 73, none, .bin .sub (.const (jn 1)) (.tmp 72), [], none⟩, ⟨some 74, none, .iaddrA 2 1 (.tmp 7) (.tmp 73), [], none⟩, ⟨some 75, none, .load false 1 (.tmp 74), [], none⟩, ⟨some 76, none, .mov (.tmp 13), [], none⟩, ⟨some 77, none, .iaddrS 68 (.tmp 75) (.tmp 76), [], none⟩, ⟨some 78, none, .faddr 67 3 (.tmp 77), [], none⟩, ⟨some 79, none, .load false 1 (.tmp 78), [], none⟩, ⟨some 80, none, .un .not (.tmp 79), [], none⟩]) (.cond (.tmp 80) (.reg [⟨some 81, none, .mov (.tmp 12), [], none⟩, ⟨some 82, none, .bin .add (.tmp 81) (.const (jn 1)), [], none⟩, ⟨some 12, none, .mov (.tmp 82), [], none⟩]) .skip))) (.reg [⟨some 70, none, .mov (.tmp 13), [], none⟩, ⟨some 71, none, .bin .add (.tmp 70) (.const (jn 1)), [], none⟩, ⟨some 13, none, .mov (.tmp 71), [], none⟩])))))) (.seq (.seq (.reg [⟨some 83, none, .mov (.tmp 12), [], none⟩, ⟨some 84, none, .bin .geq (.tmp 83) (.const (jn 15)), [], none⟩]) (.cond (.tmp 84) (.exit 1) .skip)) (.seq (.reg [⟨some 85, none, .faddr 0 0 (.tmp 3), [], none⟩, ⟨some 86, none, .load false 1 (.tmp 85), [14], .none⟩, ⟨some 87, none, .mov (.tmp 9), [], none⟩, ⟨some 88, none, .cvt .u64 (.tmp 87), [], none⟩, ⟨some 89, none, .callv 9 [.tmp 88], [14], .none⟩, ⟨some 90, none, .bin .add (.const (tx [109])) (.tmp 89), [], none⟩, ⟨some 91, none, .xc (.dir 8) [.tmp 86, .tmp 90] [] [14], [], none⟩, ⟨some 14, none, .alloc 32 (.arr 1 (List.replicate 32 (.lit (bn 0)))), [], none⟩, ⟨none, none, .store 32 (.tmp 14) (.tmp 91), [], none⟩]) (.seq (.reg [⟨some 93, none, .load true 1 (.tmp 3), [15, 16], (.some 3)⟩, ⟨some 94, none, .rdp (.mkifc 26) [.tmp 93], [], none⟩, ⟨some 95, none, .mov (.tmp 11), [], none⟩, ⟨some 96, none, .iaddrA 2 165 (.tmp 8) (.tmp 95), [], none⟩, ⟨some 97, none, .load true 165 (.tmp 96), [15, 16], .none⟩, ⟨some 98, none, .mov (.tmp 9), [], none⟩, ⟨some 99, none, .cvt .u64 (.tmp 98), [], none⟩, ⟨some 100, none, .callv 9 [.tmp 99], [15, 16], .none⟩, ⟨some 101, none, .bin .add (.const (tx [116])) (.tmp 100), [], none⟩, ⟨some 102, none, .build (.arr 1 (List.replicate 32 (.lit (bn 0)))) [(0, (.const (bn 7)))], [], none⟩, ⟨some 103, none, .load true 32 (.tmp 14), [15, 16], (.some 14)⟩, ⟨some 104, none, .bslice 32 (.arr 1 (List.replicate 32 (.lit (bn 0)))) 1 [(0, (.tmp 103))], [], none⟩, ⟨some 105, none, .xc (.dir 10) [.tmp 94, .tmp 97, .tmp 101, .tmp 102, .tmp 104] [] [15, 16], [], none⟩, ⟨some 92, none, .mov (.tmp 105), [], none⟩, ⟨some 106, none, .ext (.tmp 92) 0, [], none⟩, ⟨some 107, none, .ext (.tmp 92) 1, [], none⟩, ⟨some 108, none, .ext (.tmp 92) 2, [], none⟩, ⟨some 109, none, .ext (.tmp 92) 3, [], none⟩, ⟨some 15, none, .alloc 165 (.st [32, 32, 32, 32, 32, 1, 1, 1, 1, 1] [(.arr 1 (List.replicate 32 (.lit (bn 0)))), (.arr 1 (List.replicate 32 (.lit (bn 0)))), (.arr 1 (List.replicate 32 (.lit (bn 0)))), (.arr 1 (List.replicate 32 (.lit (bn 0)))), (.arr 1 (List.replicate 32 (.lit (bn 0)))), (.lit (wn 0)), (.lit (wn 0)), (.lit (wn 0)), (.lit (.bool false)), (.lit (.slice .none 0 0))]), [], none⟩, ⟨some 16, none, .alloc 34 (.st [32, 1, 1] [(.arr 1 (List.replicate 32 (.lit (bn 0)))), (.lit (wn 0)), (.lit (wn 0))]), [], none⟩, ⟨none, none, .store 165 (.tmp 15) (.tmp 106), [], none⟩, ⟨none, none, .store 34 (.tmp 16) (.tmp 107), [], none⟩, ⟨some 17, none, .mov (.tmp 108), [], none⟩, ⟨some 18, none, .mov (.tmp 109), [], none⟩]) (.seq (.seq (.reg [⟨some 110, none, .mov (.tmp 18), [], none⟩, ⟨some 111, none, .bin .neq (.tmp 110) (.const (jn 0)), [], none⟩]) (.cond (.tmp 111) (.seq (.reg [⟨some 2, none, .mov (.const (.bool false)), [], none⟩]) .ret) .skip)) (.seq (.reg [⟨some 112, none, .mov (.tmp 11), [], none⟩, ⟨some 113, none, .load true 165 (.tmp 15), [], none⟩, ⟨some 114, none, .iaddrA 2 165 (.tmp 8) (.tmp 112), [], none⟩, ⟨none, none, .store 165 (.tmp 114) (.tmp 113), [], none⟩]) (.seq (.reg [⟨some 115, none, .mov (.tmp 11), [], none⟩, ⟨some 116, none, .bin .sub (.const (jn 1)) (.tmp 115), [], none⟩, ⟨some 117, none, .mov (.tmp 11), [], none⟩, ⟨some 118, none, .bin .sub (.const (jn 1)) (.tmp 117), [], none⟩, ⟨some 119, none, .iaddrA 2 1 (.tmp 7) (.tmp 118), [], none⟩, ⟨some 120, none, .load false 1 (.tmp 119), [], none⟩, ⟨some 121, none, .load true 34 (.tmp 16), [], (.some 16)⟩, ⟨some 122, none, .mov (.tmp 17), [], none⟩, ⟨some 123, none, .load true 32 (.tmp 14), [], (.some 14)⟩, ⟨some 124, none, .build (.st [34, 1, 32, 1] [(.st [32, 1, 1] [(.arr 1 (List.replicate 32 (.lit (bn 0)))), (.lit (wn 0)), (.lit (wn 0))]), (.lit (tx [])), (.arr 1 (List.replicate 32 (.lit (bn 0)))), (.lit (.bool false))]) [(0, (.tmp 121)), (1, (.tmp 122)), (2, (.tmp 123)), (3, (.const (.bool false)))], [], none⟩, ⟨some 125, none, .bslice 68 (.st [34, 1, 32, 1] [(.st [32, 1, 1] [(.arr 1 (List.replicate 32 (.lit (bn 0)))), (.lit (wn 0)), (.lit (wn 0))]), (.lit (tx [])), (.arr 1 (List.replicate 32 (.lit (bn 0)))), (.lit (.bool false))]) 1 [(0, (.tmp 124))], [], none⟩, ⟨some 126, none, .append 45 68 96 (.tmp 120) (.tmp 125), [], none⟩, ⟨some 127, none, .iaddrA 2 1 (.tmp 7) (.tmp 116), [], none⟩, ⟨none, none, .store 1 (.tmp 127) (.tmp 126), [], none⟩]) (.exit 1))))))))) .skip)) (.seq (.seq (.reg [⟨some 128, none, .mov (.tmp 11), [], none⟩, ⟨some 129, none, .iaddrA 2 1 (.tmp 7) (.tmp 128), [], none⟩, ⟨some 130, none, .load false 1 (.tmp 129), [], none⟩, ⟨some 131, none, .len false (.tmp 130), [], none⟩, ⟨some 132, none, .bin .eql (.tmp 131) (.const (jn 0)), [], none⟩]) (.cond (.tmp 132) (.exit 1) .skip)) (.seq (.reg [⟨some 133, none, .faddr 1 1 (.tmp 10), [], none⟩, ⟨some 134, none, .load false 1 (.tmp 133), [], none⟩, ⟨some 135, none, .cvt .u64 (.tmp 134), [], none⟩, ⟨some 136, none, .mov (.tmp 11), [], none⟩, ⟨some 137, none, .iaddrA 2 1 (.tmp 7) (.tmp 136), [], none⟩, ⟨some 138, none, .load false 1 (.tmp 137), [], none⟩, ⟨some 139, none, .len false (.tmp 138), [], none⟩, ⟨some 140, none, .cvt .u64 (.tmp 139), [], none⟩, ⟨some 141, none, .bin .rem (.tmp 135) (.tmp 140), [], none⟩, ⟨some 142, none, .cvt .i64 (.tmp 141), [], none⟩, ⟨some 19, none, .mov (.tmp 142), [], none⟩]) (.seq (.reg [⟨some 143, none, .mov (.tmp 11), [], none⟩, ⟨some 144, none, .iaddrA 2 1 (.tmp 7) (.tmp 143), [], none⟩, ⟨some 145, none, .load false 1 (.tmp 144), [], none⟩, ⟨some 146, none, .mov (.tmp 19), [], none⟩, ⟨some 147, none, .iaddrS 68 (.tmp 145) (.tmp 146), [], none⟩, ⟨some 148, none, .load true 68 (.tmp 147), [], none⟩, ⟨some 20, none, .alloc 68 (.st [34, 1, 32, 1] [(.st [32, 1, 1] [(.arr 1 (List.replicate 32 (.lit (bn 0)))), (.lit (wn 0)), (.lit (wn 0))]), (.lit (tx [])), (.arr 1 (List.replicate 32 (.lit (bn 0)))), (.lit (.bool false))]), [], none⟩, ⟨none, none, .store 68 (.tmp 20) (.tmp 148), [], none⟩]) (.seq (.reg [⟨some 150, none, .load true 1 (.tmp 3), [21], (.some 3)⟩, ⟨some 151, none, .rdp (.mkifc 26) [.tmp 150], [], none⟩, ⟨some 152, none, .mov (.tmp 11), [], none⟩, ⟨some 153, none, .iaddrA 2 165 (.tmp 8) (.tmp 152), [], none⟩, ⟨some 154, none, .load true 165 (.tmp 153), [21], .none⟩, ⟨some 155, none, .faddr 0 0 (.tmp 20), [], none⟩, ⟨some 156, none, .load true 34 (.tmp 155), [21], .none⟩, ⟨some 157, none, .build (.arr 1 (List.replicate 32 (.lit (bn 0)))) [(0, (.const (bn 7)))], [], none⟩, ⟨some 158, none, .faddr 34 1 (.tmp 20), [], none⟩, ⟨some 159, none, .load false 1 (.tmp 158), [21], .none⟩, ⟨some 160, none, .xc (.dir 11) [.tmp 151, .tmp 154, .tmp 156, .tmp 157, .tmp 159] [] [21], [], none⟩, ⟨some 149, none, .mov (.tmp 160), [], none⟩, ⟨some 161, none, .ext (.tmp 149) 0, [], none⟩, ⟨some 162, none, .ext (.tmp 149) 1, [], none⟩, ⟨some 163, none, .ext (.tmp 149) 2, [], none⟩, ⟨some 21, none, .alloc 165 (.st [32, 32, 32, 32, 32, 1, 1, 1, 1, 1] [(.arr 1 (List.replicate 32 (.lit (bn 0)))), (.arr 1 (List.replicate 32 (.lit (bn 0)))), (.arr 1 (List.replicate 32 (.lit (bn 0)))), (.arr 1 (List.replicate 32 (.lit (bn 0)))), (.arr 1 (List.replicate 32 (.lit (bn 0)))), (.lit (wn 0)), (.lit (wn 0)), (.lit (wn 0)), (.lit (.bool false)), (.lit (.slice .none 0 0))]), [], none⟩, ⟨none, none, .store 165 (.tmp 21) (.tmp 161), [], none⟩, ⟨some 22, none, .mov (.tmp 162), [], none⟩, ⟨some 23, none, .mov (.tmp 163), [], none⟩]) (.seq (.seq (.reg [⟨some 164, none, .faddr 67 3 (.tmp 20), [], none⟩, ⟨some 165, none, .load false 1 (.tmp 164), [], none⟩, ⟨some 166, none, .mov (.tmp 23), [], none⟩, ⟨some 167, none, .bin .neq (.tmp 166) (.const (jn 0)), [], none⟩, ⟨some 168, none, .beq true (.tmp 165) (.tmp 167), [], none⟩, ⟨some 169, none, .mov (.tmp 168), [], none⟩, ⟨some 170, some (169, false), .mov (.tmp 23), [], none⟩, ⟨some 171, some (169, false), .bin .eql (.tmp 170) (.const (jn 0)), [], none⟩, ⟨some 172, some (169, false), .mov (.tmp 171), [], none⟩, ⟨some 173, some (172, true), .mov (.tmp 22), [], none⟩, ⟨some 174, some (172, true), .len false (.tmp 173), [], none⟩, ⟨some 175, some (172, true), .bin .neq (.tmp 174) (.const (jn 1)), [], none⟩, ⟨some 176, some (172, true), .mov (.tmp 175), [], none⟩, ⟨some 177, some (176, false), .mov (.tmp 22), [], none⟩, ⟨some 178, some (176, false), .iaddrS 32 (.tmp 177) (.const (jn 0)), [], none⟩, ⟨some 179, some (176, false), .load true 32 (.tmp 178), [], none⟩, ⟨some 180, some (176, false), .faddr 35 2 (.tmp 20), [], none⟩, ⟨some 181, some (176, false), .load true 32 (.tmp 180), [], none⟩, ⟨some 182, some (176, false), .eqv 29 true (.tmp 179) (.tmp 181), [], none⟩, ⟨some 183, some (172, true), .pick (.tmp 176) (.const (.bool true)) (.tmp 182), [], none⟩, ⟨some 184, some (169, false), .pick (.tmp 172) (.tmp 183) (.const (.bool false)), [], none⟩, ⟨some 185, none, .pick (.tmp 169) (.const (.bool true)) (.tmp 184), [], none⟩, ⟨some 186, none, .mov (.tmp 185), [], none⟩, ⟨some 187, some (186, false), .mov (.tmp 23), [], none⟩, ⟨some 188, some (186, false), .bin .neq (.tmp 187) (.const (jn 0)), [], none⟩, ⟨some 189, some (186, false), .mov (.tmp 188), [], none⟩, ⟨some 190, some (189, true), .load true 165 (.tmp 21), [], none⟩, ⟨some 191, some (189, true), .mov (.tmp 11), [], none⟩, ⟨some 192, some (189, true), .iaddrA 2 165 (.tmp 8) (.tmp 191), [], none⟩, ⟨some 193, some (189, true), .load true 165 (.tmp 192), [], none⟩, ⟨some 194, some (189, true), .callv 12 [.tmp 190, .tmp 193], [], none⟩, ⟨some 195, some (189, true), .un .not (.tmp 194), [], none⟩, ⟨some 196, some (186, false), .pick (.tmp 189) (.tmp 195) (.const (.bool false)), [], none⟩, ⟨some 197, none, .pick (.tmp 186) (.const (.bool true)) (.tmp 196), [], none⟩]) (.cond (.tmp 197) (.seq (.reg [⟨some 2, none, .mov (.const (.bool false)), [], none⟩]) .ret) .skip)) (.seq (.reg [⟨some 198, none, .mov (.tmp 11), [], none⟩, ⟨some 199, none, .load true 165 (.tmp 21), [], none⟩, ⟨some 200, none, .iaddrA 2 165 (.tmp 8) (.tmp 198), [], none⟩, ⟨none, none, .store 165 (.tmp 200) (.tmp 199), [], none⟩]) (.reg [⟨some 201, none, .mov (.tmp 11), [], none⟩, ⟨some 202, none, .iaddrA 2 1 (.tmp 7) (.tmp 201), [], none⟩, ⟨some 203, none, .load false 1 (.tmp 202), [], none⟩, ⟨some 204, none, .mov (.tmp 19), [], none⟩, ⟨some 205, none, .iaddrS 68 (.tmp 203) (.tmp 204), [], none⟩, ⟨some 206, none, .faddr 67 3 (.tmp 205), [], none⟩, ⟨none, none, .store 1 (.tmp 206) (.const (.bool true)), [], none⟩]))))))))))) (.reg [⟨some 47, none, .mov (.tmp 9), [], none⟩, ⟨some 48, none, .bin .add (.tmp 47) (.const (jn 1)), [], none⟩, ⟨some 9, none, .mov (.tmp 48), [], none⟩])))))) (.seq (.reg [⟨some 207, none, .call 5 [], [], none⟩, ⟨some 2, none, .mov (.tmp 207), [], none⟩]) .ret)))))))))
def fc900 : FC := ⟨1, 208, [(.tmp 2)], fb900⟩
theorem fc900_eq : compF Go.Proofs.Tryd.prog 3 = some fc900 := by kernel_rfl
attribute [local irreducible] AReg
def mgA (m : MgV) : AV := .st [34, 1, 32, 1] [headA m.h, .lit (tx m.body), keyA m.sec, .lit (.bool m.had)]
def zmA : AV := .st [34, 1, 32, 1] [zhA, .lit (tx []), keyA zk, .lit (.bool false)]
theorem AVle.ar1 {c : Nat} {f f' : AV} {fs fs' : List AV} (h : AVle f f') (k : AVle (.arr c fs) (.arr c fs')) : AVle (.arr c (f :: fs)) (.arr c (f' :: fs')) := fun Imm w cs hr => by
  cases hr with
  | arr1 _ _ _ cd ds he hl hs hd => exact .arr1 c f' fs' _ _ (h _ _ _ he) hl hs (k _ _ _ hd)
theorem Le.rowL {N b d j : Nat} {tm tm' : List AV} {F L L' : List (Option Blk)} {X X' Y : Blk} (hF : F.length = N) (hbj : b ≠ j) (hbd : b ≠ d) (hdj : d ≠ j) (hX : L[b]? = some (some X)) (hle : BlkLe X X') (hY : L[d]? = some (some Y)) (ht : leT tm tm') (hL : leH (((L.set b (some X')).set d none).set j (some Y)) L') : Le ⟨N, tm, F ++ L⟩ ⟨N, tm', F ++ L'⟩ := by
  have hb := (List.getElem?_eq_some_iff.1 hX).1
  have hd := (List.getElem?_eq_some_iff.1 hY).1
  have key : ∀ (k : Nat) (x : Blk), ((F ++ ((L.set b (some X')).set d none).set j (some Y))[k]?).join = some x → (k = N + j ∧ x = Y) ∨ (k = N + b ∧ x = X') ∨ (k ≠ N + j ∧ k ≠ N + b ∧ k ≠ N + d ∧ ((F ++ L)[k]?).join = some x) := fun k x hx => by
    by_cases hk : k < N
    · rw [List.getElem?_append_left (by omega)] at hx
      exact .inr (.inr ⟨by omega, by omega, by omega, by rw [List.getElem?_append_left (by omega)]; exact hx⟩)
    · rw [List.getElem?_append_right (by omega), hF] at hx
      by_cases h1 : j = k - N
      · subst h1
        rw [List.getElem?_set] at hx
        simp only [if_true] at hx
        split at hx
        · exact .inl ⟨by omega, by simpa using hx.symm⟩
        · simp at hx
      · rw [List.getElem?_set_ne h1] at hx
        by_cases h2 : d = k - N
        · subst h2
          rw [List.getElem?_set] at hx
          simp only [if_true] at hx
          split at hx <;> simp at hx
        · rw [List.getElem?_set_ne h2] at hx
          by_cases h3 : b = k - N
          · subst h3
            rw [List.getElem?_set_self hb] at hx
            exact .inr (.inl ⟨by omega, by simpa using hx.symm⟩)
          · rw [List.getElem?_set_ne h3] at hx
            exact .inr (.inr ⟨by omega, by omega, by omega, by rw [List.getElem?_append_right (by omega), hF]; exact hx⟩)
  have h1 : HpLe (F ++ L) (F ++ ((L.set b (some X')).set d none).set j (some Y)) := by
    refine HpLe.gen (fun k => if k = N + j then N + d else k) (fun k k' x y hx hy e => ?_) (fun k x hx => ?_)
    · try simp only at e
      rcases key k x hx with ⟨h1, _⟩ | ⟨h1, _⟩ | ⟨h1, _, h2, _⟩ <;> rcases key k' y hy with ⟨g1, _⟩ | ⟨g1, _⟩ | ⟨g1, _, g2, _⟩ <;> (try split at e) <;> (try split at e) <;> omega
    · rcases key k x hx with ⟨rfl, rfl⟩ | ⟨rfl, rfl⟩ | ⟨h1, h2, _, h3⟩
      · rw [if_pos rfl]
        exact ⟨_, by rw [List.getElem?_append_right (by omega), hF, Nat.add_sub_cancel_left, hY]; rfl, BlkLe.refl _⟩
      · rw [if_neg (by omega)]
        exact ⟨X, by rw [List.getElem?_append_right (by omega), hF, Nat.add_sub_cancel_left, hX]; rfl, hle⟩
      · rw [if_neg h1]
        exact ⟨x, h3, BlkLe.refl _⟩
  exact (Le.hp (s := ⟨N, tm, F ++ L⟩) h1 ht).trans (Le.cat (leT_refl _) hL)
theorem cnt_succ {p : MgV → Bool} {l : List MgV} {j : Nat} {m : MgV} (h : l[j]? = some m) : (l.take (j + 1)).countP p = (l.take j).countP p + (if p m then 1 else 0) := by
  rw [List.take_add_one, h, List.countP_append]
  simp [List.countP_cons]
structure RtT where
  i : Nat
  x : Ses
  y : Ses
  l0 : List MgV
  l1 : List MgV
  ts : List Term
  V : Value
  Va : Value
  Vb : Value
structure RtOk (z : RtT) (n : Nat) : Prop where
  tk : Tk z.ts z.i 0 1 z.x z.y z.l0 z.l1
  tok : TsOk z.ts
  len : z.ts.length ≤ 30 + 100 * z.i
  i1 : z.i ≤ n
  i2 : z.i ≤ 60
  c0 : z.l0.length ≤ z.i
  c1 : z.l1.length ≤ z.i
def rtL (N : Nat) (l3 l7 l8 : Nat × Nat) (t : Tb) (x y : Ses) (M0 M1 : List AV) (Va Vb : Value) : List (Option Blk) :=
  [none, some (.row 45 Va 68 M0 0), some (.row 45 Vb 68 M1 0), some (.box l3 1 (freeS t.b t.l)), none, none, none, some (.box l7 2 (.arr 1 [.own (N + 1) Va, .own (N + 2) Vb])), some (.box l8 330 (.arr 165 [sesA x, sesA y]))] ++ List.replicate 199 none
def rtS (N : Nat) (H : List (Option Blk)) (t : Tb) (T : List AV) (l3 l7 l8 : Nat × Nat) (z : RtT) : AS :=
  ⟨N, [.sl 2 T, .any, .lit (.bool false), .ptr (N + 3) l3 0 [], .any, .any, .any, .ptr (N + 7) l7 0 [], .ptr (N + 8) l8 0 [], .lit (jn z.i)] ++ List.replicate 198 .any, tbOf H t z.V z.ts ++ rtL N l3 l7 l8 t z.x z.y (z.l0.map mgA) (z.l1.map mgA) z.Va z.Vb⟩
def rtJ (N : Nat) (H : List (Option Blk)) (t : Tb) (T : List AV) (l3 l7 l8 : Nat × Nat) (i : Nat) (x y : Ses) (M0 M1 : List AV) (ts : List Term) (V Va Vb : Value) (me c j : Nat) : AS :=
  ⟨N, [.sl 2 T, .any, .lit (.bool false), .ptr (N + 3) l3 0 [], .any, .any, .any, .ptr (N + 7) l7 0 [], .ptr (N + 8) l8 0 [], .lit (jn i), .any, .lit (jn me), .lit (jn c), .lit (jn j)] ++ List.replicate 194 .any, tbOf H t V ts ++ rtL N l3 l7 l8 t x y M0 M1 Va Vb⟩
set_option maxRecDepth 100000 in
set_option maxHeartbeats 64000000 in
theorem ratchetTalks_call (as_ : List (Int × Int)) (hA : as_.length < 9223372036854775808) : PCall Go.Proofs.Tryd.prog 3 [.sl 2 (as_.map actA)] (.val (.lit (.bool true))) := by
  have h900 := fc900_eq
  have hc6 : callable Go.Proofs.Tryd.prog 6 = true := by kernel_rfl
  have al := ralive_call
  have hTl : (as_.map actA).length = as_.length := List.length_map _
  have hTg : ∀ i (a : Int × Int), as_[i]? = some a → (as_.map actA)[i]? = some (AV.st [1, 1] [.lit (.int .i64 a.1), .lit (.int .i64 a.2)]) := fun i a h => by rw [List.getElem?_map, h]; rfl
  generalize as_.map actA = T at *
  refine PCall.of h900 rfl ?_; show AC.wp _ fb900 (AS.init [.sl 2 T] 1 208) (fun x s => match x with | .exit _ => False | _ => Fin [(.tmp 2)] s _); unfold fb900 AS.init
  refine wp_sr (by simp [push_cast]; exact rfl) ?_
  refine wp_seq' (wp_seq' (wp_rg ?_))
  refine areg_ca (by simp [AS.ev, AS.coe, AS.put] <;> exact rfl) al ?_
  refine areg_end (by simp [push_cast]; exact rfl) ?_
  refine wp_cond_f rfl (wp_skip' ?_)
  refine wp_sgL ?_
  refine areg_run 0 (by simp [push_cast]; exact rfl) ?_
  refine areg_xq (us := []) rfl (by simp only [tgtA, tgtB, Option.bind_some, hc6, if_true]) (newfree_call _) ⟨_, _, (0, 0), 0, rfl, rfl⟩ (fun r hp' _ t' ht' => by cases ht') ?_
  rintro r H' ⟨l, rr, rfl, rfl⟩
  refine areg_run 0 (by simp [push_cast]; exact rfl) ?_
  refine areg_al' rfl fun l3 => areg_end (by simp [push_cast, freeS_sz, freeS_agg, freeS_tup]; exact rfl) ?_
  refine wp_kit (n := 208) (Lo := [none, none, none, some (.box l3 1 (freeS 208 l))] ++ List.replicate 204 none) (fun N t => [.sl 2 T, .any, .lit (.bool false), .ptr (N + 3) l3 0 []] ++ List.replicate 204 .any) (fun N t => [none, none, none, some (.box l3 1 (freeS t.b t.l))] ++ List.replicate 204 none) rfl ?_ ?_ fun N H t V hh hN => ?_
  · simp [leA, RelLe.refl', RelLe.ptr']
  · simp [leB, tbNew, BlkLe.freeS']
  have g1 : ∀ V' ts' L k, (tbOf H t V' ts' ++ L)[N + k]? = L[k]? := fun V' ts' L k => cat1 _ _ _ _ (by rw [tbOf_len, hN])
  have g2 : ∀ V' ts' L k x, (tbOf H t V' ts' ++ L).set (N + k) x = tbOf H t V' ts' ++ L.set k x := fun V' ts' L k x => cat2 _ _ _ _ _ (by rw [tbOf_len, hN])
  have gN : ∀ V' ts', (tbOf H t V' ts').length = N := fun V' ts' => by rw [tbOf_len, hN]
  obtain ⟨x0, y0, us0, W0, ⟨hW0, L0, ou0, lu0, tu0, nu1, nu2, nu3, nu4, nu5, nu6, nu7⟩, hpair⟩ := pair_k
  have hT0 := talk_start L0 tu0 nu1 nu2 nu3 nu4 nu5 nu6 nu7
  have kp := hpair H t V [] hh
  clear hpair hW0 L0 tu0 nu1 nu2 nu3 nu4 nu5 nu6 nu7
  refine wp_sg ?_
  refine areg_run 1 (by simp [push_cast, g1, freeS_sz, freeS_agg, freeS_tup]; exact rfl) ?_
  refine areg_rdp (us := [freeS t.b t.l]) rfl (mkifc_free _ _) ?_
  refine areg_k [freeI t.b t.l] hN rfl (tgt_pairZ _) kp (by simp) (by simp) fun V1 => ?_
  refine areg_run 4 (by simp [push_cast]; exact rfl) ?_
  refine areg_al' (z' := zsA) (by rw [zsA, zk_eq]) fun l4 => areg_al' (z' := zsA) (by rw [zsA, zk_eq]) fun l5 => areg_end (by simp [push_cast, g1, g2, sesA_st, zsA, zk_len]; exact rfl) ?_
  refine wp_seq' (wp_sr (by simp [push_cast]; exact rfl) ?_)
  refine wp_cond_f (by simp [AS.ev]) (wp_skip' ?_)
  refine wp_sg (areg_al' (z' := .arr 1 [.lit (.slice none 0 0), .lit (.slice none 0 0)]) rfl fun l7 => areg_end (by simp [push_cast, g2]; exact rfl) ?_)
  refine wp_sg ?_
  refine areg_run 2 (by simp [push_cast, g1]; exact rfl) ?_
  refine areg_bd (z' := .arr 165 [sesA x0, sesA y0]) (fill_ar rfl rfl rfl (by simp [AV.sz, AS.ev, AS.put]) (fill_ar rfl rfl rfl (by simp [AV.sz, AS.ev, AS.put]) rfl)) ?_
  refine areg_al' (z' := zs2) (by rw [zs2, zsA, zk_eq]) fun l8 => areg_end (by simp [push_cast, g1, g2, zs2]; exact rfl) ?_
  refine wp_seqM (rtS N H t T l3 l7 l8) (fun z => RtOk z as_.length) ?_ ?_
  rotate_left
  refine wp_seq' (wp_r (by simp [push_cast]; exact rfl) ?_)
  refine wp_block' (wp_loop_m (rtS N H t T l3 l7 l8) (fun z => as_.length - z.i) (fun z => RtOk z as_.length) ⟨0, x0, y0, [], [], us0, V1, .slice none 0 0, .slice none 0 0⟩ ?_ ⟨hT0, ou0, by simp only; omega, by simp, by simp, by simp, by simp⟩ ?_)
  · refine Le.trans (Le.nilField (b := N + 7) (j := N + 1) (l := l7) (n := 2) (v := .arr 1 [.lit (.slice none 0 0), .lit (.slice none 0 0)]) (v' := .arr 1 [.own (N + 1) (.slice none 0 0), .lit (.slice none 0 0)]) (by simp only [AS.blk, g1]; rfl) (AVle.ar1 (AVle.nil _) (AVle.refl _)) (by simp only [AS.blk, g1]; rfl) (by simp [gN]) (by simp [gN]) 45 68) ?_
    simp only [g2]
    refine Le.trans (Le.nilField (b := N + 7) (j := N + 2) (l := l7) (n := 2) (v := .arr 1 [.own (N + 1) (.slice none 0 0), .lit (.slice none 0 0)]) (v' := .arr 1 [.own (N + 1) (.slice none 0 0), .own (N + 2) (.slice none 0 0)]) (by simp only [AS.blk, g1]; rfl) (AVle.ar1 (AVle.refl _) (AVle.ar1 (AVle.nil _) (AVle.refl _))) (by simp only [AS.blk, g1]; rfl) (by simp [gN]) (by simp [gN]) 45 68) (Le.mk rfl (by simp [rtS, leT]) ?_)
    simp only [g2, rtS, rtL]
    exact leH_app (leH_refl _) (by simp [leH, freeS])
  clear hT0 ou0 lu0 kp
  rotate_left
  · rintro ⟨i, x, y, l0, l1, ts, V2, Va, Vb⟩ hz
    unfold rtS rtL
    simp only
    refine wp_sg ?_
    refine areg_ca (by simp [AS.ev, AS.coe, AS.put] <;> exact rfl) al ?_
    refine areg_end (by simp [push_cast]; exact rfl) (wp_ret' ?_)
    exact fin_tmp (by simp [RVal, AS.ev, AS.coe]) (by simp)
  rintro ⟨i, x, y, l0, l1, ts, V2, Va, Vb⟩ hz
  have hz0 := hz
  obtain ⟨hT, hts, hl, i1, i2, c0, c1⟩ := hz
  simp only at hT hts hl i1 i2 c0 c1 ⊢
  unfold rtS rtL
  simp only
  have k7 : key7.length = 32 := rfl
  by_cases hlt : i < as_.length ∧ i < 60
  · obtain ⟨h1, h2⟩ := hlt
    obtain ⟨act, ha⟩ : ∃ a, as_[i]? = some a := ⟨_, List.getElem?_eq_getElem h1⟩
    have e1 := hTg i act ha
    have e2 : ∀ h, T[i]'h = AV.st [1, 1] [.lit (.int .i64 act.1), .lit (.int .i64 act.2)] := fun h => by rw [List.getElem?_eq_getElem h] at e1; exact Option.some.inj e1
    obtain ⟨m, hm, hcm⟩ := cvt_iu act.1
    obtain ⟨mN, hmN, hcn⟩ := cvt_iu act.2
    have hcr := cvt_uj2 (m % 2) (by omega)
    have q1 : i + 1 < 9223372036854775808 := by omega
    have hci : cvtA .u64 (.lit (jn i)) = some (.lit (un i)) := by rw [cvt_64j, Nat.mod_eq_of_lt (by omega)]
    have cD := digsR_call i (by omega)
    have hdl := digs_len i
    have b1 : binVal .add (tx [109]) (tx (digs i)) = some (tx (109 :: digs i)) := bin_adds _ _ (by simp only [List.length_cons, List.length_nil]; omega)
    have b2 : binVal .add (tx [116]) (tx (digs i)) = some (tx (116 :: digs i)) := bin_adds _ _ (by simp only [List.length_cons, List.length_nil]; omega)
    refine wp_seq' (wp_sr (by simp [push_cast, hTl, h1, h2]; exact rfl) ?_)
    refine wp_cond_t (by simp [AS.ev]) (wp_skip' ?_)
    refine wp_seqM (fun z : RtT => rtS N H t T l3 l7 l8 { z with i := i }) (fun z => RtOk { z with i := i + 1 } as_.length) ?_ ?_
    · rintro ⟨i', x', y', l0', l1', ts', V', Va', Vb'⟩ hz'
      unfold rtS rtL
      simp only
      refine wp_r (by simp [push_cast, q1]; exact rfl) ?_
      exact Exists.intro ⟨i + 1, x', y', l0', l1', ts', V', Va', Vb'⟩ ⟨hz', by simp only; omega, Le.mk rfl (by simp [rtS, leT]) (leH_refl _)⟩
    have hskp : ∃ z : RtT, RtOk { z with i := i + 1 } as_.length ∧ z.x = x ∧ z.y = y ∧ z.l0 = l0 ∧ z.l1 = l1 ∧ z.ts = ts ∧ z.V = V2 ∧ z.Va = Va ∧ z.Vb = Vb := ⟨⟨i, x, y, l0, l1, ts, V2, Va, Vb⟩, ⟨hT.up, hts, by simp only; omega, by simp only; omega, by simp only; omega, by simp only; omega, by simp only; omega⟩, rfl, rfl, rfl, rfl, rfl, rfl, rfl, rfl⟩
    refine wp_block' (wp_sg ?_)
    refine areg_run 4 (by simp [push_cast, e1, e2, h1, hTl]; exact rfl) ?_
    refine areg_al' rfl fun l10 => areg_end (by simp [push_cast, g1, g2]; exact rfl) ?_
    refine wp_sr (by simp [push_cast, g1, hcm, hcr]; exact rfl) ?_
    refine wp_seq' (wp_seq' (wp_r (by simp [push_cast, g1, hcm]; exact rfl) ?_))
    have hm2 : m % 2 = 0 ∨ m % 2 = 1 := by omega
    generalize hM0 : l0.map mgA = M0 at *
    generalize hM1 : l1.map mgA = M1 at *
    have hl0 : M0.length = l0.length := by rw [← hM0]; exact List.length_map _
    have hl1 : M1.length = l1.length := by rw [← hM1]; exact List.length_map _
    by_cases h4 : m % 4 < 2
    · refine wp_cond_t (by simp [AS.ev, h4]) ?_
      rcases hm2 with hm2 | hm2 <;> rw [hm2]
      · have hsu : binVal .sub (jn 1) (jn 0) = some (jn 1) := rfl
        have hS := hT
        refine wp_sr (by simp [push_cast]; exact rfl) ?_
        refine wp_seq' (wp_seq' (wp_r (by simp [push_cast]; exact rfl) ?_))
        refine wp_block' (wp_loop_m (fun j => rtJ N H t T l3 l7 l8 i x y M0 M1 ts V2 Va Vb 0 ((l1.take j).countP fun m => !m.had) j) (fun j => l1.length - j) (fun j => j ≤ l1.length) 0 ?_ (by simp) ?_)
        · simp only [rtJ, List.take_zero, List.countP_nil, rtL]
          exact Le.mk rfl (by simp [leT]) (leH_app (leH_refl _) (by simp [leH]))
        intro j hj
        unfold rtJ rtL
        simp only
        by_cases hjl : j < l1.length
        · obtain ⟨mj, hmj⟩ : ∃ mj, l1[j]? = some mj := ⟨_, List.getElem?_eq_getElem hjl⟩
          have j1 : M1[j]? = some (AV.st [34, 1, 32, 1] [headA mj.h, .lit (tx mj.body), keyA mj.sec, .lit (.bool mj.had)]) := by rw [← hM1, List.getElem?_map, hmj]; rfl
          have j2 : ∀ h, M1[j]'h = AV.st [34, 1, 32, 1] [headA mj.h, .lit (tx mj.body), keyA mj.sec, .lit (.bool mj.had)] := fun h => by rw [List.getElem?_eq_getElem h] at j1; exact Option.some.inj j1
          have j3 : j + 1 < 9223372036854775808 := by omega
          have hcs := cnt_succ (p := fun m : MgV => !m.had) hmj
          have hcl : (l1.take j).countP (fun m => !m.had) ≤ j := Nat.le_trans List.countP_le_length (by simp; omega)
          have j4 : (l1.take j).countP (fun m => !m.had) + 1 < 9223372036854775808 := by omega
          generalize (l1.take j).countP (fun m => !m.had) = c at *
          refine wp_seq' (wp_sr (by simp [push_cast, g1, hsu, hl1, hjl]; exact rfl) ?_)
          refine wp_cond_t (by simp [AS.ev]) (wp_skip' ?_)
          refine wp_seq' (wp_block' (wp_sr (by simp [push_cast, g1, hsu, hl1, hjl, j1, j2]; exact rfl) ?_))
          cases hh' : mj.had with
          | true =>
            rw [hh'] at hcs
            refine wp_cond_f (by simp [AS.ev, hh']) (wp_skip' ?_)
            refine wp_r (by simp [push_cast, j3]; exact rfl) ?_
            refine Exists.intro (j + 1) ⟨by omega, by omega, ?_⟩
            rw [hcs]
            exact Le.mk rfl (by simp [rtJ, leT]) (leH_refl _)
          | false =>
            rw [hh'] at hcs
            refine wp_cond_t (by simp [AS.ev, hh']) (wp_r (by simp [push_cast, j4]; exact rfl) ?_)
            refine wp_r (by simp [push_cast, j3]; exact rfl) ?_
            refine Exists.intro (j + 1) ⟨by omega, by omega, ?_⟩
            rw [hcs]
            exact Le.mk rfl (by simp [rtJ, leT]) (leH_refl _)
        · have hje : j = l1.length := by omega
          subst hje
          rw [List.take_length]
          refine wp_seq' (wp_sr (by simp [push_cast, g1, hsu, hl1]; exact rfl) ?_)
          refine wp_cond_f (by simp [AS.ev]) (wp_exit' (if_hit rfl ?_))
          have hcl : l1.countP (fun m => !m.had) ≤ l1.length := List.countP_le_length
          generalize hcc : l1.countP (fun m => !m.had) = c at *
          by_cases hc15 : 15 ≤ c
          · refine wp_seq' (wp_seq' (wp_r (by simp [push_cast, hc15]; exact rfl) ?_))
            refine wp_cond_t (by simp [AS.ev]) (wp_exit' (if_hit rfl ?_))
            obtain ⟨z, hzo, rfl, rfl, rfl, rfl, rfl, rfl, rfl, rfl⟩ := hskp
            exact ⟨z, hzo, Le.mk rfl (by simp [rtS, leT]) (by simp only [rtS, rtL, hM0, hM1]; exact leH_refl _)⟩
          · refine wp_seq' (wp_seq' (wp_r (by simp [push_cast, hc15]; exact rfl) ?_))
            refine wp_cond_f (by simp [AS.ev]) (wp_skip' ?_)
            have kd := draw_k hh (ts := ts) (by omega) (s := 109 :: digs i) (by simp; omega)
            have n1 := Nm.put ts (drawT (109 :: digs i))
            have n2 := put_pre ts (drawT (109 :: digs i))
            have n3 := hts.draw (s := 109 :: digs i) (by simp; omega) (by omega)
            have n4 := putT_len ts (drawT (109 :: digs i))
            generalize nameK (putN ts (drawT (109 :: digs i))) = sec at *
            generalize putT ts (drawT (109 :: digs i)) = tA at *
            have hse := n1.len
            obtain ⟨x1, ts1, x2, h, body, us, d1, d2, d3, d4, d5, d6, d7, d8, d9, gg, gn, d10⟩ := talk_send n3 (by omega) (i := i) (by omega) (by decide) (by decide) (by decide) (hS.mono n2) (by omega) (sec := sec) hse
            obtain ⟨hsx, _, _⟩ := talk_fitS (hS.mono n2)
            have ks := send_k hh (ts := tA) (by omega) hsx (draw := 116 :: digs i) (by simp; omega) k7 (ks := [sec]) (by simp) (by simp [hse]) d1 d2 (by omega) d4 d5 d6
            have hhp : h.pub.length = 32 := talk_pub d10
            clear d1 d6
            refine wp_sg ?_
            refine areg_run 4 (by simp [push_cast, g1, freeS, hci]; exact rfl) ?_
            refine areg_cv (by simp [AS.ev, AS.coe, AS.put] <;> exact rfl) cD ?_
            refine areg_run 1 (by simp [push_cast, b1]; exact rfl) ?_
            refine areg_k [.ptr t.b t.l 0 [], .lit (tx (109 :: digs i))] hN rfl (tgt_drawS _ _ _) kd (by simp) (by simp) fun V3 => ?_
            refine areg_al' zk_eq.symm fun l14 => areg_end (by simp [push_cast, g1, g2, hse]; exact rfl) ?_
            refine wp_sg ?_
            refine areg_run 1 (by simp [push_cast, g1, freeS_sz, freeS_agg, freeS_tup]; exact rfl) ?_
            refine areg_rdp (us := [freeS t.b t.l]) rfl (mkifc_free _ _) ?_
            refine areg_run 5 (by simp [push_cast, g1, hci, sesA_st]; exact rfl) ?_
            refine areg_cv (by simp [AS.ev, AS.coe, AS.put] <;> exact rfl) cD ?_
            refine areg_run 1 (by simp [push_cast, b2]; exact rfl) ?_
            refine areg_bd (z' := keyA key7) (fill_ar rfl rfl rfl rfl rfl) ?_
            refine areg_run 1 (by simp [push_cast, g1, hse]; exact rfl) ?_
            refine areg_bsl (k := 32) (els := klA [sec]) (fill_ar rfl rfl rfl (by simp [AV.sz, AS.ev, AS.put, hse, bl_len]) rfl) ?_
            refine areg_k [freeI t.b t.l, sesA x, .lit (tx (116 :: digs i)), keyA key7, .sl 32 (klA [sec])] hN rfl (tgt_sendZ _ _ _ _ _) ks (by simp) (by simp) fun V4 => ?_
            refine areg_run 5 (by simp [push_cast]; exact rfl) ?_
            refine areg_al' (z' := zsA) (by rw [zsA, zk_eq]) fun l15 => areg_al' (z' := zhA) (by rw [zhA, zk_eq]) fun l16 => areg_end (by simp [push_cast, g1, g2, sesA_st, headA_st, zsA, zhA, zk_len]; exact rfl) ?_
            refine wp_seq' (wp_seq' (wp_r (by simp [push_cast]; exact rfl) ?_))
            refine wp_cond_f (by simp [AS.ev]) (wp_skip' ?_)
            refine wp_sr (by simp [push_cast, g1, g2]; exact rfl) ?_
            refine wp_sg ?_
            refine areg_run 9 (by simp [push_cast, g1, hsu, headA_st, hhp, hse]; exact rfl) ?_
            refine areg_bd (z' := mgA ⟨gg, gn, h, body, sec, false⟩) (fill_st rfl rfl rfl rfl (by simp [AV.sz, AS.ev, AS.put, headA_st, hhp, bl_len, keyA]) (fill_st rfl rfl rfl rfl rfl (fill_st rfl rfl rfl rfl (by simp [AV.sz, AS.ev, AS.put, hse, bl_len, keyA]) (fill_st rfl rfl rfl rfl rfl rfl)))) ?_
            refine areg_bsl (k := 68) (els := [mgA ⟨gg, gn, h, body, sec, false⟩]) (fill_ar rfl rfl rfl (by simp [AV.sz, AS.ev, AS.put, mgA]) rfl) ?_
            refine areg_ap (b := N + 2) (V := Vb) (ys := [mgA ⟨gg, gn, h, body, sec, false⟩]) rfl (by simp only [AS.blk, AS.put, g1]; rfl) (by simp [AS.ev, AS.put, AS.coe]) (by rw [hl1]; simp [maxLen]; omega) (by rw [hl1]; simp; omega) (fun V7 => ?_)
            refine areg_end (by simp [push_cast, g1, g2, hsu]; exact rfl) (wp_exit' (if_hit rfl ?_))
            have hap : M1 ++ [mgA ⟨gg, gn, h, body, sec, false⟩] = (l1 ++ [(⟨gg, gn, h, body, sec, false⟩ : MgV)]).map mgA := by rw [List.map_append, hM1]; rfl
            rw [hap]
            refine ⟨⟨i, x2, y, l0, l1 ++ [(⟨gg, gn, h, body, sec, false⟩ : MgV)], us, V4, Va, V7⟩, ⟨d10, d7, by simp only; omega, by simp only; omega, by simp only; omega, by simp; omega, by simp; omega⟩, ?_⟩
            simp only [rtS, rtL, hM0, hM1]
            refine Le.rowL (b := 7) (d := 126) (j := 2) (X' := .box l7 2 (.arr 1 [.own (N + 1) Va, .own (N + 2) V7])) (gN _ _) (by decide) (by decide) (by decide) rfl (BlkLe.box (AVle.ar1 (AVle.own _ _ _) (AVle.ar1 (AVle.own _ _ _) (AVle.refl _)))) rfl (by simp [leT]) ?_
            simp [leH, sesA_st, freeS, keyA]
      · have hsu : binVal .sub (jn 1) (jn 1) = some (jn 0) := rfl
        have hS := hT.symm
        refine wp_sr (by simp [push_cast]; exact rfl) ?_
        refine wp_seq' (wp_seq' (wp_r (by simp [push_cast]; exact rfl) ?_))
        refine wp_block' (wp_loop_m (fun j => rtJ N H t T l3 l7 l8 i x y M0 M1 ts V2 Va Vb 1 ((l0.take j).countP fun m => !m.had) j) (fun j => l0.length - j) (fun j => j ≤ l0.length) 0 ?_ (by simp) ?_)
        · simp only [rtJ, List.take_zero, List.countP_nil, rtL]
          exact Le.mk rfl (by simp [leT]) (leH_app (leH_refl _) (by simp [leH]))
        intro j hj
        unfold rtJ rtL
        simp only
        by_cases hjl : j < l0.length
        · obtain ⟨mj, hmj⟩ : ∃ mj, l0[j]? = some mj := ⟨_, List.getElem?_eq_getElem hjl⟩
          have j1 : M0[j]? = some (AV.st [34, 1, 32, 1] [headA mj.h, .lit (tx mj.body), keyA mj.sec, .lit (.bool mj.had)]) := by rw [← hM0, List.getElem?_map, hmj]; rfl
          have j2 : ∀ h, M0[j]'h = AV.st [34, 1, 32, 1] [headA mj.h, .lit (tx mj.body), keyA mj.sec, .lit (.bool mj.had)] := fun h => by rw [List.getElem?_eq_getElem h] at j1; exact Option.some.inj j1
          have j3 : j + 1 < 9223372036854775808 := by omega
          have hcs := cnt_succ (p := fun m : MgV => !m.had) hmj
          have hcl : (l0.take j).countP (fun m => !m.had) ≤ j := Nat.le_trans List.countP_le_length (by simp; omega)
          have j4 : (l0.take j).countP (fun m => !m.had) + 1 < 9223372036854775808 := by omega
          generalize (l0.take j).countP (fun m => !m.had) = c at *
          refine wp_seq' (wp_sr (by simp [push_cast, g1, hsu, hl0, hjl]; exact rfl) ?_)
          refine wp_cond_t (by simp [AS.ev]) (wp_skip' ?_)
          refine wp_seq' (wp_block' (wp_sr (by simp [push_cast, g1, hsu, hl0, hjl, j1, j2]; exact rfl) ?_))
          cases hh' : mj.had with
          | true =>
            rw [hh'] at hcs
            refine wp_cond_f (by simp [AS.ev, hh']) (wp_skip' ?_)
            refine wp_r (by simp [push_cast, j3]; exact rfl) ?_
            refine Exists.intro (j + 1) ⟨by omega, by omega, ?_⟩
            rw [hcs]
            exact Le.mk rfl (by simp [rtJ, leT]) (leH_refl _)
          | false =>
            rw [hh'] at hcs
            refine wp_cond_t (by simp [AS.ev, hh']) (wp_r (by simp [push_cast, j4]; exact rfl) ?_)
            refine wp_r (by simp [push_cast, j3]; exact rfl) ?_
            refine Exists.intro (j + 1) ⟨by omega, by omega, ?_⟩
            rw [hcs]
            exact Le.mk rfl (by simp [rtJ, leT]) (leH_refl _)
        · have hje : j = l0.length := by omega
          subst hje
          rw [List.take_length]
          refine wp_seq' (wp_sr (by simp [push_cast, g1, hsu, hl0]; exact rfl) ?_)
          refine wp_cond_f (by simp [AS.ev]) (wp_exit' (if_hit rfl ?_))
          have hcl : l0.countP (fun m => !m.had) ≤ l0.length := List.countP_le_length
          generalize hcc : l0.countP (fun m => !m.had) = c at *
          by_cases hc15 : 15 ≤ c
          · refine wp_seq' (wp_seq' (wp_r (by simp [push_cast, hc15]; exact rfl) ?_))
            refine wp_cond_t (by simp [AS.ev]) (wp_exit' (if_hit rfl ?_))
            obtain ⟨z, hzo, rfl, rfl, rfl, rfl, rfl, rfl, rfl, rfl⟩ := hskp
            exact ⟨z, hzo, Le.mk rfl (by simp [rtS, leT]) (by simp only [rtS, rtL, hM0, hM1]; exact leH_refl _)⟩
          · refine wp_seq' (wp_seq' (wp_r (by simp [push_cast, hc15]; exact rfl) ?_))
            refine wp_cond_f (by simp [AS.ev]) (wp_skip' ?_)
            have kd := draw_k hh (ts := ts) (by omega) (s := 109 :: digs i) (by simp; omega)
            have n1 := Nm.put ts (drawT (109 :: digs i))
            have n2 := put_pre ts (drawT (109 :: digs i))
            have n3 := hts.draw (s := 109 :: digs i) (by simp; omega) (by omega)
            have n4 := putT_len ts (drawT (109 :: digs i))
            generalize nameK (putN ts (drawT (109 :: digs i))) = sec at *
            generalize putT ts (drawT (109 :: digs i)) = tA at *
            have hse := n1.len
            obtain ⟨x1, ts1, x2, h, body, us, d1, d2, d3, d4, d5, d6, d7, d8, d9, gg, gn, d10⟩ := talk_send n3 (by omega) (i := i) (by omega) (by decide) (by decide) (by decide) (hS.mono n2) (by omega) (sec := sec) hse
            obtain ⟨hsx, _, _⟩ := talk_fitS (hS.mono n2)
            have ks := send_k hh (ts := tA) (by omega) hsx (draw := 116 :: digs i) (by simp; omega) k7 (ks := [sec]) (by simp) (by simp [hse]) d1 d2 (by omega) d4 d5 d6
            have hhp : h.pub.length = 32 := talk_pub d10
            clear d1 d6
            refine wp_sg ?_
            refine areg_run 4 (by simp [push_cast, g1, freeS, hci]; exact rfl) ?_
            refine areg_cv (by simp [AS.ev, AS.coe, AS.put] <;> exact rfl) cD ?_
            refine areg_run 1 (by simp [push_cast, b1]; exact rfl) ?_
            refine areg_k [.ptr t.b t.l 0 [], .lit (tx (109 :: digs i))] hN rfl (tgt_drawS _ _ _) kd (by simp) (by simp) fun V3 => ?_
            refine areg_al' zk_eq.symm fun l14 => areg_end (by simp [push_cast, g1, g2, hse]; exact rfl) ?_
            refine wp_sg ?_
            refine areg_run 1 (by simp [push_cast, g1, freeS_sz, freeS_agg, freeS_tup]; exact rfl) ?_
            refine areg_rdp (us := [freeS t.b t.l]) rfl (mkifc_free _ _) ?_
            refine areg_run 5 (by simp [push_cast, g1, hci, sesA_st]; exact rfl) ?_
            refine areg_cv (by simp [AS.ev, AS.coe, AS.put] <;> exact rfl) cD ?_
            refine areg_run 1 (by simp [push_cast, b2]; exact rfl) ?_
            refine areg_bd (z' := keyA key7) (fill_ar rfl rfl rfl rfl rfl) ?_
            refine areg_run 1 (by simp [push_cast, g1, hse]; exact rfl) ?_
            refine areg_bsl (k := 32) (els := klA [sec]) (fill_ar rfl rfl rfl (by simp [AV.sz, AS.ev, AS.put, hse, bl_len]) rfl) ?_
            refine areg_k [freeI t.b t.l, sesA y, .lit (tx (116 :: digs i)), keyA key7, .sl 32 (klA [sec])] hN rfl (tgt_sendZ _ _ _ _ _) ks (by simp) (by simp) fun V4 => ?_
            refine areg_run 5 (by simp [push_cast]; exact rfl) ?_
            refine areg_al' (z' := zsA) (by rw [zsA, zk_eq]) fun l15 => areg_al' (z' := zhA) (by rw [zhA, zk_eq]) fun l16 => areg_end (by simp [push_cast, g1, g2, sesA_st, headA_st, zsA, zhA, zk_len]; exact rfl) ?_
            refine wp_seq' (wp_seq' (wp_r (by simp [push_cast]; exact rfl) ?_))
            refine wp_cond_f (by simp [AS.ev]) (wp_skip' ?_)
            refine wp_sr (by simp [push_cast, g1, g2]; exact rfl) ?_
            refine wp_sg ?_
            refine areg_run 9 (by simp [push_cast, g1, hsu, headA_st, hhp, hse]; exact rfl) ?_
            refine areg_bd (z' := mgA ⟨gg, gn, h, body, sec, false⟩) (fill_st rfl rfl rfl rfl (by simp [AV.sz, AS.ev, AS.put, headA_st, hhp, bl_len, keyA]) (fill_st rfl rfl rfl rfl rfl (fill_st rfl rfl rfl rfl (by simp [AV.sz, AS.ev, AS.put, hse, bl_len, keyA]) (fill_st rfl rfl rfl rfl rfl rfl)))) ?_
            refine areg_bsl (k := 68) (els := [mgA ⟨gg, gn, h, body, sec, false⟩]) (fill_ar rfl rfl rfl (by simp [AV.sz, AS.ev, AS.put, mgA]) rfl) ?_
            refine areg_ap (b := N + 1) (V := Va) (ys := [mgA ⟨gg, gn, h, body, sec, false⟩]) rfl (by simp only [AS.blk, AS.put, g1]; rfl) (by simp [AS.ev, AS.put, AS.coe]) (by rw [hl0]; simp [maxLen]; omega) (by rw [hl0]; simp; omega) (fun V7 => ?_)
            refine areg_end (by simp [push_cast, g1, g2, hsu]; exact rfl) (wp_exit' (if_hit rfl ?_))
            have hap : M0 ++ [mgA ⟨gg, gn, h, body, sec, false⟩] = (l0 ++ [(⟨gg, gn, h, body, sec, false⟩ : MgV)]).map mgA := by rw [List.map_append, hM0]; rfl
            rw [hap]
            refine ⟨⟨i, x, x2, l0 ++ [(⟨gg, gn, h, body, sec, false⟩ : MgV)], l1, us, V4, V7, Vb⟩, ⟨d10.symm, d7, by simp only; omega, by simp only; omega, by simp only; omega, by simp; omega, by simp; omega⟩, ?_⟩
            simp only [rtS, rtL, hM0, hM1]
            refine Le.rowL (b := 7) (d := 126) (j := 1) (X' := .box l7 2 (.arr 1 [.own (N + 1) V7, .own (N + 2) Vb])) (gN _ _) (by decide) (by decide) (by decide) rfl (BlkLe.box (AVle.ar1 (AVle.own _ _ _) (AVle.ar1 (AVle.own _ _ _) (AVle.refl _)))) rfl (by simp [leT]) ?_
            simp [leH, sesA_st, freeS, keyA]
    · refine wp_cond_f (by simp [AS.ev, h4]) (wp_skip' ?_)
      rcases hm2 with hm2 | hm2 <;> rw [hm2]
      · have hR := hT
        by_cases hn0 : l0.length = 0
        · refine wp_seq' (wp_seq' (wp_r (by simp [push_cast, g1, hl0, hn0]; exact rfl) ?_))
          refine wp_cond_t (by simp [AS.ev]) (wp_exit' (if_hit rfl ?_))
          obtain ⟨z, hzo, rfl, rfl, rfl, rfl, rfl, rfl, rfl, rfl⟩ := hskp
          exact ⟨z, hzo, Le.mk rfl (by simp [rtS, leT]) (by simp only [rtS, rtL, hM0, hM1]; exact leH_app (leH_refl _) (by simp [leH]))⟩
        have hk : mN % l0.length < l0.length := Nat.mod_lt _ (by omega)
        have hcl : cvtA .u64 (.lit (jn l0.length)) = some (.lit (un l0.length)) := by rw [cvt_64j, Nat.mod_eq_of_lt (by omega)]
        have hrm : binVal .rem (un mN) (un l0.length) = some (un (mN % l0.length)) := bin_rem64 _ _ (by omega)
        have hcb := cvt_uj2 (mN % l0.length) (by omega)
        obtain ⟨mk, hmk⟩ : ∃ mk, l0[mN % l0.length]? = some mk := ⟨_, List.getElem?_eq_getElem hk⟩
        generalize hkk : mN % l0.length = k at *
        have hml := List.mem_of_getElem? hmk
        obtain ⟨f1, f2, f3, f4, f5, f6, f7, f8, f9, f10⟩ := talk_fit hts (by omega) (by decide) hR hml
        have j1 : M0[k]? = some (AV.st [34, 1, 32, 1] [headA mk.h, .lit (tx mk.body), keyA mk.sec, .lit (.bool mk.had)]) := by rw [← hM0, List.getElem?_map, hmk]; rfl
        have j2 : ∀ h, M0[k]'h = AV.st [34, 1, 32, 1] [headA mk.h, .lit (tx mk.body), keyA mk.sec, .lit (.bool mk.had)] := fun h => by rw [List.getElem?_eq_getElem h] at j1; exact Option.some.inj j1
        have hst : M0.set k (AV.st [34, 1, 32, 1] [headA mk.h, .lit (tx mk.body), keyA mk.sec, .lit (.bool true)]) = (l0.set k { mk with had := true }).map mgA := by rw [List.map_set, hM0]; rfl
        refine wp_seq' (wp_seq' (wp_r (by simp [push_cast, g1, hl0, hn0]; exact rfl) ?_))
        refine wp_cond_f (by simp [AS.ev]) (wp_skip' ?_)
        refine wp_sr (by simp [push_cast, g1, hl0, hcn, hcl, hrm, hcb]; exact rfl) ?_
        refine wp_sg ?_
        refine areg_run 6 (by simp [push_cast, g1, hl0, hk, j1, j2, f4, f9, headA_st]; exact rfl) ?_
        refine areg_al' (z' := zmA) (by rw [zmA, zhA, zk_eq]) fun l20 => areg_end (by simp [push_cast, g1, g2, zmA, zhA, f4, f9, headA_st]; exact rfl) ?_
        cases hh' : mk.had with
        | false =>
          obtain ⟨x2, r1, r2⟩ := talk_new hts (by omega) (by decide) hR hmk hh'
          have kr := rcv_k hh hts (by omega) f1 f2 f3 f4 f5 f6 f7 k7 (by omega) f10 r1
          have ek := eq_key f9 f9
          rw [decide_eq_true rfl] at ek
          unfold rcvA at kr
          simp only at kr
          have klA1 : klA [mk.sec] = [keyA mk.sec] := rfl
          clear r1 f10
          refine wp_sg ?_
          refine areg_run 1 (by simp [push_cast, g1, freeS_sz, freeS_agg, freeS_tup]; exact rfl) ?_
          refine areg_rdp (us := [freeS t.b t.l]) rfl (mkifc_free _ _) ?_
          refine areg_run 5 (by simp [push_cast, g1, sesA_st, headA_st]; exact rfl) ?_
          refine areg_bd (z' := keyA key7) (fill_ar rfl rfl rfl rfl rfl) ?_
          refine areg_run 2 (by simp [push_cast, g1]; exact rfl) ?_
          refine areg_k [freeI t.b t.l, sesA x, headA mk.h, keyA key7, .lit (tx mk.body)] hN rfl (tgt_rcvZ _ _ _ _ _) kr (by simp) (by simp) fun V5 => ?_
          refine areg_run 4 (by simp [push_cast]; exact rfl) ?_
          refine areg_al' (z' := zsA) (by rw [zsA, zk_eq]) fun l21 => areg_end (by simp [push_cast, g1, g2, sesA_st, zsA, zk_len]; exact rfl) ?_
          rw [klA1]
          refine wp_seq' (wp_seq' (wp_rg ?_))
          (repeat (first | (with_reducible apply areg_ng); focus (simp [AS.ev, AS.put, g1, hh', f9]; done) | (with_reducible apply areg_nt); focus (simp [AS.ev, AS.put, g1, hh', f9]; done) | (with_reducible apply areg_g); focus (simp [AS.ev, AS.put, g1, hh', f9]; done) | with_reducible apply areg_mv | (with_reducible apply areg_pkT); focus (simp [AS.ev, AS.put, g1, hh', f9]; done) | (with_reducible apply areg_pkF); focus (simp [AS.ev, AS.put, g1, hh', f9]; done) | (with_reducible apply areg_op); focus (simp [push_cast, g1, hh', f9]; exact rfl)))
          refine areg_eq (by simp [AS.ev, AS.put] <;> exact rfl) (by simp [AS.ev, AS.put] <;> exact rfl) ek rfl rfl ?_
          (repeat (first | (with_reducible apply areg_ng); focus (simp [AS.ev, AS.put]; done) | (with_reducible apply areg_nt); focus (simp [AS.ev, AS.put]; done) | (with_reducible apply areg_g); focus (simp [AS.ev, AS.put]; done) | with_reducible apply areg_mv | (with_reducible apply areg_pkT); focus (simp [AS.ev, AS.put]; done) | (with_reducible apply areg_pkF); focus (simp [AS.ev, AS.put]; done) | (with_reducible apply areg_op); focus (simp [push_cast]; exact rfl)))
          refine areg_nil (wp_cond_f (by simp [AS.ev, AS.put]) (wp_skip' ?_))
          refine wp_sr (by simp [push_cast, g1, g2, sesA_st]; exact rfl) ?_
          refine wp_r (by simp [push_cast, g1, g2, hl0, hk, j1, j2, f4, f9, headA_st]; exact rfl) ?_
          refine ⟨⟨i, x2, y, l0.set k { mk with had := true }, l1, ts, V5, Va, Vb⟩, ⟨r2.up, hts, by simp only; omega, by simp only; omega, by simp only; omega, by simp; omega, by simp; omega⟩, Le.mk rfl (by simp [rtS, leT]) ?_⟩
          simp only [rtS, rtL, hM1, ← hst]
          exact leH_cat _ (by simp [leH, sesA_st, freeS, headA_st, keyA])
        | true =>
          obtain ⟨e, us, r1, r2, r3, r4, r5, r6⟩ := talk_old hts (by omega) (by omega) (by decide) hR hmk hh'
          have kr := rcv_k hh hts (by omega) f1 f2 f3 f4 f5 f6 f7 k7 (by omega) f10 r1
          have hsm := same_call f1
          have he0 : ¬ e = 0 := by omega
          unfold rcvA at kr
          simp only at kr
          clear r1 f10
          refine wp_sg ?_
          refine areg_run 1 (by simp [push_cast, g1, freeS_sz, freeS_agg, freeS_tup]; exact rfl) ?_
          refine areg_rdp (us := [freeS t.b t.l]) rfl (mkifc_free _ _) ?_
          refine areg_run 5 (by simp [push_cast, g1, sesA_st, headA_st]; exact rfl) ?_
          refine areg_bd (z' := keyA key7) (fill_ar rfl rfl rfl rfl rfl) ?_
          refine areg_run 2 (by simp [push_cast, g1]; exact rfl) ?_
          refine areg_k [freeI t.b t.l, sesA x, headA mk.h, keyA key7, .lit (tx mk.body)] hN rfl (tgt_rcvZ _ _ _ _ _) kr (by simp) (by simp) fun V5 => ?_
          refine areg_run 4 (by simp [push_cast]; exact rfl) ?_
          refine areg_al' (z' := zsA) (by rw [zsA, zk_eq]) fun l21 => areg_end (by simp [push_cast, g1, g2, sesA_st, zsA, zk_len]; exact rfl) ?_
          refine wp_seq' (wp_seq' (wp_rg ?_))
          (repeat (first | (with_reducible apply areg_ng); focus (simp [AS.ev, AS.put, g1, hh', he0, sesA_st]; done) | (with_reducible apply areg_nt); focus (simp [AS.ev, AS.put, g1, hh', he0, sesA_st]; done) | (with_reducible apply areg_g); focus (simp [AS.ev, AS.put, g1, hh', he0, sesA_st]; done) | with_reducible apply areg_mv | (with_reducible apply areg_pkT); focus (simp [AS.ev, AS.put, g1, hh', he0, sesA_st]; done) | (with_reducible apply areg_pkF); focus (simp [AS.ev, AS.put, g1, hh', he0, sesA_st]; done) | (with_reducible apply areg_op); focus (simp [push_cast, g1, hh', he0, sesA_st]; exact rfl)))
          refine areg_cv (by simp [AS.ev, AS.coe, AS.put] <;> exact rfl) hsm ?_
          (repeat (first | (with_reducible apply areg_ng); focus (simp [AS.ev, AS.put]; done) | (with_reducible apply areg_nt); focus (simp [AS.ev, AS.put]; done) | (with_reducible apply areg_g); focus (simp [AS.ev, AS.put]; done) | with_reducible apply areg_mv | (with_reducible apply areg_pkT); focus (simp [AS.ev, AS.put]; done) | (with_reducible apply areg_pkF); focus (simp [AS.ev, AS.put]; done) | (with_reducible apply areg_op); focus (simp [push_cast]; exact rfl)))
          refine areg_nil (wp_cond_f (by simp [AS.ev, AS.put]) (wp_skip' ?_))
          refine wp_sr (by simp [push_cast, g1, g2, sesA_st]; exact rfl) ?_
          refine wp_r (by simp [push_cast, g1, g2, hl0, hk, j1, j2, f4, f9, headA_st]; exact rfl) ?_
          refine ⟨⟨i, x, y, l0.set k { mk with had := true }, l1, us, V5, Va, Vb⟩, ⟨((hR.mono r4).set_had hmk hh').up, r5, by simp only; omega, by simp only; omega, by simp only; omega, by simp; omega, by simp; omega⟩, Le.mk rfl (by simp [rtS, leT]) ?_⟩
          simp only [rtS, rtL, hM1, ← hst]
          exact leH_cat _ (by simp [leH, sesA_st, freeS, headA_st, keyA])
      · have hR := hT.symm
        by_cases hn0 : l1.length = 0
        · refine wp_seq' (wp_seq' (wp_r (by simp [push_cast, g1, hl1, hn0]; exact rfl) ?_))
          refine wp_cond_t (by simp [AS.ev]) (wp_exit' (if_hit rfl ?_))
          obtain ⟨z, hzo, rfl, rfl, rfl, rfl, rfl, rfl, rfl, rfl⟩ := hskp
          exact ⟨z, hzo, Le.mk rfl (by simp [rtS, leT]) (by simp only [rtS, rtL, hM0, hM1]; exact leH_app (leH_refl _) (by simp [leH]))⟩
        have hk : mN % l1.length < l1.length := Nat.mod_lt _ (by omega)
        have hcl : cvtA .u64 (.lit (jn l1.length)) = some (.lit (un l1.length)) := by rw [cvt_64j, Nat.mod_eq_of_lt (by omega)]
        have hrm : binVal .rem (un mN) (un l1.length) = some (un (mN % l1.length)) := bin_rem64 _ _ (by omega)
        have hcb := cvt_uj2 (mN % l1.length) (by omega)
        obtain ⟨mk, hmk⟩ : ∃ mk, l1[mN % l1.length]? = some mk := ⟨_, List.getElem?_eq_getElem hk⟩
        generalize hkk : mN % l1.length = k at *
        have hml := List.mem_of_getElem? hmk
        obtain ⟨f1, f2, f3, f4, f5, f6, f7, f8, f9, f10⟩ := talk_fit hts (by omega) (by decide) hR hml
        have j1 : M1[k]? = some (AV.st [34, 1, 32, 1] [headA mk.h, .lit (tx mk.body), keyA mk.sec, .lit (.bool mk.had)]) := by rw [← hM1, List.getElem?_map, hmk]; rfl
        have j2 : ∀ h, M1[k]'h = AV.st [34, 1, 32, 1] [headA mk.h, .lit (tx mk.body), keyA mk.sec, .lit (.bool mk.had)] := fun h => by rw [List.getElem?_eq_getElem h] at j1; exact Option.some.inj j1
        have hst : M1.set k (AV.st [34, 1, 32, 1] [headA mk.h, .lit (tx mk.body), keyA mk.sec, .lit (.bool true)]) = (l1.set k { mk with had := true }).map mgA := by rw [List.map_set, hM1]; rfl
        refine wp_seq' (wp_seq' (wp_r (by simp [push_cast, g1, hl1, hn0]; exact rfl) ?_))
        refine wp_cond_f (by simp [AS.ev]) (wp_skip' ?_)
        refine wp_sr (by simp [push_cast, g1, hl1, hcn, hcl, hrm, hcb]; exact rfl) ?_
        refine wp_sg ?_
        refine areg_run 6 (by simp [push_cast, g1, hl1, hk, j1, j2, f4, f9, headA_st]; exact rfl) ?_
        refine areg_al' (z' := zmA) (by rw [zmA, zhA, zk_eq]) fun l20 => areg_end (by simp [push_cast, g1, g2, zmA, zhA, f4, f9, headA_st]; exact rfl) ?_
        cases hh' : mk.had with
        | false =>
          obtain ⟨x2, r1, r2⟩ := talk_new hts (by omega) (by decide) hR hmk hh'
          have kr := rcv_k hh hts (by omega) f1 f2 f3 f4 f5 f6 f7 k7 (by omega) f10 r1
          have ek := eq_key f9 f9
          rw [decide_eq_true rfl] at ek
          unfold rcvA at kr
          simp only at kr
          have klA1 : klA [mk.sec] = [keyA mk.sec] := rfl
          clear r1 f10
          refine wp_sg ?_
          refine areg_run 1 (by simp [push_cast, g1, freeS_sz, freeS_agg, freeS_tup]; exact rfl) ?_
          refine areg_rdp (us := [freeS t.b t.l]) rfl (mkifc_free _ _) ?_
          refine areg_run 5 (by simp [push_cast, g1, sesA_st, headA_st]; exact rfl) ?_
          refine areg_bd (z' := keyA key7) (fill_ar rfl rfl rfl rfl rfl) ?_
          refine areg_run 2 (by simp [push_cast, g1]; exact rfl) ?_
          refine areg_k [freeI t.b t.l, sesA y, headA mk.h, keyA key7, .lit (tx mk.body)] hN rfl (tgt_rcvZ _ _ _ _ _) kr (by simp) (by simp) fun V5 => ?_
          refine areg_run 4 (by simp [push_cast]; exact rfl) ?_
          refine areg_al' (z' := zsA) (by rw [zsA, zk_eq]) fun l21 => areg_end (by simp [push_cast, g1, g2, sesA_st, zsA, zk_len]; exact rfl) ?_
          rw [klA1]
          refine wp_seq' (wp_seq' (wp_rg ?_))
          (repeat (first | (with_reducible apply areg_ng); focus (simp [AS.ev, AS.put, g1, hh', f9]; done) | (with_reducible apply areg_nt); focus (simp [AS.ev, AS.put, g1, hh', f9]; done) | (with_reducible apply areg_g); focus (simp [AS.ev, AS.put, g1, hh', f9]; done) | with_reducible apply areg_mv | (with_reducible apply areg_pkT); focus (simp [AS.ev, AS.put, g1, hh', f9]; done) | (with_reducible apply areg_pkF); focus (simp [AS.ev, AS.put, g1, hh', f9]; done) | (with_reducible apply areg_op); focus (simp [push_cast, g1, hh', f9]; exact rfl)))
          refine areg_eq (by simp [AS.ev, AS.put] <;> exact rfl) (by simp [AS.ev, AS.put] <;> exact rfl) ek rfl rfl ?_
          (repeat (first | (with_reducible apply areg_ng); focus (simp [AS.ev, AS.put]; done) | (with_reducible apply areg_nt); focus (simp [AS.ev, AS.put]; done) | (with_reducible apply areg_g); focus (simp [AS.ev, AS.put]; done) | with_reducible apply areg_mv | (with_reducible apply areg_pkT); focus (simp [AS.ev, AS.put]; done) | (with_reducible apply areg_pkF); focus (simp [AS.ev, AS.put]; done) | (with_reducible apply areg_op); focus (simp [push_cast]; exact rfl)))
          refine areg_nil (wp_cond_f (by simp [AS.ev, AS.put]) (wp_skip' ?_))
          refine wp_sr (by simp [push_cast, g1, g2, sesA_st]; exact rfl) ?_
          refine wp_r (by simp [push_cast, g1, g2, hl1, hk, j1, j2, f4, f9, headA_st]; exact rfl) ?_
          refine ⟨⟨i, x, x2, l0, l1.set k { mk with had := true }, ts, V5, Va, Vb⟩, ⟨r2.symm.up, hts, by simp only; omega, by simp only; omega, by simp only; omega, by simp; omega, by simp; omega⟩, Le.mk rfl (by simp [rtS, leT]) ?_⟩
          simp only [rtS, rtL, hM0, ← hst]
          exact leH_cat _ (by simp [leH, sesA_st, freeS, headA_st, keyA])
        | true =>
          obtain ⟨e, us, r1, r2, r3, r4, r5, r6⟩ := talk_old hts (by omega) (by omega) (by decide) hR hmk hh'
          have kr := rcv_k hh hts (by omega) f1 f2 f3 f4 f5 f6 f7 k7 (by omega) f10 r1
          have hsm := same_call f1
          have he0 : ¬ e = 0 := by omega
          unfold rcvA at kr
          simp only at kr
          clear r1 f10
          refine wp_sg ?_
          refine areg_run 1 (by simp [push_cast, g1, freeS_sz, freeS_agg, freeS_tup]; exact rfl) ?_
          refine areg_rdp (us := [freeS t.b t.l]) rfl (mkifc_free _ _) ?_
          refine areg_run 5 (by simp [push_cast, g1, sesA_st, headA_st]; exact rfl) ?_
          refine areg_bd (z' := keyA key7) (fill_ar rfl rfl rfl rfl rfl) ?_
          refine areg_run 2 (by simp [push_cast, g1]; exact rfl) ?_
          refine areg_k [freeI t.b t.l, sesA y, headA mk.h, keyA key7, .lit (tx mk.body)] hN rfl (tgt_rcvZ _ _ _ _ _) kr (by simp) (by simp) fun V5 => ?_
          refine areg_run 4 (by simp [push_cast]; exact rfl) ?_
          refine areg_al' (z' := zsA) (by rw [zsA, zk_eq]) fun l21 => areg_end (by simp [push_cast, g1, g2, sesA_st, zsA, zk_len]; exact rfl) ?_
          refine wp_seq' (wp_seq' (wp_rg ?_))
          (repeat (first | (with_reducible apply areg_ng); focus (simp [AS.ev, AS.put, g1, hh', he0, sesA_st]; done) | (with_reducible apply areg_nt); focus (simp [AS.ev, AS.put, g1, hh', he0, sesA_st]; done) | (with_reducible apply areg_g); focus (simp [AS.ev, AS.put, g1, hh', he0, sesA_st]; done) | with_reducible apply areg_mv | (with_reducible apply areg_pkT); focus (simp [AS.ev, AS.put, g1, hh', he0, sesA_st]; done) | (with_reducible apply areg_pkF); focus (simp [AS.ev, AS.put, g1, hh', he0, sesA_st]; done) | (with_reducible apply areg_op); focus (simp [push_cast, g1, hh', he0, sesA_st]; exact rfl)))
          refine areg_cv (by simp [AS.ev, AS.coe, AS.put] <;> exact rfl) hsm ?_
          (repeat (first | (with_reducible apply areg_ng); focus (simp [AS.ev, AS.put]; done) | (with_reducible apply areg_nt); focus (simp [AS.ev, AS.put]; done) | (with_reducible apply areg_g); focus (simp [AS.ev, AS.put]; done) | with_reducible apply areg_mv | (with_reducible apply areg_pkT); focus (simp [AS.ev, AS.put]; done) | (with_reducible apply areg_pkF); focus (simp [AS.ev, AS.put]; done) | (with_reducible apply areg_op); focus (simp [push_cast]; exact rfl)))
          refine areg_nil (wp_cond_f (by simp [AS.ev, AS.put]) (wp_skip' ?_))
          refine wp_sr (by simp [push_cast, g1, g2, sesA_st]; exact rfl) ?_
          refine wp_r (by simp [push_cast, g1, g2, hl1, hk, j1, j2, f4, f9, headA_st]; exact rfl) ?_
          refine ⟨⟨i, x, y, l0, l1.set k { mk with had := true }, us, V5, Va, Vb⟩, ⟨((hR.mono r4).set_had hmk hh').symm.up, r5, by simp only; omega, by simp only; omega, by simp only; omega, by simp; omega, by simp; omega⟩, Le.mk rfl (by simp [rtS, leT]) ?_⟩
          simp only [rtS, rtL, hM0, ← hst]
          exact leH_cat _ (by simp [leH, sesA_st, freeS, headA_st, keyA])
  · by_cases hA' : i < as_.length
    · have hB : ¬ i < 60 := fun h => hlt ⟨hA', h⟩
      refine wp_seq' (wp_sr (by simp [push_cast, hTl, hA', hB]; exact rfl) ?_)
      refine wp_cond_f (by simp [AS.ev]) (wp_exit' (if_hit rfl ?_))
      exact ⟨_, hz0, Le.mk rfl (by simp [rtS, leT]) (leH_refl _)⟩
    · refine wp_seq' (wp_sr (by simp [push_cast, hTl, hA']; exact rfl) ?_)
      refine wp_cond_f (by simp [AS.ev]) (wp_exit' (if_hit rfl ?_))
      exact ⟨_, hz0, Le.mk rfl (by simp [rtS, leT]) (leH_refl _)⟩
end Go.Cab
namespace Go.Cab
open Go.ChangeShapes Go.WideShapes Go.RowKit Go.ChangeAt
section
variable {H : Type} {enc : TypeId × Value → H} {P : Program}
theorem post_below {f : Func} {s : ChangeSpec} {apart fresh handsOn again : Bool} {W W' : World} {args : Array Value} {v : Value} {ds : List (DataW H)} {before : List MemPlace}
    (hvs : s.vars = []) (hW : DataW.Whole enc P f.params.toList s.vars apart W args.toList ds [] before)
    (hb : Below W.heap.size W W')
    (hres : ∀ (b : Nat) (sp : Nat → Bool) (hd : Bool), DataW.TrodAll enc P W' b sp hd f.resultTypes.toList (v.resultList f.resultTypes.size) (s.fn H (ds ++ [])).results [])
    (hargs : ∀ sp : Nat → Bool, (∀ p ∈ before, sp p.block = true) → DataW.TrodAll enc P W' 0 sp true f.params.toList args.toList (s.fn H (ds ++ [])).args before)
    (hvars : ∀ sp : Nat → Bool, DataW.TrodVars enc P W' sp s.vars (s.fn H (ds ++ [])).vars [])
    (hok : ∀ (j : Nat) (t : TypeId) (r : Value), f.resultTypes[j]? = some t → (v.resultList f.resultTypes.size)[j]? = some r → Value.okWide P W' .any 0 t r) :
    s.post enc P f apart fresh handsOn again W args v W' := by
  have hlt : ∀ p ∈ before, p.block < W.heap.size := fun p hp => hW.lt p hp
  refine ⟨ds, [], before, [], before, [], hW, hres _ _ _, hargs _ (fun p hp => by simpa using hlt p hp), hvars _, hb.frame _, fun _ => ?_⟩
  obtain ⟨_, _, _, _, _, hz, hn⟩ := hW
  refine ⟨hok, _, _, ([] ++ before) ++ [], ⟨[] ++ before, [], trodAll_append (hargs _ (fun _ _ => rfl)) (hres _ _ _), hvars _, rfl, fun b o hp => ?_, fun ha => ?_⟩, fun p hp _ => ?_⟩
  · have hp' : MemPlace.cell b o ∈ before := by simpa using hp
    have h1 := hz b o hp'
    rw [hb.frozen (p := ⟨b, o, none⟩) (hlt _ hp')]
    exact h1
  · simpa using hn ha
  · simpa using hp
end
end Go.Cab
namespace Go.Cab
open Go.ChangeShapes Go.WideShapes Go.RowKit
section
variable {H : Type} {enc : TypeId × Value → H} {P : Program} {W : World} {base : Nat} {sp : Nat → Bool} {held : Bool}
theorem At.app {Imm : Nat → Nat → Prop} {w : World} {b o : Nat} {c d : List Value} (h : At Imm w b o c) (k : At Imm w b (o + c.length) d) : At Imm w b o (c ++ d) := by
  intro i v hv
  by_cases hi : i < c.length
  · rw [List.getElem?_append_left hi] at hv; exact h i v hv
  · rw [List.getElem?_append_right (by omega)] at hv
    have := k (i - c.length) v hv
    rwa [show o + c.length + (i - c.length) = o + i by omega] at this
def StOf (W : World) (ps : List MemPlace) (b o : Nat) : Prop := MemPlace.cell b o ∈ ps ∧ (W.cell? ⟨b, o, none⟩).isSome = true
theorem open_sl {t k : TypeId} {c : Nat} (ht : P.underlying t = some (.slice k)) (hc : P.cellsOf k = c) (G : AV → Prop)
    (hel : ∀ (n : Nat) (cs : List Value) (x : DataW H × List MemPlace), DataW.trod enc P W base sp held n k cs = some x → cs.length = c → ∃ v, G v ∧ R (StOf W x.2) W v cs ∧ ∀ y ∈ cs, sc y = true)
    {r : Reach} {b0 : Nat} {v : Value} (hval : Value.okWide P W r b0 t v) {d : DataW H} {ps : List MemPlace} (hd : DataW.Trod enc P W base sp held t v d ps) :
    ∃ vs : List AV, (∀ u ∈ vs, G u) ∧ Rel (StOf W ps) W (.sl c vs) v := by
  obtain ⟨fuel, hf⟩ := hd
  have hv : (∃ a len cap, v = .slice a len cap) := by
    cases v <;> simp [Value.okWide, Cell.okWide, Cell.ok, ht] at hval ⊢
  obtain ⟨a0, len0, cap0, rfl⟩ := hv
  have hcs : (Value.slice a0 len0 cap0).cells.toList = [.slice a0 len0 cap0] := rfl
  rw [hcs] at hf
  rcases Go.Deep.open_slice ht hf with ⟨h1, h2⟩ | ⟨a, len, cap, m, n, D, Pl, h1, _, hle, _, hm, h2, hall⟩
  · cases h1
    exact ⟨[], by simp, .inr ⟨_, .slnil c, rfl⟩⟩
  · cases h1
    have hspot : a.spot = none := by
      simp only [Value.okWide, Cell.okWide, Cell.ok, ht] at hval
      exact hval.2.2.2.1
    have hps : ps = MemPlace.row a (m * P.cellsOf k) ++ (List.range m).flatMap Pl := congrArg Prod.snd h2
    rw [hc] at hps hall
    have hlm : len0 ≤ m := by rw [hm]; split <;> omega
    have key : ∀ q, q ≤ len0 → ∃ (vs : List AV) (cs : List Value), (∀ u ∈ vs, G u) ∧ vs.length = q ∧ cs.length = q * c ∧ R (StOf W ps) W (.arr c vs) cs ∧ At (StOf W ps) W a.block (a.off + (len0 - q) * c) cs := by
      intro q
      induction q with
      | zero => exact fun _ => ⟨[], [], by simp, rfl, by simp, .arr0 c, fun i v hv => by simp at hv⟩
      | succ q ih =>
        intro hq
        obtain ⟨vs, cs, g1, g2, g3, g4, g5⟩ := ih (by omega)
        have hi : len0 - (q + 1) < m := by omega
        obtain ⟨cs', k1, k2⟩ := hall (len0 - (q + 1)) hi
        obtain ⟨_, hl', hget⟩ := World.cells?_some k1
        obtain ⟨u, u1, u2, u3⟩ := hel n cs' _ k2 hl'
        refine ⟨u :: vs, cs' ++ cs, ?_, by simp [g2], by rw [List.length_append, hl', g3, Nat.succ_mul]; omega, .arr1 c u vs cs' cs (u2.mono (fun b o hb => ?_) (fun _ _ _ => rfl)) hl' u3 g4, At.app ?_ ?_⟩
        · intro x hx
          rcases List.mem_cons.1 hx with rfl | hx
          · exact u1
          · exact g1 x hx
        · rw [hps]
          exact ⟨List.mem_append_right _ (List.mem_flatMap.2 ⟨_, List.mem_range.2 hi, hb.1⟩), hb.2⟩
        · intro j y hy
          have hj : j < c := by rw [← hl']; exact (List.getElem?_eq_some_iff.1 hy).1
          have h3 := hget j hj
          rw [Go.Deep.add_add] at h3
          have e1 : a.add ((len0 - (q + 1)) * c + j) = ⟨a.block, a.off + (len0 - (q + 1)) * c + j, none⟩ := by
            unfold Addr.add
            split
            · rename_i h0
              obtain ⟨b, o, s⟩ := a
              simp only at hspot ⊢
              rw [hspot]; congr 1; omega
            · rw [Nat.add_assoc]
          rw [e1] at h3
          refine ⟨by rw [h3]; exact hy, ?_, by rw [h3, hy]; rfl⟩
          rw [hps]
          refine List.mem_append_left _ (MemPlace.mem_row.2 ⟨(len0 - (q + 1)) * c + j, ?_, by rw [Nat.add_assoc]⟩)
          have := Nat.mul_le_mul_right c (show len0 - (q + 1) + 1 ≤ m by omega)
          rw [Nat.succ_mul] at this
          omega
        · rw [hl']
          have e2 : a.off + (len0 - (q + 1)) * c + c = a.off + (len0 - q) * c := by
            have e3 : len0 - q = (len0 - (q + 1)) + 1 := by omega
            rw [e3, Nat.succ_mul]; omega
          rw [e2]
          exact g5
    obtain ⟨vs, cs, g1, g2, g3, g4, g5⟩ := key len0 (Nat.le_refl _)
    rw [Nat.sub_self, Nat.zero_mul, Nat.add_zero] at g5
    have ea : a = ⟨a.block, a.off, none⟩ := by obtain ⟨b, o, s⟩ := a; simp only at hspot; rw [hspot]
    refine ⟨vs, g1, .inr ⟨_, .sl c vs cs a.block a.off cap0 g4 g5 (by omega), ?_⟩⟩
    show Value.slice (some a) len0 cap0 = Value.slice (some ⟨a.block, a.off, none⟩) vs.length cap0
    rw [g2, ← ea]
theorem map_of_each {α β : Type} {f : α → β} : ∀ {l : List β}, (∀ u ∈ l, ∃ n, u = f n) → ∃ ks : List α, l = ks.map f
  | [], _ => ⟨[], rfl⟩
  | u :: l, h => by
    obtain ⟨n, rfl⟩ := h u (by simp)
    obtain ⟨ks, e⟩ := map_of_each (l := l) (fun x hx => h x (List.mem_cons_of_mem _ hx))
    exact ⟨n :: ks, by rw [e]; rfl⟩
theorem open_bytes {t e : TypeId} (ht : P.underlying t = some (.slice e)) (he : P.underlying e = some (.int .u8)) (h1 : P.cellsOf e = 1)
    {r : Reach} {b0 : Nat} {v : Value} (hval : Value.okWide P W r b0 t v) {d : DataW H} {ps : List MemPlace} (hd : DataW.Trod enc P W base sp held t v d ps) :
    ∃ bs : List Nat, (∀ n ∈ bs, n < 256) ∧ Rel (StOf W ps) W (.sl 1 (bs.map fun n => .lit (bn n))) v := by
  obtain ⟨vs, g1, g2⟩ := open_sl ht h1 (fun u => ∃ n : {n : Nat // n < 256}, u = .lit (bn n.1)) (fun n cs x hx hl => by
    obtain ⟨a, rfl, _, wa⟩ := DataW.trod_int he hx
    simp [Lit.wf, IntKind.min, IntKind.max, IntKind.signed, IntKind.bits] at wa
    refine ⟨_, ⟨⟨a.toNat, by omega⟩, rfl⟩, ?_, fun y hy => by simp at hy; rw [hy]; rfl⟩
    have : Value.int .u8 a = bn a.toNat := by unfold bn; rw [Int.toNat_of_nonneg (by omega)]
    rw [this]
    exact .lit _ rfl) hval hd
  obtain ⟨ks, rfl⟩ := map_of_each (f := fun n : {n : Nat // n < 256} => AV.lit (bn n.1)) g1
  refine ⟨ks.map (·.1), fun n hn => ?_, by rw [List.map_map]; exact g2⟩
  obtain ⟨a, _, rfl⟩ := List.mem_map.1 hn
  exact a.2
end
theorem t5 : Go.Proofs.Tryd.prog.underlying 5 = some (.int .u8) := by kernel_rfl
theorem c5 : Go.Proofs.Tryd.prog.cellsOf 5 = 1 := by kernel_rfl
end Go.Cab
namespace Go.Cab
def tabName : String := "internal/strconv.uint64pow10"
theorem tab_laid {P : Program} {l : List (String × DataW Unit)} {W : World} (hL : laidMetH P l W) (hl : (l.filter fun x => x.1 == tabName) = [(tabName, Lib.tabData .u64 Lib.pow10Tab)])
    {t e : TypeId} (hg : P.globalNamed tabName = some 0) (hty : (P.globals[0]?).map (·.type) = some t) (ht : P.underlying t = some (.array 20 e)) (he : P.underlying e = some (.int .u64)) (hce : P.cellsOf e = 1) (hct : P.cellsOf t = 20) : Lib.TabIs P W tabName .u64 Lib.pow10Tab := by
  have h := hL.filter (fun x => x.1 == tabName)
  rw [hl] at h
  exact Lib.tabIs_of_head hg hty ht he hce hct h
theorem tabOk_of {P : Program} {W : World} (hg : P.globalNamed tabName = some 0) (h : Lib.TabIs P W tabName .u64 Lib.pow10Tab) : TabOk [] W := by
  intro x hx
  simp only [laidTabs, List.mem_singleton] at hx
  subst hx
  refine ⟨?_, fun r hr => by cases hr⟩
  unfold Lib.TabIs World.var? at h
  rw [hg] at h
  simp only [Option.bind_some] at h
  split at h
  · rename_i cs t fr hc
    cases h
    exact ⟨t, fr, hc⟩
  · cases h
theorem tabOk_laid {l : List (String × DataW Unit)} {W : World} (hL : laidMetH Go.Proofs.Tryd.prog l W) (hl : (l.filter fun x => x.1 == tabName) = [(tabName, Lib.tabData .u64 Lib.pow10Tab)]) : TabOk [] W :=
  tabOk_of (by kernel_rfl) (tab_laid (t := 120) (e := 48) hL hl (by kernel_rfl) (by kernel_rfl) (by kernel_rfl) (by kernel_rfl) (by kernel_rfl) (by kernel_rfl))
end Go.Cab
namespace Go.Cab
open Go.ChangeShapes Go.WideShapes Go.RowKit Go.ChangeAt
section
variable {H : Type} {enc : TypeId × Value → H} {P : Program} {W : World} {base : Nat} {sp : Nat → Bool} {held : Bool}
theorem open_texts {t e : TypeId} (ht : P.underlying t = some (.slice e)) (he : P.underlying e = some .string) (h1 : P.cellsOf e = 1)
    {r : Reach} {b0 : Nat} {v : Value} (hval : Value.okWide P W r b0 t v) {d : DataW H} {ps : List MemPlace} (hd : DataW.Trod enc P W base sp held t v d ps) :
    ∃ bs : List (List UInt8), bs.length < 9223372036854775808 ∧ (∀ s ∈ bs, s.length < 9223372036854775808) ∧ Rel (StOf W ps) W (.sl 1 (bs.map fun s => .lit (tx s))) v := by
  obtain ⟨vs, g1, g2⟩ := open_sl ht h1 (fun u => ∃ n : {n : List UInt8 // n.length < 9223372036854775808}, u = .lit (tx n.1)) (fun n cs x hx hl => by
    obtain ⟨s, hc, hy, hs⟩ := DataW.trod_string he hx
    subst hc
    refine ⟨_, ⟨⟨s.data.toList, ?_⟩, rfl⟩, .lit _ rfl, fun y hy => by simp at hy; rw [hy]; rfl⟩
    have e : s.data.toList.length = s.size := by rw [Array.length_toList]; rfl
    rw [e]
    unfold maxLen at hs
    omega) hval hd
  obtain ⟨ks, rfl⟩ := map_of_each (f := fun n : {n : List UInt8 // n.length < 9223372036854775808} => AV.lit (tx n.1)) g1
  refine ⟨ks.map (·.1), ?_, fun n hn => ?_, by rw [List.map_map]; exact g2⟩
  · rcases R.slLen g2 with ⟨_, _, h⟩ | ⟨b, off, cap, cs, hv, hl, _⟩
    · rw [List.length_map, List.map_eq_nil_iff.1 h]; simp
    · subst hv
      simp only [Value.okWide, Cell.okWide, Cell.ok, ht] at hval
      obtain ⟨h2, h3, _⟩ := hval
      rw [List.length_map] at h2 ⊢
      simp [IntKind.max, IntKind.signed, IntKind.bits] at h3
      omega
  · obtain ⟨a, _, rfl⟩ := List.mem_map.1 hn
    exact a.2
end
end Go.Cab
namespace Go.Cab
open Go.ChangeShapes Go.WideShapes Go.RowKit Go.ChangeAt
section
variable {H : Type} {enc : TypeId × Value → H} {P : Program} {W : World} {base : Nat} {held : Bool}
def Opens (enc : TypeId × Value → H) (P : Program) (W : World) (base : Nat) (held : Bool) (t : TypeId) (c : Nat) (G : AV → Prop) : Prop :=
  P.cellsOf t = c ∧ ∀ (n : Nat) (cs : List Value) (x : DataW H × List MemPlace), DataW.trod enc P W base (fun _ => true) held n t cs = some x →
    ∃ v, G v ∧ R (StOf W x.2) W v cs ∧ cs.length = c ∧ ∀ y ∈ cs, sc y = true
theorem Opens.mono {t : TypeId} {c : Nat} {G G' : AV → Prop} (h : Opens enc P W base held t c G) (k : ∀ v, G v → G' v) : Opens enc P W base held t c G' :=
  ⟨h.1, fun n cs x hx => by obtain ⟨v, h1, h2⟩ := h.2 n cs x hx; exact ⟨v, k v h1, h2⟩⟩
theorem Opens.int {t : TypeId} {k : IntKind} (ht : P.underlying t = some (.int k)) (hc : P.cellsOf t = 1) : Opens enc P W base held t 1 fun v => ∃ n : Int, (Lit.int k n).wf = true ∧ v = .lit (.int k n) :=
  ⟨hc, fun n cs x hx => by
    obtain ⟨a, rfl, _, wa⟩ := DataW.trod_int ht hx
    exact ⟨_, ⟨a, wa, rfl⟩, .lit _ rfl, rfl, fun y hy => by simp at hy; rw [hy]; rfl⟩⟩
theorem Opens.bool {t : TypeId} (ht : P.underlying t = some .bool) (hc : P.cellsOf t = 1) : Opens enc P W base held t 1 fun v => ∃ b : Bool, v = .lit (.bool b) :=
  ⟨hc, fun n cs x hx => by
    obtain ⟨a, rfl, _⟩ := DataW.trod_bool ht hx
    exact ⟨_, ⟨a, rfl⟩, .lit _ rfl, rfl, fun y hy => by simp at hy; rw [hy]; rfl⟩⟩
theorem Opens.text {t : TypeId} (ht : P.underlying t = some .string) (hc : P.cellsOf t = 1) : Opens enc P W base held t 1 fun v => ∃ s : List UInt8, s.length < 9223372036854775808 ∧ v = .lit (tx s) :=
  ⟨hc, fun n cs x hx => by
    obtain ⟨s, rfl, _, hs⟩ := DataW.trod_string ht hx
    refine ⟨_, ⟨s.data.toList, ?_, rfl⟩, .lit _ rfl, rfl, fun y hy => by simp at hy; rw [hy]; rfl⟩
    have e : s.data.toList.length = s.size := by rw [Array.length_toList]; rfl
    rw [e]
    unfold maxLen at hs
    omega⟩
theorem stOf_sub {ps qs : List MemPlace} (h : ∀ p ∈ ps, p ∈ qs) {v : AV} {cs : List Value} (k : R (StOf W ps) W v cs) : R (StOf W qs) W v cs :=
  k.mono (fun _ _ hb => ⟨h _ hb.1, hb.2⟩) (fun _ _ _ => rfl)
theorem Opens.arr {t e : TypeId} {n c : Nat} {G : AV → Prop} (ht : P.underlying t = some (.array n e)) (hc : P.cellsOf t = n * c) (he : Opens enc P W base held e c G) :
    Opens enc P W base held t (n * c) fun v => ∃ vs : List AV, vs.length = n ∧ (∀ u ∈ vs, G u) ∧ v = .arr c vs := by
  refine ⟨hc, fun N cs x hx => ?_⟩
  obtain ⟨xs, m, _, rfl, hl, hxl, hel⟩ := DataW.trod_array ht hx
  rw [hc] at hl
  rw [he.1] at hel
  have key : ∀ q, q ≤ n → ∃ vs : List AV, vs.length = q ∧ (∀ u ∈ vs, G u) ∧ R (StOf W (xs.flatMap (·.2))) W (.arr c vs) (cs.drop ((n - q) * c)) ∧ ∀ y ∈ cs.drop ((n - q) * c), sc y = true := by
    intro q
    induction q with
    | zero => 
      intro _
      have e : cs.drop ((n - 0) * c) = [] := List.drop_eq_nil_of_le (by rw [hl]; exact Nat.le_refl _)
      rw [e]
      exact ⟨[], rfl, by simp, .arr0 c, by simp⟩
    | succ q ih =>
      intro hq
      obtain ⟨vs, g1, g2, g3, g4⟩ := ih (by omega)
      have hi : n - (q + 1) < n := by omega
      have h1 := hel _ hi
      rw [List.getElem?_eq_getElem (by omega)] at h1
      obtain ⟨u, u1, u2, u3, u4⟩ := he.2 _ _ _ h1
      have e1 : n - q = (n - (q + 1)) + 1 := by omega
      have e2 : cs.drop ((n - (q + 1)) * c) = (cs.drop ((n - (q + 1)) * c)).take c ++ cs.drop ((n - q) * c) := by
        rw [e1, Nat.succ_mul, ← List.drop_drop, List.take_append_drop]
      rw [e2]
      refine ⟨u :: vs, by simp [g1], fun y hy => ?_, .arr1 c u vs _ _ (stOf_sub (fun p hp => List.mem_flatMap.2 ⟨_, List.getElem_mem _, hp⟩) u2) u3 u4 g3, fun y hy => ?_⟩
      · rcases List.mem_cons.1 hy with rfl | hy
        · exact u1
        · exact g2 y hy
      · rcases List.mem_append.1 hy with hy | hy
        · exact u4 y hy
        · exact g4 y hy
  obtain ⟨vs, g1, g2, g3, g4⟩ := key n (Nat.le_refl _)
  rw [Nat.sub_self, Nat.zero_mul, List.drop_zero] at g3 g4
  exact ⟨_, ⟨vs, g1, g2, rfl⟩, g3, hl, g4⟩
theorem Opens.list {t e : TypeId} {c : Nat} {G : AV → Prop} (ht : P.underlying t = some (.slice e)) (hc : P.cellsOf t = 1) (h0 : 0 < c) (he : Opens enc P W base held e c G) :
    Opens enc P W base held t 1 fun v => ∃ vs : List AV, vs.length < 9223372036854775808 ∧ (∀ u ∈ vs, G u) ∧ v = .sl c vs := by
  refine ⟨hc, fun N cs x hx => ?_⟩
  rcases Go.Deep.open_slice ht hx with ⟨rfl, rfl⟩ | ⟨a, len, cap, m, n, D, Pl, rfl, _, hle, hcm, hm, rfl, hall⟩
  · exact ⟨_, ⟨[], by simp, by simp, rfl⟩, .slnil c, rfl, fun y hy => by simp at hy; rw [hy]; rfl⟩
  · simp only [if_true] at hm
    subst hm
    by_cases hcap : m = 0
    · subst hcap
      have : len = 0 := by omega
      subst this
      exact ⟨_, ⟨[], by simp, by simp, rfl⟩, .slnil c (some a), rfl, fun y hy => by simp at hy; rw [hy]; rfl⟩
    have hspot : a.spot = none := by
      obtain ⟨cs', k1, _⟩ := hall 0 (by omega)
      obtain ⟨_, hl', hget⟩ := World.cells?_some k1
      rw [he.1] at hl' hget
      have h1 := hget 0 h0
      rw [List.getElem?_eq_getElem (by omega)] at h1
      unfold World.cell? at h1
      split at h1
      · split at h1
        · cases h1
        · rename_i hs
          rw [Go.Deep.add_add, Nat.zero_mul] at hs
          unfold Addr.add at hs
          simpa using hs
      · cases h1
    rw [he.1] at hall
    have key : ∀ q, q ≤ len → ∃ (vs : List AV) (cs : List Value), (∀ u ∈ vs, G u) ∧ vs.length = q ∧ cs.length = q * c ∧ R (StOf W (MemPlace.row a (m * c) ++ (List.range m).flatMap Pl)) W (.arr c vs) cs ∧ At (StOf W (MemPlace.row a (m * c) ++ (List.range m).flatMap Pl)) W a.block (a.off + (len - q) * c) cs := by
      intro q
      induction q with
      | zero => exact fun _ => ⟨[], [], by simp, rfl, by simp, .arr0 c, fun i v hv => by simp at hv⟩
      | succ q ih =>
        intro hq
        obtain ⟨vs, cs, g1, g2, g3, g4, g5⟩ := ih (by omega)
        have hi : len - (q + 1) < m := by omega
        obtain ⟨cs', k1, k2⟩ := hall (len - (q + 1)) hi
        obtain ⟨_, hl', hget⟩ := World.cells?_some k1
        obtain ⟨u, u1, u2, _, u3⟩ := he.2 n cs' _ k2
        refine ⟨u :: vs, cs' ++ cs, ?_, by simp [g2], by rw [List.length_append, hl', g3, Nat.succ_mul]; omega, .arr1 c u vs cs' cs (stOf_sub (fun p hp => List.mem_append_right _ (List.mem_flatMap.2 ⟨_, List.mem_range.2 hi, hp⟩)) u2) hl' u3 g4, At.app ?_ ?_⟩
        · intro x hx
          rcases List.mem_cons.1 hx with rfl | hx
          · exact u1
          · exact g1 x hx
        · intro j y hy
          have hj : j < c := by rw [← hl']; exact (List.getElem?_eq_some_iff.1 hy).1
          have h3 := hget j hj
          rw [Go.Deep.add_add] at h3
          have e1 : a.add ((len - (q + 1)) * c + j) = ⟨a.block, a.off + (len - (q + 1)) * c + j, none⟩ := by
            unfold Addr.add
            split
            · rename_i h0
              obtain ⟨b, o, s⟩ := a
              simp only at hspot ⊢
              rw [hspot]; congr 1; omega
            · rw [Nat.add_assoc]
          rw [e1] at h3
          refine ⟨by rw [h3]; exact hy, ?_, by rw [h3, hy]; rfl⟩
          refine List.mem_append_left _ (MemPlace.mem_row.2 ⟨(len - (q + 1)) * c + j, ?_, by rw [Nat.add_assoc]⟩)
          have := Nat.mul_le_mul_right c (show len - (q + 1) + 1 ≤ m by omega)
          rw [Nat.succ_mul] at this
          omega
        · rw [hl']
          have e2 : a.off + (len - (q + 1)) * c + c = a.off + (len - q) * c := by
            have e3 : len - q = (len - (q + 1)) + 1 := by omega
            rw [e3, Nat.succ_mul]; omega
          rw [e2]
          exact g5
    obtain ⟨vs, cs, g1, g2, g3, g4, g5⟩ := key len (Nat.le_refl _)
    rw [Nat.sub_self, Nat.zero_mul, Nat.add_zero] at g5
    have ea : a = ⟨a.block, a.off, none⟩ := by obtain ⟨b, o, s⟩ := a; simp only at hspot; rw [hspot]
    refine ⟨_, ⟨vs, by unfold maxLen at hcm; omega, g1, rfl⟩, ?_, rfl, fun y hy => by simp at hy; rw [hy]; rfl⟩
    have := R.sl (Imm := StOf W (MemPlace.row a (m * c) ++ (List.range m).flatMap Pl)) (w := W) c vs cs a.block a.off m g4 g5 (by omega)
    rw [g2, ← ea] at this
    rw [he.1]
    exact this
def FieldsOk (enc : TypeId × Value → H) (P : Program) (W : World) (base : Nat) (held : Bool) : List Field → Nat → List (Nat × (AV → Prop)) → Prop
  | [], _, [] => True
  | f :: fs, o, l :: ls => f.offset = o ∧ Opens enc P W base held f.type l.1 l.2 ∧ FieldsOk enc P W base held fs (o + l.1) ls
  | _, _, _ => False
def FG : List (Nat × (AV → Prop)) → List AV → Prop
  | [], [] => True
  | l :: ls, v :: vs => l.2 v ∧ FG ls vs
  | _, _ => False
theorem fields_open {n : Nat} {cs : List Value} : ∀ (fs : List Field) (o : Nat) (ls : List (Nat × (AV → Prop))) (xs : List (DataW H × List MemPlace)), FieldsOk enc P W base held fs o ls → xs.length = fs.length →
    (∀ (i : Nat) (f : Field), fs[i]? = some f → DataW.trod enc P W base (fun _ => true) held n f.type ((cs.drop f.offset).take (P.cellsOf f.type)) = xs[i]?) →
    ∃ vs, FG ls vs ∧ R (StOf W (xs.flatMap (·.2))) W (.st (ls.map (·.1)) vs) ((cs.drop o).take (ls.map (·.1)).sum) ∧ ∀ y ∈ (cs.drop o).take (ls.map (·.1)).sum, sc y = true
  | [], o, [], xs, _, _, _ => ⟨[], trivial, by simpa using R.st0, by simp⟩
  | [], _, _ :: _, _, h, _, _ => h.elim
  | _ :: _, _, [], _, h, _, _ => h.elim
  | f :: fs, o, l :: ls, [], _, h, _ => by simp at h
  | f :: fs, o, l :: ls, x :: xs, ⟨h1, h2, h3⟩, hl, hx => by
    obtain ⟨vs, g1, g2, g3⟩ := fields_open fs (o + l.1) ls xs h3 (by simpa using hl) (fun i f' hf => hx (i + 1) f' hf)
    have h4 := hx 0 f rfl
    rw [h1, h2.1] at h4
    obtain ⟨v, u1, u2, u3, u4⟩ := h2.2 _ _ _ h4
    have e : (cs.drop o).take ((l :: ls).map (·.1)).sum = (cs.drop o).take l.1 ++ (cs.drop (o + l.1)).take (ls.map (·.1)).sum := by
      rw [List.map_cons, List.sum_cons, List.take_add, List.drop_drop]
    rw [e]
    refine ⟨v :: vs, ⟨u1, g1⟩, .st1 l.1 _ v vs _ _ (stOf_sub (fun p hp => List.mem_append_left _ hp) u2) u3 u4 (stOf_sub (fun p hp => List.mem_append_right _ hp) g2), fun y hy => ?_⟩
    rcases List.mem_append.1 hy with hy | hy
    · exact u4 y hy
    · exact g3 y hy
theorem Opens.struct {t : TypeId} {fs : Array Field} {c : Nat} {ls : List (Nat × (AV → Prop))} (ht : P.underlying t = some (.struct fs)) (hc : P.cellsOf t = c) (hs : (ls.map (·.1)).sum = c) (hF : FieldsOk enc P W base held fs.toList 0 ls) :
    Opens enc P W base held t c fun v => ∃ vs, FG ls vs ∧ v = .st (ls.map (·.1)) vs := by
  refine ⟨hc, fun N cs x hx => ?_⟩
  obtain ⟨xs, n, _, rfl, hl, hxl, hel⟩ := DataW.trod_struct ht hx
  obtain ⟨vs, g1, g2, g3⟩ := fields_open (n := n) (cs := cs) fs.toList 0 ls xs hF (by simpa using hxl) (fun i f hf => hel i f (by simpa using hf))
  have e : (cs.drop 0).take (ls.map (·.1)).sum = cs := by rw [List.drop_zero, hs, List.take_of_length_le (by omega)]
  rw [e] at g2 g3
  exact ⟨_, ⟨vs, g1, rfl⟩, g2, by omega, g3⟩
theorem Opens.agg {t : TypeId} {c : Nat} {G : AV → Prop} (h : Opens enc P W base held t c G) (hG : ∀ v, G v → v.isAgg = true) {r : Reach} {b0 : Nat} {v : Value} (hval : Value.okWide P W r b0 t v)
    (hu : (∃ fs, P.underlying t = some (.struct fs)) ∨ ∃ n e, P.underlying t = some (.array n e)) {d : DataW H} {ps : List MemPlace} (hd : DataW.Trod enc P W base (fun _ => true) held t v d ps) :
    ∃ u, G u ∧ Rel (StOf W ps) W u v := by
  obtain ⟨fuel, hf⟩ := hd
  obtain ⟨u, h1, h2, _⟩ := h.2 _ _ _ hf
  obtain ⟨cs, rfl⟩ : ∃ cs, v = .agg cs := by
    unfold Value.okWide at hval
    rcases hu with ⟨fs, hu⟩ | ⟨n, e, hu⟩ <;> rw [hu] at hval <;> obtain ⟨cs, rfl, _⟩ := hval <;> exact ⟨cs, rfl⟩
  refine ⟨u, h1, .inr ⟨_, h2, ?_⟩⟩
  have hg := hG u h1
  cases u <;> simp [AV.isAgg] at hg <;> rfl
theorem Opens.slice {t e : TypeId} {c : Nat} {G : AV → Prop} (h : Opens enc P W base held t 1 fun v => ∃ vs : List AV, vs.length < 9223372036854775808 ∧ (∀ u ∈ vs, G u) ∧ v = .sl c vs) (ht : P.underlying t = some (.slice e)) {r : Reach} {b0 : Nat} {v : Value} (hval : Value.okWide P W r b0 t v)
    {d : DataW H} {ps : List MemPlace} (hd : DataW.Trod enc P W base (fun _ => true) held t v d ps) :
    ∃ vs : List AV, vs.length < 9223372036854775808 ∧ (∀ u ∈ vs, G u) ∧ Rel (StOf W ps) W (.sl c vs) v := by
  obtain ⟨fuel, hf⟩ := hd
  obtain ⟨_, ⟨vs, h0, h1, rfl⟩, h2, _⟩ := h.2 _ _ _ hf
  have hv : (∃ a len cap, v = .slice a len cap) := by
    cases v <;> simp [Value.okWide, Cell.okWide, Cell.ok, ht] at hval ⊢
  obtain ⟨a0, len0, cap0, rfl⟩ := hv
  exact ⟨vs, h0, h1, .inr ⟨_, h2, rfl⟩⟩
end
section
variable {H : Type} {enc : TypeId × Value → H} {P : Program} {W : World}
theorem trodAll_five {t0 t1 t2 t3 t4 : TypeId} {args : Array Value} {ds : List (DataW H)} {ps : List MemPlace} {base : Nat} {spare : Nat → Bool} {held : Bool} (h : DataW.TrodAll enc P W base spare held [t0, t1, t2, t3, t4] args.toList ds ps) :
    ∃ v0 v1 v2 v3 v4 d0 d1 d2 d3 d4 p0 p1 p2 p3 p4, args = #[v0, v1, v2, v3, v4] ∧ ds = [d0, d1, d2, d3, d4] ∧ ps = p0 ++ p1 ++ p2 ++ p3 ++ p4 ∧ DataW.Trod enc P W base spare held t0 v0 d0 p0 ∧ DataW.Trod enc P W base spare held t1 v1 d1 p1 ∧ DataW.Trod enc P W base spare held t2 v2 d2 p2 ∧ DataW.Trod enc P W base spare held t3 v3 d3 p3 ∧ DataW.Trod enc P W base spare held t4 v4 d4 p4 := by
  obtain ⟨v0, vs0, d0, ds0, p0, q0, hargs, rfl, rfl, hd0, hr0⟩ := trodAll_cons h
  obtain ⟨v1, vs1, d1, ds1, p1, q1, rfl, rfl, rfl, hd1, hr1⟩ := trodAll_cons hr0
  obtain ⟨v2, vs2, d2, ds2, p2, q2, rfl, rfl, rfl, hd2, hr2⟩ := trodAll_cons hr1
  obtain ⟨v3, vs3, d3, ds3, p3, q3, rfl, rfl, rfl, hd3, hr3⟩ := trodAll_cons hr2
  obtain ⟨v4, vs4, d4, ds4, p4, q4, rfl, rfl, rfl, hd4, hr4⟩ := trodAll_cons hr3
  obtain ⟨rfl, rfl, rfl⟩ := trodAll_nil hr4
  exact ⟨v0, v1, v2, v3, v4, d0, d1, d2, d3, d4, p0, p1, p2, p3, p4, by cases args; simp_all, rfl, by simp, hd0, hd1, hd2, hd3, hd4⟩
theorem trodAll_mk5 {t0 t1 t2 t3 t4 : TypeId} {v0 v1 v2 v3 v4 : Value} {d0 d1 d2 d3 d4 : DataW H} {p0 p1 p2 p3 p4 : List MemPlace} {base : Nat} {spare : Nat → Bool} {held : Bool} (h0 : DataW.Trod enc P W base spare held t0 v0 d0 p0) (h1 : DataW.Trod enc P W base spare held t1 v1 d1 p1) (h2 : DataW.Trod enc P W base spare held t2 v2 d2 p2) (h3 : DataW.Trod enc P W base spare held t3 v3 d3 p3) (h4 : DataW.Trod enc P W base spare held t4 v4 d4 p4) : DataW.TrodAll enc P W base spare held [t0, t1, t2, t3, t4] [v0, v1, v2, v3, v4] [d0, d1, d2, d3, d4] (p0 ++ (p1 ++ (p2 ++ (p3 ++ (p4))))) := trodAll_cons_mk h0 (trodAll_mk4 h1 h2 h3 h4)
theorem trodAll_six {t0 t1 t2 t3 t4 t5 : TypeId} {args : Array Value} {ds : List (DataW H)} {ps : List MemPlace} {base : Nat} {spare : Nat → Bool} {held : Bool} (h : DataW.TrodAll enc P W base spare held [t0, t1, t2, t3, t4, t5] args.toList ds ps) :
    ∃ v0 v1 v2 v3 v4 v5 d0 d1 d2 d3 d4 d5 p0 p1 p2 p3 p4 p5, args = #[v0, v1, v2, v3, v4, v5] ∧ ds = [d0, d1, d2, d3, d4, d5] ∧ ps = p0 ++ p1 ++ p2 ++ p3 ++ p4 ++ p5 ∧ DataW.Trod enc P W base spare held t0 v0 d0 p0 ∧ DataW.Trod enc P W base spare held t1 v1 d1 p1 ∧ DataW.Trod enc P W base spare held t2 v2 d2 p2 ∧ DataW.Trod enc P W base spare held t3 v3 d3 p3 ∧ DataW.Trod enc P W base spare held t4 v4 d4 p4 ∧ DataW.Trod enc P W base spare held t5 v5 d5 p5 := by
  obtain ⟨v0, vs0, d0, ds0, p0, q0, hargs, rfl, rfl, hd0, hr0⟩ := trodAll_cons h
  obtain ⟨v1, vs1, d1, ds1, p1, q1, rfl, rfl, rfl, hd1, hr1⟩ := trodAll_cons hr0
  obtain ⟨v2, vs2, d2, ds2, p2, q2, rfl, rfl, rfl, hd2, hr2⟩ := trodAll_cons hr1
  obtain ⟨v3, vs3, d3, ds3, p3, q3, rfl, rfl, rfl, hd3, hr3⟩ := trodAll_cons hr2
  obtain ⟨v4, vs4, d4, ds4, p4, q4, rfl, rfl, rfl, hd4, hr4⟩ := trodAll_cons hr3
  obtain ⟨v5, vs5, d5, ds5, p5, q5, rfl, rfl, rfl, hd5, hr5⟩ := trodAll_cons hr4
  obtain ⟨rfl, rfl, rfl⟩ := trodAll_nil hr5
  exact ⟨v0, v1, v2, v3, v4, v5, d0, d1, d2, d3, d4, d5, p0, p1, p2, p3, p4, p5, by cases args; simp_all, rfl, by simp, hd0, hd1, hd2, hd3, hd4, hd5⟩
theorem trodAll_mk6 {t0 t1 t2 t3 t4 t5 : TypeId} {v0 v1 v2 v3 v4 v5 : Value} {d0 d1 d2 d3 d4 d5 : DataW H} {p0 p1 p2 p3 p4 p5 : List MemPlace} {base : Nat} {spare : Nat → Bool} {held : Bool} (h0 : DataW.Trod enc P W base spare held t0 v0 d0 p0) (h1 : DataW.Trod enc P W base spare held t1 v1 d1 p1) (h2 : DataW.Trod enc P W base spare held t2 v2 d2 p2) (h3 : DataW.Trod enc P W base spare held t3 v3 d3 p3) (h4 : DataW.Trod enc P W base spare held t4 v4 d4 p4) (h5 : DataW.Trod enc P W base spare held t5 v5 d5 p5) : DataW.TrodAll enc P W base spare held [t0, t1, t2, t3, t4, t5] [v0, v1, v2, v3, v4, v5] [d0, d1, d2, d3, d4, d5] (p0 ++ (p1 ++ (p2 ++ (p3 ++ (p4 ++ (p5)))))) := trodAll_cons_mk h0 (trodAll_mk5 h1 h2 h3 h4 h5)
end
end Go.Cab
namespace Go.Cab
open Go.ChangeShapes Go.WideShapes Go.RowKit Go.ChangeAt
theorem map_of_G {α : Type} {p : α → Prop} {f : α → AV} : ∀ {vs : List AV}, (∀ u ∈ vs, ∃ a, p a ∧ u = f a) → ∃ l : List α, (∀ a ∈ l, p a) ∧ l.length = vs.length ∧ vs = l.map f
  | [], _ => ⟨[], by simp, rfl, rfl⟩
  | u :: vs, h => by
    obtain ⟨a, ha, rfl⟩ := h u (by simp)
    obtain ⟨l, h1, h2, h3⟩ := map_of_G (vs := vs) (fun x hx => h x (List.mem_cons_of_mem _ hx))
    refine ⟨a :: l, fun x hx => ?_, by simp [h2], by rw [h3]; rfl⟩
    rcases List.mem_cons.1 hx with rfl | hx
    · exact ha
    · exact h1 x hx
theorem FG.cons {l : Nat × (AV → Prop)} {ls : List (Nat × (AV → Prop))} {vs : List AV} (h : FG (l :: ls) vs) : ∃ v vs', vs = v :: vs' ∧ l.2 v ∧ FG ls vs' := by
  cases vs with
  | nil => exact h.elim
  | cons v vs => exact ⟨v, vs, rfl, h.1, h.2⟩
theorem FG.nil {vs : List AV} (h : FG [] vs) : vs = [] := by
  cases vs with
  | nil => rfl
  | cons v vs => exact h.elim
section
variable {H : Type} {enc : TypeId × Value → H} {W : World} {base : Nat} {held : Bool}
theorem ka_int : Opens enc Go.Proofs.Tryd.prog W base held 3 1 fun v => ∃ n : Int, v = .lit (.int .i64 n) :=
  (Opens.int (k := .i64) (by kernel_rfl) (by kernel_rfl)).mono fun v ⟨n, _, e⟩ => ⟨n, e⟩
theorem ka_act : Opens enc Go.Proofs.Tryd.prog W base held 40 2 fun v => ∃ a : Int × Int, v = actA a :=
  (Opens.struct (fs := #[⟨"Kind", 3, 0, false, "", "", 0⟩, ⟨"N", 3, 1, false, "", "", 8⟩]) (ls := [(1, _), (1, _)]) (by kernel_rfl) (by kernel_rfl) rfl ⟨rfl, ka_int, rfl, ka_int, trivial⟩).mono fun v ⟨vs, h, e⟩ => by
    obtain ⟨_, vs, rfl, ⟨a, e1⟩, h⟩ := h.cons
    obtain ⟨_, vs, rfl, ⟨b, e2⟩, h⟩ := h.cons
    obtain rfl := h.nil
    subst e1 e2
    exact ⟨(a, b), e⟩
theorem acts_arg {P : Program} {e t : TypeId} (he : Opens enc P W base held e 2 fun v => ∃ a : Int × Int, v = actA a) (ht : P.underlying t = some (.slice e)) (hc : P.cellsOf t = 1) {r : Reach} {b0 : Nat} {v : Value} (hval : Value.okWide P W r b0 t v)
    {d : DataW H} {ps : List MemPlace} (hd : DataW.Trod enc P W base (fun _ => true) held t v d ps) :
    ∃ as_ : List (Int × Int), as_.length < 9223372036854775808 ∧ Rel (StOf W ps) W (.sl 2 (as_.map actA)) v := by
  obtain ⟨vs, h0, h1, hr⟩ := (Opens.list (c := 2) ht hc (by decide) he).slice ht hval hd
  obtain ⟨l, _, g2, rfl⟩ := map_of_G (p := fun _ => True) (f := actA) fun u hu => by obtain ⟨a, e⟩ := h1 u hu; exact ⟨a, trivial, e⟩
  exact ⟨l, by omega, hr⟩
end
end Go.Cab
namespace Go.Proofs.YtiikindmkllbiaaDoor
open Go.ChangeShapes Go.WideShapes Go.ChangeAt Go.RowKit
theorem Tryd.laidOut : laidOutB Tryd.prog = true := by kernel_rfl
theorem Tryd.own : ownKnob Tryd.prog.godebug = none := by kernel_rfl
theorem Tryd.sliceActs : Tryd.prog.underlying 22 = some (.slice 40) := by kernel_rfl
theorem Tryd.sliceActsC : Tryd.prog.cellsOf 22 = 1 := by kernel_rfl
def tab32 : Array Value := #[0, 1, 28, 2, 29, 14, 24, 3, 30, 22, 20, 15, 25, 17, 4, 8, 31, 27, 13, 23, 21, 19, 16, 7, 26, 12, 18, 6, 11, 5, 10, 9].map fun n => .int .u8 n
def tab64 : Array Value := #[0, 1, 56, 2, 57, 49, 28, 3, 61, 58, 42, 50, 38, 29, 17, 4, 62, 47, 59, 36, 45, 43, 51, 22, 53, 39, 33, 30, 24, 18, 12, 5, 63, 55, 48, 27, 60, 41, 37, 16, 46, 35, 44, 21, 52, 32, 23, 11, 54, 26, 40, 15, 34, 20, 31, 10, 25, 14, 19, 9, 13, 8, 7, 6].map fun n => .int .u8 n
def tab10 : Array Value := #[1, 10, 100, 1000, 10000, 100000, 1000000, 10000000, 100000000, 1000000000, 10000000000, 100000000000, 1000000000000, 10000000000000, 100000000000000, 1000000000000000, 10000000000000000, 100000000000000000, 1000000000000000000, 10000000000000000000].map fun n => .int .u64 n
noncomputable def laidWorld (os : Os) : World :=
  let w0 := World.holding Tryd.prog os ⟨#[], #[], []⟩
  { w0 with heap := ((w0.heap.modify 0 fun
      | .cells _ t frozen => .cells tab10 t frozen
      | o => o).modify 1 fun
      | .cells _ t frozen => .cells tab32 t frozen
      | o => o).modify 2 fun
      | .cells _ t frozen => .cells tab64 t frozen
      | o => o }
theorem laidWorld_met (os : Os) (args : Array Value) : laidMetH Tryd.prog Rows.ratchetTalksRow.laid ((laidWorld os).forCall (fun _ _ => 0) ⟨#[], args, []⟩).memory :=
  laidMetH_of_parts (laidMet_of_run' 80 (by kernel_rfl) (by kernel_rfl)) (by kernel_rfl)
set_option maxRecDepth 100000 in
theorem ratchetTalks_lifted (os : Os) (started : os.Started) (H : Type) (enc : TypeId × Value → H) :
    ReturnsInHanded {} Tryd.checked os 3 .any (fun w args => (Rows.ratchetTalksSpec.pre enc Tryd.prog Tryd.f3 Rows.ratchetTalksRow.domain false w args ∧ laidMetH Tryd.prog Rows.ratchetTalksRow.laid w) ∧ sizedMet enc Tryd.prog Tryd.f3 (OpenSpec.ofChange Rows.ratchetTalksSpec) false w args)
      (Rows.ratchetTalksSpec.post enc Tryd.prog Tryd.f3 false true false false) := by
  refine returnsInHanded_of_change_and (C := Tryd.checked) (X := fun w _ => laidMetH Tryd.prog Rows.ratchetTalksRow.laid w) (fun _ _ _ hh h => h.of_heap hh) Tryd.own started (by kernel_rfl) Tryd.func3
    (ChangeSpec.witness_at (enc := enc) (C := Tryd.checked) (os := os) (X := fun w _ => laidMetH Tryd.prog Rows.ratchetTalksRow.laid w) false (laidWorld os) #[.slice none 0 0] 8 rfl (by kernel_rfl) (by kernel_rfl) (by kernel_rfl) (by kernel_rfl) (by kernel_rfl) (laidWorld_met os _)) ?_
  intro W base args ds gs before hval0 hW _ _ hLaid _
  have htab := Go.Cab.tabOk_laid hLaid (by kernel_rfl)
  have hval : ∀ (j : Nat) t v, Tryd.f3.params[j]? = some t → args[j]? = some v → Value.okWide Tryd.prog W .any base t v := hval0
  have hW' := hW
  obtain ⟨p, q, hA0, hV, rfl, hfz, hnd⟩ := hW
  have hA : DataW.TrodAll enc Tryd.prog W 0 (fun _ => true) true Tryd.f3.params.toList args.toList ds p := hA0
  rw [Tryd.params3] at hA hval
  obtain ⟨v0, d0, rfl, rfl, h0⟩ := trodAll_one hA
  obtain ⟨rfl, rfl⟩ := trodVars_none hV
  obtain ⟨as0, hb0, hk0⟩ := Go.Cab.acts_arg Go.Cab.ka_act Tryd.sliceActs Tryd.sliceActsC (hval 0 22 v0 rfl rfl) h0
  have hc := Go.Cab.ratchetTalks_call as0 hb0 W (Go.Cab.StOf W p) [_] ⟨(fun _ _ h => h.2), htab⟩ ⟨hk0, trivial⟩
  refine Calls.mono hc fun e W' ⟨V, Imm, he, hfr, _, hr⟩ => ?_
  have hV' := (hr.1.lit).1
  subst hV'
  have hb := hfr.below
  have hlt : ∀ x ∈ p, x.block < W.heap.size := fun x hx => hW'.lt x (by simpa using hx)
  refine ⟨_, he, Go.Cab.post_below rfl hW' hb (fun _ _ _ => trodAll_mk1 (shut_bool Tryd.underlying4 true)) (fun sp hsp => ?_) (fun _ => rfl) (ok_one (by kernel_rfl) rfl (okWide_bool_mk Tryd.underlying4 true))⟩
  have s0 := WideElems.Trod_stays (sp' := sp) Tryd.laidOut (by kernel_rfl) (of_decide_eq_true (by kernel_rfl)) h0 (fun x hx => hb.same (hlt x (by simp [hx]))) (fun x hx => hsp x (by simp [hx]))
  have s := trodAll_mk1 s0
  simp only [List.append_nil, List.append_assoc] at s ⊢
  exact s
theorem ratchetTalks_holds : Rows.RatchetTalksSaid :=
  OpenClaim.holds_of_wide 3 Tryd.f3 rfl rfl rfl rfl rfl rfl rfl ⟨rfl, rfl, rfl, rfl, rfl⟩ rfl rfl rfl rfl rfl (by kernel_rfl) Tryd.func3 (by kernel_rfl)
    (of_decide_eq_true (by kernel_rfl)) (by unfold Func.isWrapper; first | (rw [if_pos (by decide +kernel)]; kernel_rfl) | (rw [if_neg (by decide +kernel)]; exact ⟨rfl, rfl⟩))
    (fun os started H enc _ => ratchetTalks_lifted os started H enc)
end Go.Proofs.YtiikindmkllbiaaDoor
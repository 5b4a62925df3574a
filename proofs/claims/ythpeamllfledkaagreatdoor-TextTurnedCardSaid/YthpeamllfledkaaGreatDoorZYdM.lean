/- The model's code of functions of the program, and that it is the program's. Printed by wip/tool. -/
import Derived.Test.YthpeamllfledkaaGreatDoorProg
import Derived.Test.YthpeamllfledkaaGreatDoorGrC

namespace Go.Mod
open Go.Proofs

/-- 'swingbridge/swingbridgelaw9.TextTurned' -/
def m4_0 : MCode := .seq (.seq (.ops [⟨some 46, .mov, [.r 15], none, []⟩,
 ⟨some 47, .mov, [.r 12], none, []⟩,
 ⟨some 48, .len, [.r 47], none, [47]⟩,
 ⟨some 49, .bin .lss, [.r 46, .r 48], none, [46, 48]⟩]) <|
 .cond (.r 49)
 (.skip)
 (.exit 0)) <|
 .seq (.block 1 (.seq (.ops [⟨some 52, .mov, [.r 15], none, [49]⟩,
 ⟨some 53, .mov, [.r 13], none, []⟩,
 ⟨some 54, .bin .neq, [.r 52, .r 53], none, [52, 53]⟩]) <|
 .cond (.r 54)
 (.ops [⟨some 55, .mov, [.r 14], none, [14, 54]⟩,
 ⟨some 56, .mov, [.r 12], none, []⟩,
 ⟨some 57, .mov, [.r 15], none, []⟩,
 ⟨some 58, .ia 1, [.r 56, .r 57], none, [56, 57]⟩,
 ⟨some 59, .ld none, [.r 58], none, [58]⟩,
 ⟨some 60, .bin .add, [.r 55, .r 59], none, [55, 59]⟩,
 ⟨some 61, .bin .add, [.r 60, .k (.string ⟨#[10]⟩)], none, [60]⟩,
 ⟨some 14, .mov, [.r 61], none, [61]⟩])
 (.skip))) <|
 .ops [⟨some 50, .mov, [.r 15], none, [15, 54]⟩,
 ⟨some 51, .bin .add, [.r 50, .k (.int .i64 1)], none, [50]⟩,
 ⟨some 15, .mov, [.r 51], none, [51]⟩]
def m4 : MFn := ⟨[.tmp 8], .seq (.ops [⟨some 4, .box, [.r 0], none, [0]⟩,
 ⟨some 8, .mov, [.k (.bool false)], none, [8]⟩]) <|
.seq (.seq (.ops [⟨some 16, .call 5, [], none, []⟩,
 ⟨some 17, .un .not, [.r 16], none, [16]⟩]) <|
.cond (.r 17)
 (.seq (.ops [⟨some 8, .mov, [.k (.bool false)], none, [1, 2, 3, 4, 17]⟩]) <|
 .ret)
 (.skip)) <|
.seq (.seq (.ops [⟨some 18, .ld (some 4), [.r 4], none, [17]⟩,
 ⟨some 19, .call 6, [.r 18], none, [18]⟩,
 ⟨some 20, .un .not, [.r 19], none, [19]⟩,
 ⟨some 21, .mov, [.r 20], none, [20]⟩,
 ⟨some 22, .ld (some 4), [.r 4], (some (21, false)), []⟩,
 ⟨some 23, .call 12, [.r 22], (some (21, false)), [22]⟩,
 ⟨some 24, .un .not, [.r 23], (some (21, false)), [23]⟩,
 ⟨some 25, .pick, [.r 21, .k (.bool true), .r 24], none, [21, 24]⟩]) <|
.cond (.r 25)
 (.seq (.ops [⟨some 8, .mov, [.k (.bool true)], none, [1, 2, 3, 4, 25]⟩]) <|
 .ret)
 (.skip)) <|
.seq (.ops [⟨some 26, .ld (some 4), [.r 4], none, [4, 25]⟩,
 ⟨some 27, .call 10, [.r 26], none, [26]⟩,
 ⟨some 9, .mov, [.r 27], none, [27]⟩]) <|
.seq (.ops [⟨some 28, .mov, [.r 9], none, []⟩,
 ⟨some 29, .s2b, [.r 28], none, [28]⟩,
 ⟨some 10, .mov, [.r 29], none, [29]⟩]) <|
.seq (.ops [⟨some 30, .mov, [.r 1], none, [1]⟩,
 ⟨some 31, .conv .i64, [.r 30], none, [30]⟩,
 ⟨some 32, .mov, [.r 10], none, []⟩,
 ⟨some 33, .len, [.r 32], none, [32]⟩,
 ⟨some 34, .bin .rem, [.r 31, .r 33], none, [31, 33]⟩,
 ⟨some 11, .mov, [.r 34], none, [34]⟩]) <|
.seq (.ops [⟨some 35, .mov, [.r 10], none, []⟩,
 ⟨some 36, .mov, [.r 11], none, [11]⟩,
 ⟨some 37, .mov, [.r 2], none, [2]⟩,
 ⟨some 38, .ia 1, [.r 35, .r 36], none, [35, 36]⟩,
 ⟨none, .st 1, [.r 38, .r 37], none, [37, 38]⟩]) <|
.seq (.ops [⟨some 39, .mov, [.r 9], none, [9]⟩,
 ⟨some 40, .call 13, [.r 39], none, [39]⟩,
 ⟨some 12, .mov, [.r 40], none, [40]⟩]) <|
.seq (.ops [⟨some 41, .mov, [.r 3], none, [3]⟩,
 ⟨some 42, .conv .i64, [.r 41], none, [41]⟩,
 ⟨some 43, .mov, [.r 12], none, []⟩,
 ⟨some 44, .len, [.r 43], none, [43]⟩,
 ⟨some 45, .bin .rem, [.r 42, .r 44], none, [42, 44]⟩,
 ⟨some 13, .mov, [.r 45], none, [45]⟩]) <|
.seq (.ops [⟨some 14, .mov, [.k (.string ⟨#[]⟩)], none, []⟩]) <|
.seq (.seq (.ops [⟨some 15, .mov, [.k (.int .i64 0)], none, []⟩]) <|
.block 0 (.loop m4_0)) <|
.seq (.ops [⟨some 62, .mov, [.r 10], none, [10, 12, 13, 15, 49]⟩,
 ⟨some 63, .strb, [.r 62], none, [62]⟩,
 ⟨some 64, .call 14, [.r 63], none, [63]⟩,
 ⟨some 65, .mov, [.r 64], none, [64]⟩,
 ⟨some 66, .mov, [.r 14], (some (65, true)), [14]⟩,
 ⟨some 67, .call 14, [.r 66], (some (65, true)), [66]⟩,
 ⟨some 68, .pick, [.r 65, .r 67, .k (.bool false)], none, [65, 67]⟩,
 ⟨some 8, .mov, [.r 68], none, [68]⟩]) <|
.ret⟩
theorem c4 : cFn Tryz.prog 4 = some m4.bare := by kernel_rfl

def mpY (f : FuncId) : Option MDef := match f with
 | 4 => some (.code m4)
 | _ => none
theorem mpY_code : ∀ f fn, mpY f = some (.code fn) → cFn Tryz.prog f = some fn.bare := by
 intro f fn h
 unfold mpY at h
 split at h
 · cases h; exact c4
 · cases h
theorem mpY_ok : MapOk Tryz.prog mpY := ⟨by kernel_rfl, mpY_code, fun f s h => by
 unfold mpY at h
 split at h <;> cases h⟩
end Go.Mod

/- The model's code of functions of the program, and that it is the program's. Printed by wip/tool. -/
import Derived.Test.YthpeamllfledkaaGreatDoorProg
import Derived.Test.YthpeamllfledkaaGreatDoorGrC

namespace Go.Mod
open Go.Proofs

/-- 'swingbridge/swingbridgeref7.Lines' -/
def m13 : MFn := ⟨[.tmp 2], .seq (.ops [⟨some 2, .mov, [.k (.slice none 0 0)], none, [2]⟩]) <|
.seq (.ops [⟨some 3, .mov, [.r 0], none, [0]⟩,
 ⟨some 4, .call 37, [.r 3, .k (.int .u8 10)], none, [3]⟩,
 ⟨some 2, .mov, [.r 4], none, [4]⟩]) <|
.ret⟩
theorem c13 : cFn Tryz.prog 13 = some m13.bare := by kernel_rfl

/-- 'swingbridge/words.Lines' -/
def m15 : MFn := ⟨[.tmp 2], .seq (.ops [⟨some 2, .mov, [.k (.slice none 0 0)], none, [2]⟩]) <|
.seq (.ops [⟨some 4, .mov, [.r 0], none, [0]⟩,
 ⟨some 5, .call 38, [.r 4, .k (.string ⟨#[10]⟩)], none, [4]⟩,
 ⟨some 3, .mov, [.r 5], none, [5]⟩]) <|
.seq (.seq (.ops [⟨some 6, .mov, [.r 3], none, []⟩,
 ⟨some 7, .mov, [.r 3], none, []⟩,
 ⟨some 8, .len, [.r 7], none, [7]⟩,
 ⟨some 9, .bin .sub, [.r 8, .k (.int .i64 1)], none, [8]⟩,
 ⟨some 10, .ia 1, [.r 6, .r 9], none, [6, 9]⟩,
 ⟨some 11, .ld none, [.r 10], none, [10]⟩,
 ⟨some 12, .bin .eql, [.r 11, .k (.string ⟨#[]⟩)], none, [11]⟩]) <|
.cond (.r 12)
 (.ops [⟨some 13, .mov, [.r 3], none, [12]⟩,
 ⟨some 14, .mov, [.r 3], none, [3]⟩,
 ⟨some 15, .len, [.r 14], none, [14]⟩,
 ⟨some 16, .bin .sub, [.r 15, .k (.int .i64 1)], none, [15]⟩,
 ⟨some 17, .sl 1 false true false, [.r 13, .r 16], none, [13, 16]⟩,
 ⟨some 3, .mov, [.r 17], none, [17]⟩])
 (.skip)) <|
.seq (.ops [⟨some 18, .mov, [.r 3], none, [3, 12]⟩,
 ⟨some 2, .mov, [.r 18], none, [18]⟩]) <|
.ret⟩
theorem c15 : cFn Tryz.prog 15 = some m15.bare := by kernel_rfl

/-- 'swingbridge/swingbridgeref7.Words' -/
def m21_0 : MCode := .seq (.seq (.ops [⟨some 23, .mov, [.r 6], none, []⟩,
 ⟨some 24, .mov, [.r 4], none, []⟩,
 ⟨some 25, .len, [.r 24], none, [24]⟩,
 ⟨some 26, .bin .lss, [.r 23, .r 25], none, [23, 25]⟩]) <|
 .cond (.r 26)
 (.skip)
 (.exit 2)) <|
 .seq (.block 3 (.seq (.ops [⟨some 29, .mov, [.r 4], none, [26]⟩,
 ⟨some 30, .mov, [.r 6], none, []⟩,
 ⟨some 31, .ia 1, [.r 29, .r 30], none, [29, 30]⟩,
 ⟨some 32, .ld none, [.r 31], none, [31]⟩,
 ⟨some 33, .bin .neq, [.r 32, .k (.string ⟨#[]⟩)], none, [32]⟩]) <|
 .cond (.r 33)
 (.ops [⟨some 34, .mov, [.r 5], none, [5, 33]⟩,
 ⟨some 35, .mov, [.r 4], none, []⟩,
 ⟨some 36, .mov, [.r 6], none, []⟩,
 ⟨some 37, .ia 1, [.r 35, .r 36], none, [35, 36]⟩,
 ⟨some 38, .ld none, [.r 37], none, [37]⟩,
 ⟨some 39, .bslice 1 1 [.string ⟨#[]⟩] [(0, 1)], [.r 38], none, [38]⟩,
 ⟨some 40, .app 1 16, [.r 34, .r 39], none, [34, 39]⟩,
 ⟨some 5, .mov, [.r 40], none, [40]⟩])
 (.skip))) <|
 .ops [⟨some 27, .mov, [.r 6], none, [6, 33]⟩,
 ⟨some 28, .bin .add, [.r 27, .k (.int .i64 1)], none, [27]⟩,
 ⟨some 6, .mov, [.r 28], none, [28]⟩]
def m21_1 : MCode := .seq (.seq (.ops [⟨some 7, .mov, [.r 3], none, []⟩,
 ⟨some 8, .mov, [.r 0], none, []⟩,
 ⟨some 9, .lens, [.r 8], none, [8]⟩,
 ⟨some 10, .bin .lss, [.r 7, .r 9], none, [7, 9]⟩,
 ⟨some 11, .mov, [.r 10], none, [10]⟩,
 ⟨some 12, .mov, [.r 0], (some (11, true)), []⟩,
 ⟨some 13, .mov, [.r 3], (some (11, true)), []⟩,
 ⟨some 14, .idxs, [.r 12, .r 13], (some (11, true)), [12, 13]⟩,
 ⟨some 15, .bin .neq, [.r 14, .k (.int .u8 35)], (some (11, true)), [14]⟩,
 ⟨some 16, .pick, [.r 11, .r 15, .k (.bool false)], none, [11, 15]⟩]) <|
 .cond (.r 16)
 (.skip)
 (.exit 0)) <|
 .block 1 (.ops [⟨some 17, .mov, [.r 3], none, [3, 16]⟩,
 ⟨some 18, .bin .add, [.r 17, .k (.int .i64 1)], none, [17]⟩,
 ⟨some 3, .mov, [.r 18], none, [18]⟩])
def m21 : MFn := ⟨[.tmp 2], .seq (.ops [⟨some 2, .mov, [.k (.slice none 0 0)], none, [2]⟩]) <|
.seq (.ops [⟨some 3, .mov, [.k (.int .i64 0)], none, []⟩]) <|
.seq (.block 0 (.loop m21_1)) <|
.seq (.ops [⟨some 19, .mov, [.r 0], none, [0, 16]⟩,
 ⟨some 20, .mov, [.r 3], none, [3]⟩,
 ⟨some 21, .slstr false true, [.r 19, .r 20], none, [19, 20]⟩,
 ⟨some 22, .call 37, [.r 21, .k (.int .u8 32)], none, [21]⟩,
 ⟨some 4, .mov, [.r 22], none, [22]⟩]) <|
.seq (.ops [⟨some 5, .mov, [.k (.slice none 0 0)], none, []⟩]) <|
.seq (.seq (.ops [⟨some 6, .mov, [.k (.int .i64 0)], none, []⟩]) <|
.block 2 (.loop m21_0)) <|
.seq (.ops [⟨some 41, .mov, [.r 5], none, [4, 5, 6, 26]⟩,
 ⟨some 2, .mov, [.r 41], none, [41]⟩]) <|
.ret⟩
theorem c21 : cFn Tryz.prog 21 = some m21.bare := by kernel_rfl

/-- 'swingbridge/swingbridgeref7.Text' -/
def m33 : MFn := ⟨[.tmp 2], .seq (.ops [⟨some 2, .mov, [.k (.string ⟨#[]⟩)], none, [2]⟩]) <|
.seq (.seq (.ops [⟨some 3, .mov, [.r 0], none, []⟩,
 ⟨some 4, .bin .lss, [.r 3, .k (.int .i64 0)], none, [3]⟩,
 ⟨some 5, .mov, [.r 4], none, [4]⟩,
 ⟨some 6, .mov, [.r 0], (some (5, false)), []⟩,
 ⟨some 7, .bin .gtr, [.r 6, .k (.int .i64 9999999)], (some (5, false)), [6]⟩,
 ⟨some 8, .pick, [.r 5, .k (.bool true), .r 7], none, [5, 7]⟩]) <|
.cond (.r 8)
 (.seq (.ops [⟨some 2, .mov, [.k (.string ⟨#[]⟩)], none, [0, 8]⟩]) <|
 .ret)
 (.skip)) <|
.seq (.seq (.ops [⟨some 9, .mov, [.r 0], none, [8]⟩,
 ⟨some 10, .bin .lss, [.r 9, .k (.int .i64 10)], none, [9]⟩]) <|
.cond (.r 10)
 (.seq (.ops [⟨some 11, .mov, [.r 0], none, [0, 10]⟩,
 ⟨some 12, .bin .add, [.k (.int .i64 48), .r 11], none, [11]⟩,
 ⟨some 13, .conv .u8, [.r 12], none, [12]⟩,
 ⟨some 14, .bslice 1 1 [.int .u8 0] [(0, 1)], [.r 13], none, [13]⟩,
 ⟨some 15, .strb, [.r 14], none, [14]⟩,
 ⟨some 2, .mov, [.r 15], none, [15]⟩]) <|
 .ret)
 (.skip)) <|
.seq (.draw [⟨some 16, .mov, [.r 0], none, [10]⟩,
 ⟨some 17, .bin .quo, [.r 16, .k (.int .i64 10)], none, [16]⟩,
 ⟨some 18, .call 33, [.r 17], none, [17]⟩,
 ⟨some 19, .mov, [.r 0], none, [0]⟩,
 ⟨some 20, .bin .rem, [.r 19, .k (.int .i64 10)], none, [19]⟩,
 ⟨some 21, .bin .add, [.k (.int .i64 48), .r 20], none, [20]⟩,
 ⟨some 22, .conv .u8, [.r 21], none, [21]⟩,
 ⟨some 23, .bslice 1 1 [.int .u8 0] [(0, 1)], [.r 22], none, [22]⟩,
 ⟨some 24, .strb, [.r 23], none, [23]⟩,
 ⟨some 25, .bin .add, [.r 18, .r 24], none, [18, 24]⟩,
 ⟨some 2, .mov, [.r 25], none, [25]⟩] [(7, 2), (8, 2)]) <|
.ret⟩
theorem c33 : cFn Tryz.prog 33 = some m33.bare := by kernel_rfl

/-- 'swingbridge/swingbridgeref7.cut' -/
def m37_0 : MCode := .seq (.seq (.ops [⟨some 8, .mov, [.r 7], none, []⟩,
 ⟨some 9, .mov, [.r 0], none, []⟩,
 ⟨some 10, .lens, [.r 9], none, [9]⟩,
 ⟨some 11, .bin .lss, [.r 8, .r 10], none, [8, 10]⟩]) <|
 .cond (.r 11)
 (.skip)
 (.exit 0)) <|
 .seq (.block 1 (.seq (.ops [⟨some 14, .mov, [.r 0], none, [11]⟩,
 ⟨some 15, .mov, [.r 7], none, []⟩,
 ⟨some 16, .idxs, [.r 14, .r 15], none, [14, 15]⟩,
 ⟨some 17, .mov, [.r 1], none, []⟩,
 ⟨some 18, .bin .eql, [.r 16, .r 17], none, [16, 17]⟩]) <|
 .cond (.r 18)
 (.seq (.ops [⟨some 19, .mov, [.r 5], none, [5, 18]⟩,
 ⟨some 20, .mov, [.r 0], none, []⟩,
 ⟨some 21, .mov, [.r 6], none, [6]⟩,
 ⟨some 22, .mov, [.r 7], none, []⟩,
 ⟨some 23, .slstr true true, [.r 20, .r 21, .r 22], none, [20, 21, 22]⟩,
 ⟨some 24, .bslice 1 1 [.string ⟨#[]⟩] [(0, 1)], [.r 23], none, [23]⟩,
 ⟨some 25, .app 1 16, [.r 19, .r 24], none, [19, 24]⟩,
 ⟨some 5, .mov, [.r 25], none, [25]⟩]) <|
 .ops [⟨some 26, .mov, [.r 7], none, []⟩,
 ⟨some 27, .bin .add, [.r 26, .k (.int .i64 1)], none, [26]⟩,
 ⟨some 6, .mov, [.r 27], none, [27]⟩])
 (.skip))) <|
 .ops [⟨some 12, .mov, [.r 7], none, [7, 18]⟩,
 ⟨some 13, .bin .add, [.r 12, .k (.int .i64 1)], none, [12]⟩,
 ⟨some 7, .mov, [.r 13], none, [13]⟩]
def m37 : MFn := ⟨[.tmp 4], .seq (.ops [⟨some 4, .mov, [.k (.slice none 0 0)], none, [4]⟩]) <|
.seq (.ops [⟨some 5, .mov, [.k (.slice none 0 0)], none, []⟩]) <|
.seq (.ops [⟨some 6, .mov, [.k (.int .i64 0)], none, []⟩]) <|
.seq (.seq (.ops [⟨some 7, .mov, [.k (.int .i64 0)], none, []⟩]) <|
.block 0 (.loop m37_0)) <|
.seq (.seq (.ops [⟨some 28, .mov, [.r 6], none, [1, 7, 11]⟩,
 ⟨some 29, .mov, [.r 0], none, []⟩,
 ⟨some 30, .lens, [.r 29], none, [29]⟩,
 ⟨some 31, .bin .lss, [.r 28, .r 30], none, [28, 30]⟩]) <|
.cond (.r 31)
 (.ops [⟨some 32, .mov, [.r 5], none, [5, 31]⟩,
 ⟨some 33, .mov, [.r 0], none, [0]⟩,
 ⟨some 34, .mov, [.r 6], none, [6]⟩,
 ⟨some 35, .slstr true false, [.r 33, .r 34], none, [33, 34]⟩,
 ⟨some 36, .bslice 1 1 [.string ⟨#[]⟩] [(0, 1)], [.r 35], none, [35]⟩,
 ⟨some 37, .app 1 16, [.r 32, .r 36], none, [32, 36]⟩,
 ⟨some 5, .mov, [.r 37], none, [37]⟩])
 (.skip)) <|
.seq (.ops [⟨some 38, .mov, [.r 5], none, [0, 5, 6, 31]⟩,
 ⟨some 4, .mov, [.r 38], none, [38]⟩]) <|
.ret⟩
theorem c37 : cFn Tryz.prog 37 = some m37.bare := by kernel_rfl

/-- 'swingbridge/words.Words' -/
def m39_0 : MCode := .seq (.ops [⟨some 16, .bin .lss, [.r 15, .r 14], none, []⟩]) <|
 .seq (.cond (.r 16)
 (.skip)
 (.exit 0)) <|
 .seq (.block 1 (.seq (.ops [⟨some 17, .ia 1, [.r 13, .r 15], none, [16]⟩,
 ⟨some 18, .ld none, [.r 17], none, [17]⟩,
 ⟨some 5, .mov, [.r 18], none, [18]⟩]) <|
 .seq (.seq (.ops [⟨some 19, .mov, [.r 5], none, []⟩,
 ⟨some 20, .bin .eql, [.r 19, .k (.string ⟨#[]⟩)], none, [19]⟩]) <|
 .cond (.r 20)
 (.exit 1)
 (.skip)) <|
 .ops [⟨some 21, .mov, [.r 3], none, [3, 20]⟩,
 ⟨some 22, .mov, [.r 5], none, [5]⟩,
 ⟨some 23, .bslice 1 1 [.string ⟨#[]⟩] [(0, 1)], [.r 22], none, [22]⟩,
 ⟨some 24, .app 1 16, [.r 21, .r 23], none, [21, 23]⟩,
 ⟨some 3, .mov, [.r 24], none, [24]⟩])) <|
 .ops [⟨some 25, .bin .add, [.r 15, .k (.int .i64 1)], none, [5, 15, 20]⟩,
 ⟨some 15, .mov, [.r 25], none, [25]⟩]
def m39 : MFn := ⟨[.tmp 2], .seq (.ops [⟨some 2, .mov, [.k (.slice none 0 0)], none, [2]⟩]) <|
.seq (.ops [⟨some 7, .mov, [.r 0], none, [0]⟩,
 ⟨some 8, .call 54, [.r 7, .k (.string ⟨#[35]⟩)], none, [7]⟩,
 ⟨some 6, .mov, [.r 8], none, [8]⟩,
 ⟨some 9, .extract 0, [.r 6], none, []⟩,
 ⟨some 10, .extract 1, [.r 6], none, [10]⟩,
 ⟨some 11, .extract 2, [.r 6], none, [6, 11]⟩,
 ⟨some 0, .mov, [.r 9], none, [9]⟩]) <|
.seq (.ops [⟨some 3, .mov, [.k (.slice none 0 0)], none, []⟩]) <|
.seq (.skip) <|
.seq (.seq (.ops [⟨some 12, .mov, [.r 0], none, [0]⟩,
 ⟨some 13, .call 38, [.r 12, .k (.string ⟨#[32]⟩)], none, [12]⟩,
 ⟨some 14, .len, [.r 13], none, []⟩,
 ⟨some 15, .mov, [.k (.int .i64 0)], none, []⟩]) <|
.block 0 (.loop m39_0)) <|
.seq (.ops [⟨some 26, .mov, [.r 3], none, [3, 13, 14, 15, 16]⟩,
 ⟨some 2, .mov, [.r 26], none, [26]⟩]) <|
.ret⟩
theorem c39 : cFn Tryz.prog 39 = some m39.bare := by kernel_rfl

/-- 'swingbridge/swingbridgeref7.Num' -/
def m46_0 : MCode := .seq (.seq (.ops [⟨some 24, .mov, [.r 5], none, []⟩,
 ⟨some 25, .mov, [.r 0], none, []⟩,
 ⟨some 26, .lens, [.r 25], none, [25]⟩,
 ⟨some 27, .bin .lss, [.r 24, .r 26], none, [24, 26]⟩]) <|
 .cond (.r 27)
 (.skip)
 (.exit 0)) <|
 .seq (.block 1 (.seq (.seq (.ops [⟨some 30, .mov, [.r 0], none, [27]⟩,
 ⟨some 31, .mov, [.r 5], none, []⟩,
 ⟨some 32, .idxs, [.r 30, .r 31], none, [30, 31]⟩,
 ⟨some 33, .bin .lss, [.r 32, .k (.int .u8 48)], none, [32]⟩,
 ⟨some 34, .mov, [.r 33], none, [33]⟩,
 ⟨some 35, .mov, [.r 0], (some (34, false)), []⟩,
 ⟨some 36, .mov, [.r 5], (some (34, false)), []⟩,
 ⟨some 37, .idxs, [.r 35, .r 36], (some (34, false)), [35, 36]⟩,
 ⟨some 38, .bin .gtr, [.r 37, .k (.int .u8 57)], (some (34, false)), [37]⟩,
 ⟨some 39, .pick, [.r 34, .k (.bool true), .r 38], none, [34, 38]⟩]) <|
 .cond (.r 39)
 (.seq (.ops [⟨some 2, .mov, [.k (.int .i64 0)], none, [0, 4, 5, 39]⟩,
 ⟨some 3, .mov, [.k (.bool false)], none, []⟩]) <|
 .ret)
 (.skip)) <|
 .ops [⟨some 40, .mov, [.r 4], none, [4, 39]⟩,
 ⟨some 41, .bin .mul, [.k (.int .i64 10), .r 40], none, [40]⟩,
 ⟨some 42, .mov, [.r 0], none, []⟩,
 ⟨some 43, .mov, [.r 5], none, []⟩,
 ⟨some 44, .idxs, [.r 42, .r 43], none, [42, 43]⟩,
 ⟨some 45, .bin .sub, [.r 44, .k (.int .u8 48)], none, [44]⟩,
 ⟨some 46, .conv .i64, [.r 45], none, [45]⟩,
 ⟨some 47, .bin .add, [.r 41, .r 46], none, [41, 46]⟩,
 ⟨some 4, .mov, [.r 47], none, [47]⟩])) <|
 .ops [⟨some 28, .mov, [.r 5], none, [5]⟩,
 ⟨some 29, .bin .add, [.r 28, .k (.int .i64 1)], none, [28]⟩,
 ⟨some 5, .mov, [.r 29], none, [29]⟩]
def m46 : MFn := ⟨[.tmp 2, .tmp 3], .seq (.ops [⟨some 2, .mov, [.k (.int .i64 0)], none, [2]⟩,
 ⟨some 3, .mov, [.k (.bool false)], none, [3]⟩]) <|
.seq (.seq (.ops [⟨some 6, .mov, [.r 0], none, []⟩,
 ⟨some 7, .lens, [.r 6], none, [6]⟩,
 ⟨some 8, .bin .lss, [.r 7, .k (.int .i64 1)], none, [7]⟩,
 ⟨some 9, .mov, [.r 8], none, [8]⟩,
 ⟨some 10, .mov, [.r 0], (some (9, false)), []⟩,
 ⟨some 11, .lens, [.r 10], (some (9, false)), [10]⟩,
 ⟨some 12, .bin .gtr, [.r 11, .k (.int .i64 7)], (some (9, false)), [11]⟩,
 ⟨some 13, .pick, [.r 9, .k (.bool true), .r 12], none, [9, 12]⟩,
 ⟨some 14, .mov, [.r 13], none, [13]⟩,
 ⟨some 15, .mov, [.r 0], (some (14, false)), []⟩,
 ⟨some 16, .idxs, [.r 15, .k (.int .i64 0)], (some (14, false)), [15]⟩,
 ⟨some 17, .bin .eql, [.r 16, .k (.int .u8 48)], (some (14, false)), [16]⟩,
 ⟨some 18, .mov, [.r 17], (some (14, false)), [17]⟩,
 ⟨some 19, .mov, [.r 0], (some (18, true)), []⟩,
 ⟨some 20, .lens, [.r 19], (some (18, true)), [19]⟩,
 ⟨some 21, .bin .gtr, [.r 20, .k (.int .i64 1)], (some (18, true)), [20]⟩,
 ⟨some 22, .pick, [.r 18, .r 21, .k (.bool false)], (some (14, false)), [18, 21]⟩,
 ⟨some 23, .pick, [.r 14, .k (.bool true), .r 22], none, [14, 22]⟩]) <|
.cond (.r 23)
 (.seq (.ops [⟨some 2, .mov, [.k (.int .i64 0)], none, [0, 23]⟩,
 ⟨some 3, .mov, [.k (.bool false)], none, []⟩]) <|
 .ret)
 (.skip)) <|
.seq (.ops [⟨some 4, .mov, [.k (.int .i64 0)], none, [23]⟩]) <|
.seq (.seq (.ops [⟨some 5, .mov, [.k (.int .i64 0)], none, []⟩]) <|
.block 0 (.loop m46_0)) <|
.seq (.ops [⟨some 48, .mov, [.r 4], none, [0, 4, 5, 27]⟩,
 ⟨some 2, .mov, [.r 48], none, [48]⟩,
 ⟨some 3, .mov, [.k (.bool true)], none, []⟩]) <|
.ret⟩
theorem c46 : cFn Tryz.prog 46 = some m46.bare := by kernel_rfl

/-- 'swingbridge/words.Text' -/
def m50 : MFn := ⟨[.tmp 2], .seq (.ops [⟨some 2, .mov, [.k (.string ⟨#[]⟩)], none, [2]⟩]) <|
.seq (.seq (.ops [⟨some 3, .mov, [.r 0], none, []⟩,
 ⟨some 4, .bin .lss, [.r 3, .k (.int .i64 0)], none, [3]⟩,
 ⟨some 5, .mov, [.r 4], none, [4]⟩,
 ⟨some 6, .mov, [.r 0], (some (5, false)), []⟩,
 ⟨some 7, .bin .gtr, [.r 6, .k (.int .i64 9999999)], (some (5, false)), [6]⟩,
 ⟨some 8, .pick, [.r 5, .k (.bool true), .r 7], none, [5, 7]⟩]) <|
.cond (.r 8)
 (.seq (.ops [⟨some 2, .mov, [.k (.string ⟨#[]⟩)], none, [0, 8]⟩]) <|
 .ret)
 (.skip)) <|
.seq (.ops [⟨some 9, .mov, [.r 0], none, [0, 8]⟩,
 ⟨some 10, .call 67, [.r 9], none, [9]⟩,
 ⟨some 2, .mov, [.r 10], none, [10]⟩]) <|
.ret⟩
theorem c50 : cFn Tryz.prog 50 = some m50.bare := by kernel_rfl

/-- 'swingbridge/words.Num' -/
def m55 : MFn := ⟨[.tmp 2, .tmp 3], .seq (.ops [⟨some 2, .mov, [.k (.int .i64 0)], none, [2]⟩,
 ⟨some 3, .mov, [.k (.bool false)], none, [3]⟩]) <|
.seq (.ops [⟨some 7, .mov, [.r 0], none, []⟩,
 ⟨some 8, .call 74, [.r 7], none, [7]⟩,
 ⟨some 6, .mov, [.r 8], none, [8]⟩,
 ⟨some 9, .extract 0, [.r 6], none, []⟩,
 ⟨some 10, .extract 1, [.r 6], none, [6]⟩,
 ⟨some 4, .mov, [.r 9], none, [9]⟩,
 ⟨some 5, .mov, [.r 10], none, [10]⟩]) <|
.seq (.seq (.ops [⟨some 11, .mov, [.r 5], none, [5]⟩,
 ⟨some 12, .eqv true .ifc, [.r 11, .k (.nilIface)], none, [11]⟩,
 ⟨some 13, .mov, [.r 12], none, [12]⟩,
 ⟨some 14, .mov, [.r 0], (some (13, false)), []⟩,
 ⟨some 15, .lens, [.r 14], (some (13, false)), [14]⟩,
 ⟨some 16, .bin .gtr, [.r 15, .k (.int .i64 7)], (some (13, false)), [15]⟩,
 ⟨some 17, .pick, [.r 13, .k (.bool true), .r 16], none, [13, 16]⟩,
 ⟨some 18, .mov, [.r 17], none, [17]⟩,
 ⟨some 19, .mov, [.r 4], (some (18, false)), []⟩,
 ⟨some 20, .bin .lss, [.r 19, .k (.int .i64 0)], (some (18, false)), [19]⟩,
 ⟨some 21, .pick, [.r 18, .k (.bool true), .r 20], none, [18, 20]⟩,
 ⟨some 22, .mov, [.r 21], none, [21]⟩,
 ⟨some 23, .mov, [.r 4], (some (22, false)), []⟩,
 ⟨some 24, .call 67, [.r 23], (some (22, false)), [23]⟩,
 ⟨some 25, .mov, [.r 0], (some (22, false)), [0]⟩,
 ⟨some 26, .bin .neq, [.r 24, .r 25], (some (22, false)), [24, 25]⟩,
 ⟨some 27, .pick, [.r 22, .k (.bool true), .r 26], none, [22, 26]⟩]) <|
.cond (.r 27)
 (.seq (.ops [⟨some 2, .mov, [.k (.int .i64 0)], none, [4, 27]⟩,
 ⟨some 3, .mov, [.k (.bool false)], none, []⟩]) <|
 .ret)
 (.skip)) <|
.seq (.ops [⟨some 28, .mov, [.r 4], none, [4, 27]⟩,
 ⟨some 2, .mov, [.r 28], none, [28]⟩,
 ⟨some 3, .mov, [.k (.bool true)], none, []⟩]) <|
.ret⟩
theorem c55 : cFn Tryz.prog 55 = some m55.bare := by kernel_rfl

/-- 'swingbridge/words.Name' -/
def m62_0 : MCode := .seq (.ops [⟨some 9, .bin .lss, [.r 8, .r 7], none, []⟩]) <|
 .seq (.cond (.r 9)
 (.skip)
 (.exit 0)) <|
 .seq (.block 1 (.seq (.ops [⟨some 10, .mov, [.r 8], none, [9]⟩,
 ⟨some 3, .mov, [.r 10], none, [10]⟩]) <|
 .seq (.ops [⟨some 11, .mov, [.r 0], none, []⟩,
 ⟨some 12, .mov, [.r 3], none, []⟩,
 ⟨some 13, .idxs, [.r 11, .r 12], none, [11, 12]⟩,
 ⟨some 4, .mov, [.r 13], none, [13]⟩]) <|
 .seq (.ops [⟨some 14, .mov, [.r 4], none, []⟩,
 ⟨some 15, .bin .geq, [.r 14, .k (.int .u8 48)], none, [14]⟩,
 ⟨some 16, .mov, [.r 15], none, [15]⟩,
 ⟨some 17, .mov, [.r 4], (some (16, true)), []⟩,
 ⟨some 18, .bin .leq, [.r 17, .k (.int .u8 57)], (some (16, true)), [17]⟩,
 ⟨some 19, .pick, [.r 16, .r 18, .k (.bool false)], none, [16, 18]⟩,
 ⟨some 5, .mov, [.r 19], none, [19]⟩]) <|
 .seq (.ops [⟨some 20, .mov, [.r 4], none, []⟩,
 ⟨some 21, .bin .lss, [.r 20, .k (.int .u8 97)], none, [20]⟩,
 ⟨some 22, .mov, [.r 21], none, [21]⟩,
 ⟨some 23, .mov, [.r 4], (some (22, false)), [4]⟩,
 ⟨some 24, .bin .gtr, [.r 23, .k (.int .u8 122)], (some (22, false)), [23]⟩,
 ⟨some 25, .pick, [.r 22, .k (.bool true), .r 24], none, [22, 24]⟩,
 ⟨some 26, .mov, [.r 25], none, [25]⟩,
 ⟨some 27, .mov, [.r 3], (some (26, true)), [3]⟩,
 ⟨some 28, .bin .eql, [.r 27, .k (.int .i64 0)], (some (26, true)), [27]⟩,
 ⟨some 29, .mov, [.r 28], (some (26, true)), [28]⟩,
 ⟨some 30, .mov, [.r 5], (some (29, false)), [5]⟩,
 ⟨some 31, .un .not, [.r 30], (some (29, false)), [30]⟩,
 ⟨some 32, .pick, [.r 29, .k (.bool true), .r 31], (some (26, true)), [29, 31]⟩,
 ⟨some 33, .pick, [.r 26, .r 32, .k (.bool false)], none, [26, 32]⟩]) <|
 .cond (.r 33)
 (.seq (.ops [⟨some 2, .mov, [.k (.bool false)], none, [0, 7, 8, 33]⟩]) <|
 .ret)
 (.skip))) <|
 .ops [⟨some 34, .bin .add, [.r 8, .k (.int .i64 1)], none, [8, 33]⟩,
 ⟨some 8, .mov, [.r 34], none, [34]⟩]
def m62 : MFn := ⟨[.tmp 2], .seq (.ops [⟨some 2, .mov, [.k (.bool false)], none, [2]⟩]) <|
.seq (.seq (.ops [⟨some 6, .mov, [.r 0], none, []⟩,
 ⟨some 7, .lens, [.r 6], none, [6]⟩,
 ⟨some 8, .mov, [.k (.int .i64 0)], none, []⟩]) <|
.block 0 (.loop m62_0)) <|
.seq (.ops [⟨some 35, .mov, [.r 0], none, [7, 8, 9]⟩,
 ⟨some 36, .bin .neq, [.r 35, .k (.string ⟨#[]⟩)], none, [35]⟩,
 ⟨some 37, .mov, [.r 36], none, [36]⟩,
 ⟨some 38, .mov, [.r 0], (some (37, true)), [0]⟩,
 ⟨some 39, .lens, [.r 38], (some (37, true)), [38]⟩,
 ⟨some 40, .bin .leq, [.r 39, .k (.int .i64 8)], (some (37, true)), [39]⟩,
 ⟨some 41, .pick, [.r 37, .r 40, .k (.bool false)], none, [37, 40]⟩,
 ⟨some 2, .mov, [.r 41], none, [41]⟩]) <|
.ret⟩
theorem c62 : cFn Tryz.prog 62 = some m62.bare := by kernel_rfl

/-- 'swingbridge/swingbridgeref7.Name' -/
def m68_0 : MCode := .seq (.seq (.ops [⟨some 5, .mov, [.r 3], none, []⟩,
 ⟨some 6, .mov, [.r 0], none, []⟩,
 ⟨some 7, .lens, [.r 6], none, [6]⟩,
 ⟨some 8, .bin .lss, [.r 5, .r 7], none, [5, 7]⟩]) <|
 .cond (.r 8)
 (.skip)
 (.exit 0)) <|
 .seq (.block 1 (.seq (.ops [⟨some 11, .mov, [.r 0], none, [8]⟩,
 ⟨some 12, .mov, [.r 3], none, []⟩,
 ⟨some 13, .idxs, [.r 11, .r 12], none, [11, 12]⟩,
 ⟨some 4, .mov, [.r 13], none, [13]⟩]) <|
 .seq (.ops [⟨some 14, .mov, [.r 4], none, []⟩,
 ⟨some 15, .bin .lss, [.r 14, .k (.int .u8 97)], none, [14]⟩,
 ⟨some 16, .mov, [.r 15], none, [15]⟩,
 ⟨some 17, .mov, [.r 4], (some (16, false)), []⟩,
 ⟨some 18, .bin .gtr, [.r 17, .k (.int .u8 122)], (some (16, false)), [17]⟩,
 ⟨some 19, .pick, [.r 16, .k (.bool true), .r 18], none, [16, 18]⟩,
 ⟨some 20, .mov, [.r 19], none, [19]⟩,
 ⟨some 21, .mov, [.r 4], (some (20, true)), []⟩,
 ⟨some 22, .bin .lss, [.r 21, .k (.int .u8 48)], (some (20, true)), [21]⟩,
 ⟨some 23, .mov, [.r 22], (some (20, true)), [22]⟩,
 ⟨some 24, .mov, [.r 4], (some (23, false)), [4]⟩,
 ⟨some 25, .bin .gtr, [.r 24, .k (.int .u8 57)], (some (23, false)), [24]⟩,
 ⟨some 26, .pick, [.r 23, .k (.bool true), .r 25], (some (20, true)), [23, 25]⟩,
 ⟨some 27, .mov, [.r 26], (some (20, true)), [26]⟩,
 ⟨some 28, .mov, [.r 3], (some (27, false)), []⟩,
 ⟨some 29, .bin .eql, [.r 28, .k (.int .i64 0)], (some (27, false)), [28]⟩,
 ⟨some 30, .pick, [.r 27, .k (.bool true), .r 29], (some (20, true)), [27, 29]⟩,
 ⟨some 31, .pick, [.r 20, .r 30, .k (.bool false)], none, [20, 30]⟩]) <|
 .cond (.r 31)
 (.seq (.ops [⟨some 2, .mov, [.k (.bool false)], none, [0, 3, 31]⟩]) <|
 .ret)
 (.skip))) <|
 .ops [⟨some 9, .mov, [.r 3], none, [3, 31]⟩,
 ⟨some 10, .bin .add, [.r 9, .k (.int .i64 1)], none, [9]⟩,
 ⟨some 3, .mov, [.r 10], none, [10]⟩]
def m68 : MFn := ⟨[.tmp 2], .seq (.ops [⟨some 2, .mov, [.k (.bool false)], none, [2]⟩]) <|
.seq (.seq (.ops [⟨some 3, .mov, [.k (.int .i64 0)], none, []⟩]) <|
.block 0 (.loop m68_0)) <|
.seq (.ops [⟨some 32, .mov, [.r 0], none, [3, 8]⟩,
 ⟨some 33, .lens, [.r 32], none, [32]⟩,
 ⟨some 34, .bin .geq, [.r 33, .k (.int .i64 1)], none, [33]⟩,
 ⟨some 35, .mov, [.r 34], none, [34]⟩,
 ⟨some 36, .mov, [.r 0], (some (35, true)), [0]⟩,
 ⟨some 37, .lens, [.r 36], (some (35, true)), [36]⟩,
 ⟨some 38, .bin .leq, [.r 37, .k (.int .i64 8)], (some (35, true)), [37]⟩,
 ⟨some 39, .pick, [.r 35, .r 38, .k (.bool false)], none, [35, 38]⟩,
 ⟨some 2, .mov, [.r 39], none, [39]⟩]) <|
.ret⟩
theorem c68 : cFn Tryz.prog 68 = some m68.bare := by kernel_rfl

def mpW (f : FuncId) : Option MDef := match f with
 | 13 => some (.code m13)
 | 15 => some (.code m15)
 | 21 => some (.code m21)
 | 33 => some (.code m33)
 | 37 => some (.code m37)
 | 39 => some (.code m39)
 | 46 => some (.code m46)
 | 50 => some (.code m50)
 | 55 => some (.code m55)
 | 62 => some (.code m62)
 | 68 => some (.code m68)
 | _ => none
theorem mpW_code : ∀ f fn, mpW f = some (.code fn) → cFn Tryz.prog f = some fn.bare := by
 intro f fn h
 unfold mpW at h
 split at h
 · cases h; exact c13
 · cases h; exact c15
 · cases h; exact c21
 · cases h; exact c33
 · cases h; exact c37
 · cases h; exact c39
 · cases h; exact c46
 · cases h; exact c50
 · cases h; exact c55
 · cases h; exact c62
 · cases h; exact c68
 · cases h
theorem mpW_ok : MapOk Tryz.prog mpW := ⟨by kernel_rfl, mpW_code, fun f s h => by
 unfold mpW at h
 split at h <;> cases h⟩
end Go.Mod

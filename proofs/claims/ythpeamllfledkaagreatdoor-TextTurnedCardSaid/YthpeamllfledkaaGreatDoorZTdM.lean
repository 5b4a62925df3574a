/- The model's code of functions of the program, and that it is the program's. Printed by wip/tool. -/
import Derived.Test.YthpeamllfledkaaGreatDoorZWdM
import Derived.Test.YthpeamllfledkaaGreatDoorProg
import Derived.Test.YthpeamllfledkaaGreatDoorGrC
namespace Go.Mod
open Go.Proofs

/-- 'swingbridge/swingbridgelaw9.known' -/
def m5 : MFn := ⟨[.tmp 0], .seq (.ops [⟨some 0, .mov, [.k (.bool false)], none, [0]⟩]) <|
.seq (.ops [⟨some 11, .call 7, [.k (.string ⟨#[112, 114, 111, 116, 111, 99, 111, 108, 32, 102, 97, 105, 114, 10, 99, 111, 114, 101, 115, 32, 49, 10, 104, 111, 109, 101, 115, 32, 48, 10, 10, 116, 97, 115, 107, 32, 97, 32, 49, 48, 32, 49, 48, 32, 49, 32, 48, 32, 114, 117, 110, 58, 51, 32, 108, 111, 99, 107, 58, 48, 58, 50, 32, 35, 32, 115, 111, 10]⟩)], none, []⟩,
 ⟨some 10, .mov, [.r 11], none, [11]⟩,
 ⟨some 12, .extract 0, [.r 10], none, []⟩,
 ⟨some 13, .extract 1, [.r 10], none, []⟩,
 ⟨some 14, .extract 2, [.r 10], none, [10]⟩,
 ⟨some 1, .new 0 [.int .i64 0, .slice none 0 0, .slice none 0 0, .slice none 0 0], [], none, []⟩,
 ⟨none, .st 4, [.r 1, .r 12], none, [12]⟩,
 ⟨some 2, .mov, [.r 13], none, [13]⟩,
 ⟨some 3, .mov, [.r 14], none, [14]⟩]) <|
.seq (.ops [⟨some 16, .call 7, [.k (.string ⟨#[112, 114, 111, 116, 111, 99, 111, 108, 32, 102, 97, 105, 114, 10, 99, 111, 114, 101, 115, 32, 49, 10, 104, 111, 109, 101, 115, 32, 48, 10, 116, 97, 115, 107, 32, 97, 32, 49, 48, 32, 49, 48, 32, 49, 32, 48, 32, 108, 111, 99, 107, 58, 48, 58, 108, 111, 99, 107, 58, 48, 58, 50, 10]⟩)], none, []⟩,
 ⟨some 15, .mov, [.r 16], none, [16]⟩,
 ⟨some 17, .extract 0, [.r 15], none, []⟩,
 ⟨some 18, .extract 1, [.r 15], none, []⟩,
 ⟨some 19, .extract 2, [.r 15], none, [15]⟩,
 ⟨some 4, .new 0 [.int .i64 0, .slice none 0 0, .slice none 0 0, .slice none 0 0], [], none, []⟩,
 ⟨none, .st 4, [.r 4, .r 17], none, [4, 17]⟩,
 ⟨some 5, .mov, [.r 18], none, [18]⟩,
 ⟨some 6, .mov, [.r 19], none, [19]⟩]) <|
.seq (.ops [⟨some 21, .call 7, [.k (.string ⟨#[99, 111, 114, 101, 115, 32, 49, 10]⟩)], none, []⟩,
 ⟨some 20, .mov, [.r 21], none, [21]⟩,
 ⟨some 22, .extract 0, [.r 20], none, []⟩,
 ⟨some 23, .extract 1, [.r 20], none, []⟩,
 ⟨some 24, .extract 2, [.r 20], none, [20]⟩,
 ⟨some 7, .new 0 [.int .i64 0, .slice none 0 0, .slice none 0 0, .slice none 0 0], [], none, []⟩,
 ⟨none, .st 4, [.r 7, .r 22], none, [7, 22]⟩,
 ⟨some 8, .mov, [.r 23], none, [23]⟩,
 ⟨some 9, .mov, [.r 24], none, [24]⟩]) <|
.seq (.ops [⟨some 25, .mov, [.r 3], none, [3]⟩,
 ⟨some 26, .bin .eql, [.r 25, .k (.int .i64 0)], none, [25]⟩,
 ⟨some 27, .mov, [.r 26], none, [26]⟩,
 ⟨some 28, .mov, [.r 2], (some (27, true)), [2]⟩,
 ⟨some 29, .bin .eql, [.r 28, .k (.int .i64 5)], (some (27, true)), [28]⟩,
 ⟨some 30, .pick, [.r 27, .r 29, .k (.bool false)], none, [27, 29]⟩,
 ⟨some 31, .mov, [.r 30], none, [30]⟩,
 ⟨some 32, .fa 3, [.r 1], (some (31, true)), []⟩,
 ⟨some 33, .ld none, [.r 32], (some (31, true)), [32]⟩,
 ⟨some 34, .len, [.r 33], (some (31, true)), [33]⟩,
 ⟨some 35, .bin .eql, [.r 34, .k (.int .i64 1)], (some (31, true)), [34]⟩,
 ⟨some 36, .pick, [.r 31, .r 35, .k (.bool false)], none, [31, 35]⟩,
 ⟨some 37, .mov, [.r 36], none, [36]⟩,
 ⟨some 38, .fa 3, [.r 1], (some (37, true)), []⟩,
 ⟨some 39, .ld none, [.r 38], (some (37, true)), [38]⟩,
 ⟨some 40, .ia 6, [.r 39, .k (.int .i64 0)], (some (37, true)), [39]⟩,
 ⟨some 41, .fa 5, [.r 40], (some (37, true)), [40]⟩,
 ⟨some 42, .ld none, [.r 41], (some (37, true)), [41]⟩,
 ⟨some 43, .len, [.r 42], (some (37, true)), [42]⟩,
 ⟨some 44, .bin .eql, [.r 43, .k (.int .i64 2)], (some (37, true)), [43]⟩,
 ⟨some 45, .pick, [.r 37, .r 44, .k (.bool false)], none, [37, 44]⟩,
 ⟨some 46, .mov, [.r 45], none, [45]⟩,
 ⟨some 47, .fa 3, [.r 1], (some (46, true)), []⟩,
 ⟨some 48, .ld none, [.r 47], (some (46, true)), [47]⟩,
 ⟨some 49, .ia 6, [.r 48, .k (.int .i64 0)], (some (46, true)), [48]⟩,
 ⟨some 50, .fa 5, [.r 49], (some (46, true)), [49]⟩,
 ⟨some 51, .ld none, [.r 50], (some (46, true)), [50]⟩,
 ⟨some 52, .ia 3, [.r 51, .k (.int .i64 1)], (some (46, true)), [51]⟩,
 ⟨some 53, .ld (some 3), [.r 52], (some (46, true)), [52]⟩,
 ⟨some 54, .build [.int .i64 0, .int .i64 0, .int .i64 0] [(0, 1), (1, 1)], [.k (.int .i64 3), .k (.int .i64 2)], (some (46, true)), []⟩,
 ⟨some 55, .eqv false (.agg [.int, .int, .int]), [.r 53, .r 54], (some (46, true)), [53, 54]⟩,
 ⟨some 56, .pick, [.r 46, .r 55, .k (.bool false)], none, [46, 55]⟩,
 ⟨some 57, .mov, [.r 56], none, [56]⟩,
 ⟨some 58, .mov, [.r 6], (some (57, true)), [6]⟩,
 ⟨some 59, .bin .eql, [.r 58, .k (.int .i64 18)], (some (57, true)), [58]⟩,
 ⟨some 60, .pick, [.r 57, .r 59, .k (.bool false)], none, [57, 59]⟩,
 ⟨some 61, .mov, [.r 60], none, [60]⟩,
 ⟨some 62, .mov, [.r 5], (some (61, true)), [5]⟩,
 ⟨some 63, .bin .eql, [.r 62, .k (.int .i64 3)], (some (61, true)), [62]⟩,
 ⟨some 64, .pick, [.r 61, .r 63, .k (.bool false)], none, [61, 63]⟩,
 ⟨some 65, .mov, [.r 64], none, [64]⟩,
 ⟨some 66, .mov, [.r 9], (some (65, true)), [9]⟩,
 ⟨some 67, .bin .eql, [.r 66, .k (.int .i64 10)], (some (65, true)), [66]⟩,
 ⟨some 68, .pick, [.r 65, .r 67, .k (.bool false)], none, [65, 67]⟩,
 ⟨some 69, .mov, [.r 68], none, [68]⟩,
 ⟨some 70, .mov, [.r 8], (some (69, true)), [8]⟩,
 ⟨some 71, .bin .eql, [.r 70, .k (.int .i64 0)], (some (69, true)), [70]⟩,
 ⟨some 72, .pick, [.r 69, .r 71, .k (.bool false)], none, [69, 71]⟩,
 ⟨some 73, .mov, [.r 72], none, [72]⟩,
 ⟨some 74, .ld (some 4), [.r 1], (some (73, true)), [1]⟩,
 ⟨some 75, .call 9, [.r 74], (some (73, true)), [74]⟩,
 ⟨some 76, .bin .eql, [.r 75, .k (.string ⟨#[112, 114, 111, 116, 111, 99, 111, 108, 32, 102, 97, 105, 114, 10, 99, 111, 114, 101, 115, 32, 49, 10, 104, 111, 109, 101, 115, 32, 48, 10, 116, 97, 115, 107, 32, 97, 32, 49, 48, 32, 49, 48, 32, 49, 32, 48, 32, 114, 117, 110, 58, 51, 32, 108, 111, 99, 107, 58, 48, 58, 50, 10]⟩)], (some (73, true)), [75]⟩,
 ⟨some 77, .pick, [.r 73, .r 76, .k (.bool false)], none, [73, 76]⟩,
 ⟨some 0, .mov, [.r 77], none, [77]⟩]) <|
.ret⟩
theorem c5 : cFn Tryz.prog 5 = some m5.bare := by kernel_rfl

/-- 'swingbridge/swingbridgelaw9.few' -/
def m6_0 : MCode := .seq (.seq (.ops [⟨some 20, .mov, [.r 3], none, []⟩,
 ⟨some 21, .fa 3, [.r 1], none, []⟩,
 ⟨some 22, .ld none, [.r 21], none, [21]⟩,
 ⟨some 23, .len, [.r 22], none, [22]⟩,
 ⟨some 24, .bin .lss, [.r 20, .r 23], none, [20, 23]⟩]) <|
 .cond (.r 24)
 (.skip)
 (.exit 0)) <|
 .seq (.block 1 (.seq (.ops [⟨some 27, .fa 3, [.r 1], none, [24]⟩,
 ⟨some 28, .ld none, [.r 27], none, [27]⟩,
 ⟨some 29, .mov, [.r 3], none, []⟩,
 ⟨some 30, .ia 6, [.r 28, .r 29], none, [28, 29]⟩,
 ⟨some 31, .fa 0, [.r 30], none, [30]⟩,
 ⟨some 32, .ld none, [.r 31], none, [31]⟩,
 ⟨some 33, .lens, [.r 32], none, [32]⟩,
 ⟨some 34, .bin .gtr, [.r 33, .k (.int .i64 20)], none, [33]⟩,
 ⟨some 35, .mov, [.r 34], none, [34]⟩,
 ⟨some 36, .fa 3, [.r 1], (some (35, false)), []⟩,
 ⟨some 37, .ld none, [.r 36], (some (35, false)), [36]⟩,
 ⟨some 38, .mov, [.r 3], (some (35, false)), []⟩,
 ⟨some 39, .ia 6, [.r 37, .r 38], (some (35, false)), [37, 38]⟩,
 ⟨some 40, .fa 5, [.r 39], (some (35, false)), [39]⟩,
 ⟨some 41, .ld none, [.r 40], (some (35, false)), [40]⟩,
 ⟨some 42, .len, [.r 41], (some (35, false)), [41]⟩,
 ⟨some 43, .bin .gtr, [.r 42, .k (.int .i64 10)], (some (35, false)), [42]⟩,
 ⟨some 44, .pick, [.r 35, .k (.bool true), .r 43], none, [35, 43]⟩]) <|
 .cond (.r 44)
 (.seq (.ops [⟨some 2, .mov, [.k (.bool false)], none, [1, 3, 44]⟩]) <|
 .ret)
 (.skip))) <|
 .ops [⟨some 25, .mov, [.r 3], none, [3, 44]⟩,
 ⟨some 26, .bin .add, [.r 25, .k (.int .i64 1)], none, [25]⟩,
 ⟨some 3, .mov, [.r 26], none, [26]⟩]
def m6 : MFn := ⟨[.tmp 2], .seq (.ops [⟨some 1, .box, [.r 0], none, [0]⟩,
 ⟨some 2, .mov, [.k (.bool false)], none, [2]⟩]) <|
.seq (.seq (.ops [⟨some 4, .fa 1, [.r 1], none, []⟩,
 ⟨some 5, .ld none, [.r 4], none, [4]⟩,
 ⟨some 6, .len, [.r 5], none, [5]⟩,
 ⟨some 7, .bin .gtr, [.r 6, .k (.int .i64 8)], none, [6]⟩,
 ⟨some 8, .mov, [.r 7], none, [7]⟩,
 ⟨some 9, .fa 2, [.r 1], (some (8, false)), []⟩,
 ⟨some 10, .ld none, [.r 9], (some (8, false)), [9]⟩,
 ⟨some 11, .len, [.r 10], (some (8, false)), [10]⟩,
 ⟨some 12, .bin .gtr, [.r 11, .k (.int .i64 10)], (some (8, false)), [11]⟩,
 ⟨some 13, .pick, [.r 8, .k (.bool true), .r 12], none, [8, 12]⟩,
 ⟨some 14, .mov, [.r 13], none, [13]⟩,
 ⟨some 15, .fa 3, [.r 1], (some (14, false)), []⟩,
 ⟨some 16, .ld none, [.r 15], (some (14, false)), [15]⟩,
 ⟨some 17, .len, [.r 16], (some (14, false)), [16]⟩,
 ⟨some 18, .bin .gtr, [.r 17, .k (.int .i64 9)], (some (14, false)), [17]⟩,
 ⟨some 19, .pick, [.r 14, .k (.bool true), .r 18], none, [14, 18]⟩]) <|
.cond (.r 19)
 (.seq (.ops [⟨some 2, .mov, [.k (.bool false)], none, [1, 19]⟩]) <|
 .ret)
 (.skip)) <|
.seq (.seq (.ops [⟨some 3, .mov, [.k (.int .i64 0)], none, [19]⟩]) <|
.block 0 (.loop m6_0)) <|
.seq (.ops [⟨some 2, .mov, [.k (.bool true)], none, [1, 3, 24]⟩]) <|
.ret⟩
theorem c6 : cFn Tryz.prog 6 = some m6.bare := by kernel_rfl

/-- 'swingbridge/text.Parse' -/
def m7_0 : MCode := .seq (.ops [⟨some 43, .bin .lss, [.r 42, .r 41], none, []⟩]) <|
 .seq (.cond (.r 43)
 (.skip)
 (.exit 0)) <|
 .seq (.block 1 (.seq (.ops [⟨some 44, .ia 2, [.r 40, .r 42], none, [43]⟩,
 ⟨some 45, .ld (some 2), [.r 44], none, [44]⟩,
 ⟨some 11, .new 0 [.int .i64 0, .slice none 0 0], [], none, []⟩,
 ⟨none, .st 2, [.r 11, .r 45], none, [45]⟩]) <|
 .seq (.seq (.ops [⟨some 46, .fa 1, [.r 11], none, []⟩,
 ⟨some 47, .ld none, [.r 46], none, [46]⟩,
 ⟨some 48, .ia 1, [.r 47, .k (.int .i64 0)], none, [47]⟩,
 ⟨some 49, .ld none, [.r 48], none, [48]⟩,
 ⟨some 50, .bin .neq, [.r 49, .k (.string ⟨#[116, 97, 115, 107]⟩)], none, [49]⟩]) <|
 .cond (.r 50)
 (.seq (.draw [⟨some 51, .build [.int .i64 0, .slice none 0 0, .slice none 0 0, .slice none 0 0] [], [], none, [5, 6, 7, 8, 40, 41, 42, 50]⟩,
 ⟨some 52, .fa 0, [.r 11], none, [11]⟩,
 ⟨some 53, .ld none, [.r 52], none, [52]⟩,
 ⟨none, .st 4, [.r 2, .r 51], none, [51]⟩,
 ⟨some 3, .mov, [.r 53], none, [53]⟩,
 ⟨some 4, .mov, [.k (.int .i64 10)], none, []⟩] [(2, 3)]) <|
 .ret)
 (.skip)) <|
 .seq (.ops [⟨some 55, .fa 1, [.r 11], none, [50]⟩,
 ⟨some 56, .ld none, [.r 55], none, [55]⟩,
 ⟨some 57, .call 19, [.r 56], none, [56]⟩,
 ⟨some 54, .mov, [.r 57], none, [57]⟩,
 ⟨some 58, .extract 0, [.r 54], none, []⟩,
 ⟨some 59, .extract 1, [.r 54], none, [54]⟩,
 ⟨some 12, .new 0 [.string ⟨#[]⟩, .int .i64 0, .int .i64 0, .int .i64 0, .int .i64 0, .slice none 0 0], [], none, []⟩,
 ⟨none, .st 6, [.r 12, .r 58], none, [58]⟩,
 ⟨some 13, .mov, [.r 59], none, [59]⟩]) <|
 .seq (.seq (.ops [⟨some 60, .mov, [.r 13], none, []⟩,
 ⟨some 61, .bin .neq, [.r 60, .k (.int .i64 0)], none, [60]⟩]) <|
 .cond (.r 61)
 (.seq (.draw [⟨some 62, .build [.int .i64 0, .slice none 0 0, .slice none 0 0, .slice none 0 0] [], [], none, [5, 6, 7, 8, 12, 40, 41, 42, 61]⟩,
 ⟨some 63, .fa 0, [.r 11], none, [11]⟩,
 ⟨some 64, .ld none, [.r 63], none, [63]⟩,
 ⟨some 65, .mov, [.r 13], none, [13]⟩,
 ⟨none, .st 4, [.r 2, .r 62], none, [62]⟩,
 ⟨some 3, .mov, [.r 64], none, [64]⟩,
 ⟨some 4, .mov, [.r 65], none, [65]⟩] [(2, 4)]) <|
 .ret)
 (.skip)) <|
 .ops [⟨some 66, .fa 3, [.r 7], none, [11, 13, 61]⟩,
 ⟨some 67, .ld none, [.r 66], none, [66]⟩,
 ⟨some 68, .ld (some 6), [.r 12], none, [12]⟩,
 ⟨some 69, .bslice 6 1 [.string ⟨#[]⟩, .int .i64 0, .int .i64 0, .int .i64 0, .int .i64 0, .slice none 0 0] [(0, 6)], [.r 68], none, [68]⟩,
 ⟨some 70, .app 6 72, [.r 67, .r 69], none, [67, 69]⟩,
 ⟨some 71, .fa 3, [.r 7], none, []⟩,
 ⟨none, .st 1, [.r 71, .r 70], none, [70, 71]⟩])) <|
 .ops [⟨some 72, .bin .add, [.r 42, .k (.int .i64 1)], none, [42]⟩,
 ⟨some 42, .mov, [.r 72], none, [72]⟩]
def m7 : MFn := ⟨[.cell 2 (some 4), .tmp 3, .tmp 4], .seq (.ops [⟨some 2, .new 0 [.int .i64 0, .slice none 0 0, .slice none 0 0, .slice none 0 0], [], none, []⟩,
 ⟨some 3, .mov, [.k (.int .i64 0)], none, [3]⟩,
 ⟨some 4, .mov, [.k (.int .i64 0)], none, [4]⟩]) <|
.seq (.seq (.ops [⟨some 16, .mov, [.r 0], none, []⟩,
 ⟨some 17, .lens, [.r 16], none, [16]⟩,
 ⟨some 18, .bin .gtr, [.r 17, .k (.int .i64 2000)], none, [17]⟩]) <|
.cond (.r 18)
 (.seq (.ops [⟨some 19, .build [.int .i64 0, .slice none 0 0, .slice none 0 0, .slice none 0 0] [], [], none, [0, 18]⟩,
 ⟨none, .st 4, [.r 2, .r 19], none, [19]⟩,
 ⟨some 3, .mov, [.k (.int .i64 0)], none, []⟩,
 ⟨some 4, .mov, [.k (.int .i64 11)], none, []⟩]) <|
 .ret)
 (.skip)) <|
.seq (.ops [⟨some 20, .mov, [.r 0], none, [0, 18]⟩,
 ⟨some 21, .call 15, [.r 20], none, [20]⟩,
 ⟨some 5, .mov, [.r 21], none, [21]⟩]) <|
.seq (.ops [⟨some 22, .mov, [.r 5], none, []⟩,
 ⟨some 23, .call 16, [.r 22], none, [22]⟩,
 ⟨some 6, .mov, [.r 23], none, [23]⟩]) <|
.seq (.ops [⟨some 25, .mov, [.r 6], none, []⟩,
 ⟨some 26, .call 17, [.r 25], none, [25]⟩,
 ⟨some 24, .mov, [.r 26], none, [26]⟩,
 ⟨some 27, .extract 0, [.r 24], none, []⟩,
 ⟨some 28, .extract 1, [.r 24], none, []⟩,
 ⟨some 29, .extract 2, [.r 24], none, [24]⟩,
 ⟨some 7, .new 0 [.int .i64 0, .slice none 0 0, .slice none 0 0, .slice none 0 0], [], none, []⟩,
 ⟨none, .st 4, [.r 7, .r 27], none, [27]⟩,
 ⟨some 8, .mov, [.r 28], none, [28]⟩,
 ⟨some 9, .mov, [.r 29], none, [29]⟩]) <|
.seq (.seq (.ops [⟨some 30, .mov, [.r 9], none, [9]⟩,
 ⟨some 31, .un .not, [.r 30], none, [30]⟩]) <|
.cond (.r 31)
 (.seq (.ops [⟨some 32, .build [.int .i64 0, .slice none 0 0, .slice none 0 0, .slice none 0 0] [], [], none, [7, 31]⟩,
 ⟨some 33, .mov, [.r 6], none, [6]⟩,
 ⟨some 34, .mov, [.r 8], none, [8]⟩,
 ⟨some 35, .mov, [.r 5], none, [5]⟩,
 ⟨some 36, .len, [.r 35], none, [35]⟩,
 ⟨some 37, .call 18, [.r 33, .r 34, .r 36], none, [33, 34, 36]⟩,
 ⟨none, .st 4, [.r 2, .r 32], none, [32]⟩,
 ⟨some 3, .mov, [.r 37], none, [37]⟩,
 ⟨some 4, .mov, [.k (.int .i64 10)], none, []⟩]) <|
 .ret)
 (.skip)) <|
.seq (.seq (.ops [⟨some 38, .mov, [.r 6], none, [31]⟩,
 ⟨some 39, .mov, [.r 8], none, []⟩,
 ⟨some 40, .sl 2 true false false, [.r 38, .r 39], none, [38, 39]⟩,
 ⟨some 41, .len, [.r 40], none, []⟩,
 ⟨some 42, .mov, [.k (.int .i64 0)], none, []⟩]) <|
.block 0 (.loop m7_0)) <|
.seq (.ops [⟨some 74, .ld (some 4), [.r 7], none, [40, 41, 42, 43]⟩,
 ⟨some 75, .call 20, [.r 74], none, [74]⟩,
 ⟨some 73, .mov, [.r 75], none, [75]⟩,
 ⟨some 76, .extract 0, [.r 73], none, []⟩,
 ⟨some 77, .extract 1, [.r 73], none, [73]⟩,
 ⟨some 14, .mov, [.r 76], none, [76]⟩,
 ⟨some 15, .mov, [.r 77], none, [77]⟩]) <|
.seq (.block 2 (.seq (.ops [⟨some 79, .mov, [.r 15], none, []⟩,
 ⟨some 80, .bin .eql, [.r 79, .k (.int .i64 0)], none, [79]⟩,
 ⟨some 78, .mov, [.r 80], none, [80]⟩]) <|
 .cond (.r 78)
 (.seq (.ops [⟨some 81, .ld (some 4), [.r 7], none, [6, 7, 8, 14, 15, 78]⟩,
 ⟨some 82, .mov, [.r 5], none, [5]⟩,
 ⟨some 83, .len, [.r 82], none, [82]⟩,
 ⟨none, .st 4, [.r 2, .r 81], none, [81]⟩,
 ⟨some 3, .mov, [.r 83], none, [83]⟩,
 ⟨some 4, .mov, [.k (.int .i64 0)], none, []⟩]) <|
 .ret)
 (.seq (.ops [⟨some 85, .mov, [.r 14], none, [7, 78]⟩,
 ⟨some 86, .bin .geq, [.r 85, .k (.int .i64 0)], none, [85]⟩,
 ⟨some 84, .mov, [.r 86], none, [86]⟩]) <|
 .cond (.r 84)
 (.seq (.draw [⟨some 87, .build [.int .i64 0, .slice none 0 0, .slice none 0 0, .slice none 0 0] [], [], none, [5, 84]⟩,
 ⟨some 88, .mov, [.r 6], none, [6]⟩,
 ⟨some 89, .mov, [.r 8], none, [8]⟩,
 ⟨some 90, .mov, [.r 14], none, [14]⟩,
 ⟨some 91, .bin .add, [.r 89, .r 90], none, [89, 90]⟩,
 ⟨some 92, .ia 2, [.r 88, .r 91], none, [88, 91]⟩,
 ⟨some 93, .fa 0, [.r 92], none, [92]⟩,
 ⟨some 94, .ld none, [.r 93], none, [93]⟩,
 ⟨some 95, .mov, [.r 15], none, [15]⟩,
 ⟨none, .st 4, [.r 2, .r 87], none, [87]⟩,
 ⟨some 3, .mov, [.r 94], none, [94]⟩,
 ⟨some 4, .mov, [.r 95], none, [95]⟩] [(7, 9)]) <|
 .ret)
 (.seq (.ops [⟨some 97, .mov, [.r 15], none, [8, 14, 84]⟩,
 ⟨some 98, .bin .eql, [.r 97, .k (.int .i64 14)], none, [97]⟩,
 ⟨some 99, .mov, [.r 98], none, [98]⟩,
 ⟨some 100, .mov, [.r 15], (some (99, false)), []⟩,
 ⟨some 101, .bin .eql, [.r 100, .k (.int .i64 11)], (some (99, false)), [100]⟩,
 ⟨some 102, .pick, [.r 99, .k (.bool true), .r 101], none, [99, 101]⟩,
 ⟨some 96, .mov, [.r 102], none, [102]⟩]) <|
 .cond (.r 96)
 (.seq (.ops [⟨some 103, .build [.int .i64 0, .slice none 0 0, .slice none 0 0, .slice none 0 0] [], [], none, [6, 96]⟩,
 ⟨some 104, .mov, [.r 5], none, [5]⟩,
 ⟨some 105, .len, [.r 104], none, [104]⟩,
 ⟨some 106, .mov, [.r 15], none, [15]⟩,
 ⟨none, .st 4, [.r 2, .r 103], none, [103]⟩,
 ⟨some 3, .mov, [.r 105], none, [105]⟩,
 ⟨some 4, .mov, [.r 106], none, [106]⟩]) <|
 .ret)
 (.skip))))) <|
.seq (.draw [⟨some 107, .build [.int .i64 0, .slice none 0 0, .slice none 0 0, .slice none 0 0] [], [], none, [5, 96]⟩,
 ⟨some 108, .mov, [.r 6], none, [6]⟩,
 ⟨some 109, .ia 2, [.r 108, .k (.int .i64 1)], none, [108]⟩,
 ⟨some 110, .fa 0, [.r 109], none, [109]⟩,
 ⟨some 111, .ld none, [.r 110], none, [110]⟩,
 ⟨some 112, .mov, [.r 15], none, [15]⟩,
 ⟨none, .st 4, [.r 2, .r 107], none, [107]⟩,
 ⟨some 3, .mov, [.r 111], none, [111]⟩,
 ⟨some 4, .mov, [.r 112], none, [112]⟩] [(4, 6)]) <|
.ret⟩
theorem c7 : cFn Tryz.prog 7 = some m7.bare := by kernel_rfl

/-- 'swingbridge/swingbridgeref7.Parse' -/
def m8_0 : MCode := .seq (.seq (.ops [⟨some 23, .mov, [.r 10], none, []⟩,
 ⟨some 24, .mov, [.r 5], none, []⟩,
 ⟨some 25, .len, [.r 24], none, [24]⟩,
 ⟨some 26, .bin .lss, [.r 23, .r 25], none, [23, 25]⟩]) <|
 .cond (.r 26)
 (.skip)
 (.exit 0)) <|
 .seq (.block 1 (.seq (.ops [⟨some 29, .mov, [.r 5], none, [26]⟩,
 ⟨some 30, .mov, [.r 10], none, []⟩,
 ⟨some 31, .ia 1, [.r 29, .r 30], none, [29, 30]⟩,
 ⟨some 32, .ld none, [.r 31], none, [31]⟩,
 ⟨some 33, .call 21, [.r 32], none, [32]⟩,
 ⟨some 11, .mov, [.r 33], none, [33]⟩]) <|
 .seq (.seq (.ops [⟨some 34, .mov, [.r 11], none, []⟩,
 ⟨some 35, .len, [.r 34], none, [34]⟩,
 ⟨some 36, .bin .eql, [.r 35, .k (.int .i64 0)], none, [35]⟩]) <|
 .cond (.r 36)
 (.exit 1)
 (.skip)) <|
 .seq (.ops [⟨some 38, .mov, [.r 11], none, [36]⟩,
 ⟨some 39, .sl 1 true false false, [.r 38, .k (.int .i64 1)], none, [38]⟩,
 ⟨some 40, .call 22, [.r 39], none, [39]⟩,
 ⟨some 37, .mov, [.r 40], none, [40]⟩,
 ⟨some 41, .extract 0, [.r 37], none, []⟩,
 ⟨some 42, .extract 1, [.r 37], none, [37]⟩,
 ⟨some 12, .mov, [.r 41], none, [41]⟩,
 ⟨some 13, .mov, [.r 42], none, [42]⟩]) <|
 .block 2 (.seq (.ops [⟨some 46, .mov, [.r 7], none, []⟩,
 ⟨some 47, .bin .eql, [.r 46, .k (.int .i64 0)], none, [46]⟩,
 ⟨some 48, .mov, [.r 47], none, [47]⟩,
 ⟨some 49, .mov, [.r 11], (some (48, true)), []⟩,
 ⟨some 50, .call 23, [.r 49], (some (48, true)), [49]⟩,
 ⟨some 51, .bin .gtr, [.r 50, .k (.int .i64 0)], (some (48, true)), [50]⟩,
 ⟨some 52, .pick, [.r 48, .r 51, .k (.bool false)], none, [48, 51]⟩,
 ⟨some 45, .mov, [.r 52], none, [52]⟩]) <|
 .cond (.r 45)
 (.seq (.ops [⟨some 53, .mov, [.r 11], none, [7, 11, 12, 13, 45]⟩,
 ⟨some 54, .call 23, [.r 53], none, [53]⟩,
 ⟨some 55, .fa 0, [.r 6], none, []⟩,
 ⟨none, .st 1, [.r 55, .r 54], none, [54, 55]⟩]) <|
 .ops [⟨some 7, .mov, [.k (.int .i64 1)], none, []⟩])
 (.seq (.ops [⟨some 57, .mov, [.r 7], none, [45]⟩,
 ⟨some 58, .bin .eql, [.r 57, .k (.int .i64 1)], none, [57]⟩,
 ⟨some 59, .mov, [.r 58], none, [58]⟩,
 ⟨some 60, .mov, [.r 11], (some (59, true)), []⟩,
 ⟨some 61, .ia 1, [.r 60, .k (.int .i64 0)], (some (59, true)), [60]⟩,
 ⟨some 62, .ld none, [.r 61], (some (59, true)), [61]⟩,
 ⟨some 63, .bin .eql, [.r 62, .k (.string ⟨#[99, 111, 114, 101, 115]⟩)], (some (59, true)), [62]⟩,
 ⟨some 64, .pick, [.r 59, .r 63, .k (.bool false)], none, [59, 63]⟩,
 ⟨some 65, .mov, [.r 64], none, [64]⟩,
 ⟨some 66, .mov, [.r 13], (some (65, true)), []⟩,
 ⟨some 67, .pick, [.r 65, .r 66, .k (.bool false)], none, [65, 66]⟩,
 ⟨some 68, .mov, [.r 67], none, [67]⟩,
 ⟨some 69, .mov, [.r 12], (some (68, true)), []⟩,
 ⟨some 70, .len, [.r 69], (some (68, true)), [69]⟩,
 ⟨some 71, .bin .gtr, [.r 70, .k (.int .i64 0)], (some (68, true)), [70]⟩,
 ⟨some 72, .pick, [.r 68, .r 71, .k (.bool false)], none, [68, 71]⟩,
 ⟨some 56, .mov, [.r 72], none, [72]⟩]) <|
 .cond (.r 56)
 (.ops [⟨some 73, .mov, [.r 12], none, [7, 8, 11, 12, 13, 56]⟩,
 ⟨some 74, .mov, [.r 10], none, []⟩,
 ⟨some 75, .fa 1, [.r 6], none, []⟩,
 ⟨none, .st 1, [.r 75, .r 73], none, [73, 75]⟩,
 ⟨some 8, .mov, [.r 74], none, [74]⟩,
 ⟨some 7, .mov, [.k (.int .i64 2)], none, []⟩])
 (.seq (.ops [⟨some 77, .mov, [.r 7], none, [56]⟩,
 ⟨some 78, .bin .eql, [.r 77, .k (.int .i64 2)], none, [77]⟩,
 ⟨some 79, .mov, [.r 78], none, [78]⟩,
 ⟨some 80, .mov, [.r 11], (some (79, true)), []⟩,
 ⟨some 81, .ia 1, [.r 80, .k (.int .i64 0)], (some (79, true)), [80]⟩,
 ⟨some 82, .ld none, [.r 81], (some (79, true)), [81]⟩,
 ⟨some 83, .bin .eql, [.r 82, .k (.string ⟨#[104, 111, 109, 101, 115]⟩)], (some (79, true)), [82]⟩,
 ⟨some 84, .pick, [.r 79, .r 83, .k (.bool false)], none, [79, 83]⟩,
 ⟨some 85, .mov, [.r 84], none, [84]⟩,
 ⟨some 86, .mov, [.r 13], (some (85, true)), [13]⟩,
 ⟨some 87, .pick, [.r 85, .r 86, .k (.bool false)], none, [85, 86]⟩,
 ⟨some 88, .mov, [.r 87], none, [87]⟩,
 ⟨some 89, .mov, [.r 12], (some (88, true)), []⟩,
 ⟨some 90, .len, [.r 89], (some (88, true)), [89]⟩,
 ⟨some 91, .bin .gtr, [.r 90, .k (.int .i64 0)], (some (88, true)), [90]⟩,
 ⟨some 92, .pick, [.r 88, .r 91, .k (.bool false)], none, [88, 91]⟩,
 ⟨some 76, .mov, [.r 92], none, [92]⟩]) <|
 .cond (.r 76)
 (.ops [⟨some 93, .mov, [.r 12], none, [7, 11, 12, 76]⟩,
 ⟨some 94, .fa 2, [.r 6], none, []⟩,
 ⟨none, .st 1, [.r 94, .r 93], none, [93, 94]⟩,
 ⟨some 7, .mov, [.k (.int .i64 3)], none, []⟩])
 (.seq (.ops [⟨some 96, .mov, [.r 7], none, [7, 12, 76]⟩,
 ⟨some 97, .bin .geq, [.r 96, .k (.int .i64 2)], none, [96]⟩,
 ⟨some 98, .mov, [.r 97], none, [97]⟩,
 ⟨some 99, .mov, [.r 11], (some (98, true)), []⟩,
 ⟨some 100, .ia 1, [.r 99, .k (.int .i64 0)], (some (98, true)), [99]⟩,
 ⟨some 101, .ld none, [.r 100], (some (98, true)), [100]⟩,
 ⟨some 102, .bin .eql, [.r 101, .k (.string ⟨#[116, 97, 115, 107]⟩)], (some (98, true)), [101]⟩,
 ⟨some 103, .pick, [.r 98, .r 102, .k (.bool false)], none, [98, 102]⟩,
 ⟨some 95, .mov, [.r 103], none, [103]⟩]) <|
 .cond (.r 95)
 (.seq (.ops [⟨some 105, .mov, [.r 11], none, [11, 95]⟩,
 ⟨some 106, .call 24, [.r 105], none, [105]⟩,
 ⟨some 104, .mov, [.r 106], none, [106]⟩,
 ⟨some 107, .extract 0, [.r 104], none, []⟩,
 ⟨some 108, .extract 1, [.r 104], none, [104]⟩,
 ⟨some 14, .new 0 [.string ⟨#[]⟩, .int .i64 0, .int .i64 0, .int .i64 0, .int .i64 0, .slice none 0 0], [], none, []⟩,
 ⟨none, .st 6, [.r 14, .r 107], none, [107]⟩,
 ⟨some 15, .mov, [.r 108], none, [108]⟩]) <|
 .seq (.seq (.ops [⟨some 109, .mov, [.r 15], none, []⟩,
 ⟨some 110, .bin .neq, [.r 109, .k (.int .i64 0)], none, [109]⟩]) <|
 .cond (.r 110)
 (.seq (.ops [⟨some 111, .build [.int .i64 0, .slice none 0 0, .slice none 0 0, .slice none 0 0] [], [], none, [5, 6, 8, 9, 14, 110]⟩,
 ⟨some 112, .mov, [.r 10], none, [10]⟩,
 ⟨some 113, .mov, [.r 15], none, [15]⟩,
 ⟨none, .st 4, [.r 2, .r 111], none, [111]⟩,
 ⟨some 3, .mov, [.r 112], none, [112]⟩,
 ⟨some 4, .mov, [.r 113], none, [113]⟩]) <|
 .ret)
 (.skip)) <|
 .ops [⟨some 114, .fa 3, [.r 6], none, [15, 110]⟩,
 ⟨some 115, .ld none, [.r 114], none, [114]⟩,
 ⟨some 116, .ld (some 6), [.r 14], none, [14]⟩,
 ⟨some 117, .bslice 6 1 [.string ⟨#[]⟩, .int .i64 0, .int .i64 0, .int .i64 0, .int .i64 0, .slice none 0 0] [(0, 6)], [.r 116], none, [116]⟩,
 ⟨some 118, .app 6 72, [.r 115, .r 117], none, [115, 117]⟩,
 ⟨some 119, .mov, [.r 9], none, [9]⟩,
 ⟨some 120, .mov, [.r 10], none, []⟩,
 ⟨some 121, .bslice 1 1 [.int .i64 0] [(0, 1)], [.r 120], none, [120]⟩,
 ⟨some 122, .app 1 8, [.r 119, .r 121], none, [119, 121]⟩,
 ⟨some 123, .fa 3, [.r 6], none, []⟩,
 ⟨none, .st 1, [.r 123, .r 118], none, [118, 123]⟩,
 ⟨some 9, .mov, [.r 122], none, [122]⟩,
 ⟨some 7, .mov, [.k (.int .i64 3)], none, []⟩])
 (.seq (.ops [⟨some 43, .build [.int .i64 0, .slice none 0 0, .slice none 0 0, .slice none 0 0] [], [], none, [5, 6, 8, 9, 11, 95]⟩,
 ⟨some 44, .mov, [.r 10], none, [10]⟩,
 ⟨none, .st 4, [.r 2, .r 43], none, [43]⟩,
 ⟨some 3, .mov, [.r 44], none, [44]⟩,
 ⟨some 4, .mov, [.k (.int .i64 10)], none, []⟩]) <|
 .ret))))))) <|
 .ops [⟨some 27, .mov, [.r 10], none, [10, 11, 36]⟩,
 ⟨some 28, .bin .add, [.r 27, .k (.int .i64 1)], none, [27]⟩,
 ⟨some 10, .mov, [.r 28], none, [28]⟩]
def m8 : MFn := ⟨[.cell 2 (some 4), .tmp 3, .tmp 4], .seq (.ops [⟨some 2, .new 0 [.int .i64 0, .slice none 0 0, .slice none 0 0, .slice none 0 0], [], none, []⟩,
 ⟨some 3, .mov, [.k (.int .i64 0)], none, [3]⟩,
 ⟨some 4, .mov, [.k (.int .i64 0)], none, [4]⟩]) <|
.seq (.seq (.ops [⟨some 16, .mov, [.r 0], none, []⟩,
 ⟨some 17, .lens, [.r 16], none, [16]⟩,
 ⟨some 18, .bin .gtr, [.r 17, .k (.int .i64 2000)], none, [17]⟩]) <|
.cond (.r 18)
 (.seq (.ops [⟨some 19, .build [.int .i64 0, .slice none 0 0, .slice none 0 0, .slice none 0 0] [], [], none, [0, 18]⟩,
 ⟨none, .st 4, [.r 2, .r 19], none, [19]⟩,
 ⟨some 3, .mov, [.k (.int .i64 0)], none, []⟩,
 ⟨some 4, .mov, [.k (.int .i64 11)], none, []⟩]) <|
 .ret)
 (.skip)) <|
.seq (.ops [⟨some 20, .mov, [.r 0], none, [0, 18]⟩,
 ⟨some 21, .call 13, [.r 20], none, [20]⟩,
 ⟨some 5, .mov, [.r 21], none, [21]⟩]) <|
.seq (.ops [⟨some 22, .build [.int .i64 0, .slice none 0 0, .slice none 0 0, .slice none 0 0] [], [], none, []⟩,
 ⟨some 6, .new 0 [.int .i64 0, .slice none 0 0, .slice none 0 0, .slice none 0 0], [], none, []⟩,
 ⟨none, .st 4, [.r 6, .r 22], none, [22]⟩]) <|
.seq (.ops [⟨some 7, .mov, [.k (.int .i64 0)], none, []⟩,
 ⟨some 8, .mov, [.k (.int .i64 0)], none, []⟩]) <|
.seq (.ops [⟨some 9, .mov, [.k (.slice none 0 0)], none, []⟩]) <|
.seq (.seq (.ops [⟨some 10, .mov, [.k (.int .i64 0)], none, []⟩]) <|
.block 0 (.loop m8_0)) <|
.seq (.seq (.ops [⟨some 124, .mov, [.r 7], none, [7, 10, 26]⟩,
 ⟨some 125, .bin .lss, [.r 124, .k (.int .i64 2)], none, [124]⟩]) <|
.cond (.r 125)
 (.seq (.ops [⟨some 126, .build [.int .i64 0, .slice none 0 0, .slice none 0 0, .slice none 0 0] [], [], none, [6, 8, 9, 125]⟩,
 ⟨some 127, .mov, [.r 5], none, [5]⟩,
 ⟨some 128, .len, [.r 127], none, [127]⟩,
 ⟨none, .st 4, [.r 2, .r 126], none, [126]⟩,
 ⟨some 3, .mov, [.r 128], none, [128]⟩,
 ⟨some 4, .mov, [.k (.int .i64 10)], none, []⟩]) <|
 .ret)
 (.skip)) <|
.seq (.ops [⟨some 129, .ld (some 4), [.r 6], none, [6, 125]⟩,
 ⟨some 130, .mov, [.r 9], none, [9]⟩,
 ⟨some 131, .mov, [.r 8], none, [8]⟩,
 ⟨some 132, .mov, [.r 5], none, [5]⟩,
 ⟨some 133, .len, [.r 132], none, [132]⟩,
 ⟨some 134, .call 25, [.r 129, .r 130, .r 131, .r 133], none, [129, 130, 131, 133]⟩,
 ⟨some 135, .extract 0, [.r 134], none, []⟩,
 ⟨some 136, .extract 1, [.r 134], none, []⟩,
 ⟨some 137, .extract 2, [.r 134], none, [134]⟩,
 ⟨none, .st 4, [.r 2, .r 135], none, [135]⟩,
 ⟨some 3, .mov, [.r 136], none, [136]⟩,
 ⟨some 4, .mov, [.r 137], none, [137]⟩]) <|
.ret⟩
theorem c8 : cFn Tryz.prog 8 = some m8.bare := by kernel_rfl

/-- 'swingbridge/text.Print' -/
def m9_0 : MCode := .seq (.ops [⟨some 65, .bin .lss, [.r 64, .r 63], none, []⟩]) <|
 .seq (.cond (.r 65)
 (.skip)
 (.exit 2)) <|
 .seq (.block 3 (.seq (.ops [⟨some 66, .ia 3, [.r 62, .r 64], none, [65]⟩,
 ⟨some 67, .ld (some 3), [.r 66], none, [66]⟩,
 ⟨some 9, .new 0 [.int .i64 0, .int .i64 0, .int .i64 0], [], none, []⟩,
 ⟨none, .st 3, [.r 9, .r 67], none, [67]⟩]) <|
 .ops [⟨some 68, .ld (some 3), [.r 9], none, [9]⟩,
 ⟨some 69, .call 29, [.r 68], none, [68]⟩,
 ⟨some 70, .bin .add, [.k (.string ⟨#[32]⟩), .r 69], none, [69]⟩,
 ⟨some 71, .call 26, [.r 5, .r 70], none, [70, 71]⟩])) <|
 .ops [⟨some 72, .bin .add, [.r 64, .k (.int .i64 1)], none, [64]⟩,
 ⟨some 64, .mov, [.r 72], none, [72]⟩]
def m9_1 : MCode := .seq (.ops [⟨some 43, .bin .lss, [.r 42, .r 41], none, []⟩]) <|
 .seq (.cond (.r 43)
 (.skip)
 (.exit 0)) <|
 .seq (.block 1 (.seq (.ops [⟨some 44, .ia 6, [.r 40, .r 42], none, [43]⟩,
 ⟨some 45, .ld (some 6), [.r 44], none, [44]⟩,
 ⟨some 7, .new 0 [.string ⟨#[]⟩, .int .i64 0, .int .i64 0, .int .i64 0, .int .i64 0, .slice none 0 0], [], none, []⟩,
 ⟨none, .st 6, [.r 7, .r 45], none, [45]⟩]) <|
 .seq (.draw [⟨some 46, .fa 0, [.r 7], none, []⟩,
 ⟨some 47, .ld none, [.r 46], none, [46]⟩,
 ⟨some 48, .bin .add, [.k (.string ⟨#[116, 97, 115, 107, 32]⟩), .r 47], none, [47]⟩,
 ⟨some 49, .fa 1, [.r 7], none, []⟩,
 ⟨some 50, .ld none, [.r 49], none, [49]⟩,
 ⟨some 51, .fa 2, [.r 7], none, []⟩,
 ⟨some 52, .ld none, [.r 51], none, [51]⟩,
 ⟨some 53, .fa 3, [.r 7], none, []⟩,
 ⟨some 54, .ld none, [.r 53], none, [53]⟩,
 ⟨some 55, .fa 4, [.r 7], none, []⟩,
 ⟨some 56, .ld none, [.r 55], none, [55]⟩,
 ⟨some 57, .bslice 1 4 [.int .i64 0] [(0, 1), (1, 1), (2, 1), (3, 1)], [.r 50, .r 52, .r 54, .r 56], none, [50, 52, 54, 56]⟩,
 ⟨some 58, .call 28, [.r 57], none, [57]⟩,
 ⟨some 59, .bin .add, [.r 48, .r 58], none, [48, 58]⟩,
 ⟨some 60, .call 26, [.r 5, .r 59], none, [59, 60]⟩] [(1, 12)]) <|
 .seq (.seq (.ops [⟨some 61, .fa 5, [.r 7], none, [7]⟩,
 ⟨some 62, .ld none, [.r 61], none, [61]⟩,
 ⟨some 63, .len, [.r 62], none, []⟩,
 ⟨some 64, .mov, [.k (.int .i64 0)], none, []⟩]) <|
 .block 2 (.loop m9_0)) <|
 .ops [⟨some 73, .call 26, [.r 5, .k (.string ⟨#[10]⟩)], none, [62, 63, 64, 65, 73]⟩])) <|
 .ops [⟨some 74, .bin .add, [.r 42, .k (.int .i64 1)], none, [42]⟩,
 ⟨some 42, .mov, [.r 74], none, [74]⟩]
def m9 : MFn := ⟨[.tmp 2], .seq (.ops [⟨some 1, .box, [.r 0], none, [0]⟩,
 ⟨some 2, .mov, [.k (.string ⟨#[]⟩)], none, [2]⟩]) <|
.seq (.seq (.ops [⟨some 11, .ld (some 4), [.r 1], none, []⟩,
 ⟨some 12, .call 20, [.r 11], none, [11]⟩,
 ⟨some 10, .mov, [.r 12], none, [12]⟩,
 ⟨some 13, .extract 0, [.r 10], none, []⟩,
 ⟨some 14, .extract 1, [.r 10], none, [10]⟩,
 ⟨some 3, .mov, [.r 13], none, [3, 13]⟩,
 ⟨some 4, .mov, [.r 14], none, [14]⟩]) <|
.seq (.ops [⟨some 15, .mov, [.r 4], none, [4]⟩,
 ⟨some 16, .bin .neq, [.r 15, .k (.int .i64 0)], none, [15]⟩]) <|
.cond (.r 16)
 (.seq (.ops [⟨some 2, .mov, [.k (.string ⟨#[]⟩)], none, [1, 16]⟩]) <|
 .ret)
 (.skip)) <|
.seq (.ops [⟨some 5, .newt 66 [.pointer none, .slice none 0 0], [], none, [16]⟩]) <|
.seq (.draw [⟨some 17, .fa 0, [.r 1], none, []⟩,
 ⟨some 18, .ld none, [.r 17], none, [17]⟩,
 ⟨some 19, .call 27, [.r 18], none, [18]⟩,
 ⟨some 20, .bin .add, [.k (.string ⟨#[112, 114, 111, 116, 111, 99, 111, 108, 32]⟩), .r 19], none, [19]⟩,
 ⟨some 21, .bin .add, [.r 20, .k (.string ⟨#[10]⟩)], none, [20]⟩,
 ⟨some 22, .bin .add, [.r 21, .k (.string ⟨#[99, 111, 114, 101, 115]⟩)], none, [21]⟩,
 ⟨some 23, .fa 1, [.r 1], none, []⟩,
 ⟨some 24, .ld none, [.r 23], none, [23]⟩,
 ⟨some 25, .call 28, [.r 24], none, [24]⟩,
 ⟨some 26, .bin .add, [.r 22, .r 25], none, [22, 25]⟩,
 ⟨some 27, .bin .add, [.r 26, .k (.string ⟨#[10]⟩)], none, [26]⟩,
 ⟨some 28, .call 26, [.r 5, .r 27], none, [27, 28]⟩] [(7, 2)]) <|
.seq (.seq (.ops [⟨some 29, .fa 2, [.r 1], none, []⟩,
 ⟨some 30, .ld none, [.r 29], none, [29]⟩,
 ⟨some 31, .len, [.r 30], none, [30]⟩,
 ⟨some 32, .bin .gtr, [.r 31, .k (.int .i64 0)], none, [31]⟩]) <|
.cond (.r 32)
 (.ops [⟨some 33, .fa 2, [.r 1], none, [32]⟩,
 ⟨some 34, .ld none, [.r 33], none, [33]⟩,
 ⟨some 35, .call 28, [.r 34], none, [34]⟩,
 ⟨some 36, .bin .add, [.k (.string ⟨#[104, 111, 109, 101, 115]⟩), .r 35], none, [35]⟩,
 ⟨some 37, .bin .add, [.r 36, .k (.string ⟨#[10]⟩)], none, [36]⟩,
 ⟨some 38, .call 26, [.r 5, .r 37], none, [37, 38]⟩])
 (.skip)) <|
.seq (.seq (.ops [⟨some 39, .fa 3, [.r 1], none, [1, 32]⟩,
 ⟨some 40, .ld none, [.r 39], none, [39]⟩,
 ⟨some 41, .len, [.r 40], none, []⟩,
 ⟨some 42, .mov, [.k (.int .i64 0)], none, []⟩]) <|
.block 0 (.loop m9_1)) <|
.seq (.ops [⟨some 75, .call 30, [.r 5], none, [5, 40, 41, 42, 43]⟩,
 ⟨some 2, .mov, [.r 75], none, [75]⟩]) <|
.ret⟩
theorem c9 : cFn Tryz.prog 9 = some m9.bare := by kernel_rfl

/-- 'swingbridge/swingbridgeref7.Print' -/
def m10_0 : MCode := .seq (.seq (.ops [⟨some 66, .mov, [.r 6], none, []⟩,
 ⟨some 67, .fa 5, [.r 5], none, []⟩,
 ⟨some 68, .ld none, [.r 67], none, [67]⟩,
 ⟨some 69, .len, [.r 68], none, [68]⟩,
 ⟨some 70, .bin .lss, [.r 66, .r 69], none, [66, 69]⟩]) <|
 .cond (.r 70)
 (.skip)
 (.exit 2)) <|
 .seq (.block 3 (.seq (.ops [⟨some 73, .fa 5, [.r 5], none, [70]⟩,
 ⟨some 74, .ld none, [.r 73], none, [73]⟩,
 ⟨some 75, .mov, [.r 6], none, []⟩,
 ⟨some 76, .ia 3, [.r 74, .r 75], none, [74, 75]⟩,
 ⟨some 77, .ld (some 3), [.r 76], none, [76]⟩,
 ⟨some 7, .new 0 [.int .i64 0, .int .i64 0, .int .i64 0], [], none, []⟩,
 ⟨none, .st 3, [.r 7, .r 77], none, [77]⟩]) <|
 .seq (.ops [⟨some 78, .fa 0, [.r 7], none, []⟩,
 ⟨some 79, .ld none, [.r 78], none, [78]⟩]) <|
 .block 4 (.seq (.ops [⟨some 92, .bin .eql, [.r 79, .k (.int .i64 1)], none, []⟩,
 ⟨some 91, .mov, [.r 92], none, [92]⟩]) <|
 .cond (.r 91)
 (.ops [⟨some 93, .mov, [.r 3], none, [3, 79, 91]⟩,
 ⟨some 94, .bin .add, [.r 93, .k (.string ⟨#[32, 114, 117, 110, 58]⟩)], none, [93]⟩,
 ⟨some 95, .fa 1, [.r 7], none, [7]⟩,
 ⟨some 96, .ld none, [.r 95], none, [95]⟩,
 ⟨some 97, .call 33, [.r 96], none, [96]⟩,
 ⟨some 98, .bin .add, [.r 94, .r 97], none, [94, 97]⟩,
 ⟨some 3, .mov, [.r 98], none, [98]⟩])
 (.seq (.ops [⟨some 100, .bin .eql, [.r 79, .k (.int .i64 2)], none, [79, 91]⟩,
 ⟨some 99, .mov, [.r 100], none, [100]⟩]) <|
 .cond (.r 99)
 (.ops [⟨some 101, .mov, [.r 3], none, [3, 99]⟩,
 ⟨some 102, .bin .add, [.r 101, .k (.string ⟨#[32, 115, 108, 101, 101, 112, 58]⟩)], none, [101]⟩,
 ⟨some 103, .fa 1, [.r 7], none, [7]⟩,
 ⟨some 104, .ld none, [.r 103], none, [103]⟩,
 ⟨some 105, .call 33, [.r 104], none, [104]⟩,
 ⟨some 106, .bin .add, [.r 102, .r 105], none, [102, 105]⟩,
 ⟨some 3, .mov, [.r 106], none, [106]⟩])
 (.draw [⟨some 80, .mov, [.r 3], none, [3, 99]⟩,
 ⟨some 81, .bin .add, [.r 80, .k (.string ⟨#[32, 108, 111, 99, 107, 58]⟩)], none, [80]⟩,
 ⟨some 82, .fa 2, [.r 7], none, []⟩,
 ⟨some 83, .ld none, [.r 82], none, [82]⟩,
 ⟨some 84, .call 33, [.r 83], none, [83]⟩,
 ⟨some 85, .bin .add, [.r 81, .r 84], none, [81, 84]⟩,
 ⟨some 86, .bin .add, [.r 85, .k (.string ⟨#[58]⟩)], none, [85]⟩,
 ⟨some 87, .fa 1, [.r 7], none, [7]⟩,
 ⟨some 88, .ld none, [.r 87], none, [87]⟩,
 ⟨some 89, .call 33, [.r 88], none, [88]⟩,
 ⟨some 90, .bin .add, [.r 86, .r 89], none, [86, 89]⟩,
 ⟨some 3, .mov, [.r 90], none, [90]⟩] [(8, 4)]))))) <|
 .ops [⟨some 71, .mov, [.r 6], none, [6]⟩,
 ⟨some 72, .bin .add, [.r 71, .k (.int .i64 1)], none, [71]⟩,
 ⟨some 6, .mov, [.r 72], none, [72]⟩]
def m10_1 : MCode := .seq (.seq (.ops [⟨some 29, .mov, [.r 4], none, []⟩,
 ⟨some 30, .fa 3, [.r 1], none, []⟩,
 ⟨some 31, .ld none, [.r 30], none, [30]⟩,
 ⟨some 32, .len, [.r 31], none, [31]⟩,
 ⟨some 33, .bin .lss, [.r 29, .r 32], none, [29, 32]⟩]) <|
 .cond (.r 33)
 (.skip)
 (.exit 0)) <|
 .seq (.block 1 (.seq (.ops [⟨some 36, .fa 3, [.r 1], none, [33]⟩,
 ⟨some 37, .ld none, [.r 36], none, [36]⟩,
 ⟨some 38, .mov, [.r 4], none, []⟩,
 ⟨some 39, .ia 6, [.r 37, .r 38], none, [37, 38]⟩,
 ⟨some 40, .ld (some 6), [.r 39], none, [39]⟩,
 ⟨some 5, .new 0 [.string ⟨#[]⟩, .int .i64 0, .int .i64 0, .int .i64 0, .int .i64 0, .slice none 0 0], [], none, []⟩,
 ⟨none, .st 6, [.r 5, .r 40], none, [40]⟩]) <|
 .seq (.draw [⟨some 41, .mov, [.r 3], none, [3]⟩,
 ⟨some 42, .bin .add, [.r 41, .k (.string ⟨#[116, 97, 115, 107, 32]⟩)], none, [41]⟩,
 ⟨some 43, .fa 0, [.r 5], none, []⟩,
 ⟨some 44, .ld none, [.r 43], none, [43]⟩,
 ⟨some 45, .bin .add, [.r 42, .r 44], none, [42, 44]⟩,
 ⟨some 46, .bin .add, [.r 45, .k (.string ⟨#[32]⟩)], none, [45]⟩,
 ⟨some 47, .fa 1, [.r 5], none, []⟩,
 ⟨some 48, .ld none, [.r 47], none, [47]⟩,
 ⟨some 49, .call 33, [.r 48], none, [48]⟩,
 ⟨some 50, .bin .add, [.r 46, .r 49], none, [46, 49]⟩,
 ⟨some 51, .bin .add, [.r 50, .k (.string ⟨#[32]⟩)], none, [50]⟩,
 ⟨some 52, .fa 2, [.r 5], none, []⟩,
 ⟨some 53, .ld none, [.r 52], none, [52]⟩,
 ⟨some 54, .call 33, [.r 53], none, [53]⟩,
 ⟨some 55, .bin .add, [.r 51, .r 54], none, [51, 54]⟩,
 ⟨some 56, .bin .add, [.r 55, .k (.string ⟨#[32]⟩)], none, [55]⟩,
 ⟨some 57, .fa 3, [.r 5], none, []⟩,
 ⟨some 58, .ld none, [.r 57], none, [57]⟩,
 ⟨some 59, .call 33, [.r 58], none, [58]⟩,
 ⟨some 60, .bin .add, [.r 56, .r 59], none, [56, 59]⟩,
 ⟨some 61, .bin .add, [.r 60, .k (.string ⟨#[32]⟩)], none, [60]⟩,
 ⟨some 62, .fa 4, [.r 5], none, []⟩,
 ⟨some 63, .ld none, [.r 62], none, [62]⟩,
 ⟨some 64, .call 33, [.r 63], none, [63]⟩,
 ⟨some 65, .bin .add, [.r 61, .r 64], none, [61, 64]⟩,
 ⟨some 3, .mov, [.r 65], none, [65]⟩] [(3, 8), (3, 13), (3, 18), (3, 23), (12, 8), (17, 8), (17, 13), (22, 8), (22, 13), (22, 18)]) <|
 .seq (.seq (.ops [⟨some 6, .mov, [.k (.int .i64 0)], none, []⟩]) <|
 .block 2 (.loop m10_0)) <|
 .ops [⟨some 107, .mov, [.r 3], none, [3, 5, 6, 70]⟩,
 ⟨some 108, .bin .add, [.r 107, .k (.string ⟨#[10]⟩)], none, [107]⟩,
 ⟨some 3, .mov, [.r 108], none, [108]⟩])) <|
 .ops [⟨some 34, .mov, [.r 4], none, [4]⟩,
 ⟨some 35, .bin .add, [.r 34, .k (.int .i64 1)], none, [34]⟩,
 ⟨some 4, .mov, [.r 35], none, [35]⟩]
def m10 : MFn := ⟨[.tmp 2], .seq (.ops [⟨some 1, .box, [.r 0], none, [0]⟩,
 ⟨some 2, .mov, [.k (.string ⟨#[]⟩)], none, [2]⟩]) <|
.seq (.seq (.ops [⟨some 8, .ld (some 4), [.r 1], none, []⟩,
 ⟨some 9, .call 12, [.r 8], none, [8]⟩,
 ⟨some 10, .un .not, [.r 9], none, [9]⟩]) <|
.cond (.r 10)
 (.seq (.ops [⟨some 2, .mov, [.k (.string ⟨#[]⟩)], none, [1, 10]⟩]) <|
 .ret)
 (.skip)) <|
.seq (.draw [⟨some 11, .fa 0, [.r 1], none, [10]⟩,
 ⟨some 12, .ld none, [.r 11], none, [11]⟩,
 ⟨some 13, .call 31, [.r 12], none, [12]⟩,
 ⟨some 14, .bin .add, [.k (.string ⟨#[112, 114, 111, 116, 111, 99, 111, 108, 32]⟩), .r 13], none, [13]⟩,
 ⟨some 15, .bin .add, [.r 14, .k (.string ⟨#[10]⟩)], none, [14]⟩,
 ⟨some 16, .fa 1, [.r 1], none, []⟩,
 ⟨some 17, .ld none, [.r 16], none, [16]⟩,
 ⟨some 18, .call 32, [.k (.string ⟨#[99, 111, 114, 101, 115]⟩), .r 17], none, [17]⟩,
 ⟨some 19, .bin .add, [.r 15, .r 18], none, [15, 18]⟩,
 ⟨some 3, .mov, [.r 19], none, [19]⟩] [(6, 2)]) <|
.seq (.seq (.ops [⟨some 20, .fa 2, [.r 1], none, []⟩,
 ⟨some 21, .ld none, [.r 20], none, [20]⟩,
 ⟨some 22, .len, [.r 21], none, [21]⟩,
 ⟨some 23, .bin .gtr, [.r 22, .k (.int .i64 0)], none, [22]⟩]) <|
.cond (.r 23)
 (.ops [⟨some 24, .mov, [.r 3], none, [3, 23]⟩,
 ⟨some 25, .fa 2, [.r 1], none, []⟩,
 ⟨some 26, .ld none, [.r 25], none, [25]⟩,
 ⟨some 27, .call 32, [.k (.string ⟨#[104, 111, 109, 101, 115]⟩), .r 26], none, [26]⟩,
 ⟨some 28, .bin .add, [.r 24, .r 27], none, [24, 27]⟩,
 ⟨some 3, .mov, [.r 28], none, [28]⟩])
 (.skip)) <|
.seq (.seq (.ops [⟨some 4, .mov, [.k (.int .i64 0)], none, [23]⟩]) <|
.block 0 (.loop m10_1)) <|
.seq (.ops [⟨some 109, .mov, [.r 3], none, [1, 3, 4, 33]⟩,
 ⟨some 2, .mov, [.r 109], none, [109]⟩]) <|
.ret⟩
theorem c10 : cFn Tryz.prog 10 = some m10.bare := by kernel_rfl

/-- 'swingbridge/swingbridgeref7.Same' -/
def m11_0 : MCode := .seq (.seq (.ops [⟨some 36, .mov, [.r 5], none, []⟩,
 ⟨some 37, .fa 3, [.r 2], none, []⟩,
 ⟨some 38, .ld none, [.r 37], none, [37]⟩,
 ⟨some 39, .len, [.r 38], none, [38]⟩,
 ⟨some 40, .bin .lss, [.r 36, .r 39], none, [36, 39]⟩]) <|
 .cond (.r 40)
 (.skip)
 (.exit 0)) <|
 .seq (.block 1 (.seq (.draw [⟨some 43, .fa 3, [.r 2], none, [40]⟩,
 ⟨some 44, .ld none, [.r 43], none, [43]⟩,
 ⟨some 45, .mov, [.r 5], none, []⟩,
 ⟨some 46, .ia 6, [.r 44, .r 45], none, [44, 45]⟩,
 ⟨some 47, .ld (some 6), [.r 46], none, [46]⟩,
 ⟨some 48, .fa 3, [.r 3], none, []⟩,
 ⟨some 49, .ld none, [.r 48], none, [48]⟩,
 ⟨some 50, .mov, [.r 5], none, []⟩,
 ⟨some 51, .ia 6, [.r 49, .r 50], none, [49, 50]⟩,
 ⟨some 52, .ld (some 6), [.r 51], none, [51]⟩,
 ⟨some 53, .call 35, [.r 47, .r 52], none, [47, 52]⟩,
 ⟨some 54, .un .not, [.r 53], none, [53]⟩] []) <|
 .cond (.r 54)
 (.seq (.ops [⟨some 4, .mov, [.k (.bool false)], none, [2, 3, 5, 54]⟩]) <|
 .ret)
 (.skip))) <|
 .ops [⟨some 41, .mov, [.r 5], none, [5, 54]⟩,
 ⟨some 42, .bin .add, [.r 41, .k (.int .i64 1)], none, [41]⟩,
 ⟨some 5, .mov, [.r 42], none, [42]⟩]
def m11 : MFn := ⟨[.tmp 4], .seq (.ops [⟨some 2, .box, [.r 0], none, [0]⟩,
 ⟨some 3, .box, [.r 1], none, [1]⟩,
 ⟨some 4, .mov, [.k (.bool false)], none, [4]⟩]) <|
.seq (.seq (.ops [⟨some 6, .fa 0, [.r 2], none, []⟩,
 ⟨some 7, .ld none, [.r 6], none, [6]⟩,
 ⟨some 8, .fa 0, [.r 3], none, []⟩,
 ⟨some 9, .ld none, [.r 8], none, [8]⟩,
 ⟨some 10, .bin .neq, [.r 7, .r 9], none, [7, 9]⟩,
 ⟨some 11, .mov, [.r 10], none, [10]⟩,
 ⟨some 12, .fa 1, [.r 2], (some (11, false)), []⟩,
 ⟨some 13, .ld none, [.r 12], (some (11, false)), [12]⟩,
 ⟨some 14, .fa 1, [.r 3], (some (11, false)), []⟩,
 ⟨some 15, .ld none, [.r 14], (some (11, false)), [14]⟩,
 ⟨some 16, .call 34, [.r 13, .r 15], (some (11, false)), [13, 15]⟩,
 ⟨some 17, .un .not, [.r 16], (some (11, false)), [16]⟩,
 ⟨some 18, .pick, [.r 11, .k (.bool true), .r 17], none, [11, 17]⟩,
 ⟨some 19, .mov, [.r 18], none, [18]⟩,
 ⟨some 20, .fa 2, [.r 2], (some (19, false)), []⟩,
 ⟨some 21, .ld none, [.r 20], (some (19, false)), [20]⟩,
 ⟨some 22, .fa 2, [.r 3], (some (19, false)), []⟩,
 ⟨some 23, .ld none, [.r 22], (some (19, false)), [22]⟩,
 ⟨some 24, .call 34, [.r 21, .r 23], (some (19, false)), [21, 23]⟩,
 ⟨some 25, .un .not, [.r 24], (some (19, false)), [24]⟩,
 ⟨some 26, .pick, [.r 19, .k (.bool true), .r 25], none, [19, 25]⟩,
 ⟨some 27, .mov, [.r 26], none, [26]⟩,
 ⟨some 28, .fa 3, [.r 2], (some (27, false)), []⟩,
 ⟨some 29, .ld none, [.r 28], (some (27, false)), [28]⟩,
 ⟨some 30, .len, [.r 29], (some (27, false)), [29]⟩,
 ⟨some 31, .fa 3, [.r 3], (some (27, false)), []⟩,
 ⟨some 32, .ld none, [.r 31], (some (27, false)), [31]⟩,
 ⟨some 33, .len, [.r 32], (some (27, false)), [32]⟩,
 ⟨some 34, .bin .neq, [.r 30, .r 33], (some (27, false)), [30, 33]⟩,
 ⟨some 35, .pick, [.r 27, .k (.bool true), .r 34], none, [27, 34]⟩]) <|
.cond (.r 35)
 (.seq (.ops [⟨some 4, .mov, [.k (.bool false)], none, [2, 3, 35]⟩]) <|
 .ret)
 (.skip)) <|
.seq (.seq (.ops [⟨some 5, .mov, [.k (.int .i64 0)], none, [35]⟩]) <|
.block 0 (.loop m11_0)) <|
.seq (.ops [⟨some 4, .mov, [.k (.bool true)], none, [2, 3, 5, 40]⟩]) <|
.ret⟩
theorem c11 : cFn Tryz.prog 11 = some m11.bare := by kernel_rfl

/-- 'swingbridge/swingbridgeref7.OK' -/
def m12 : MFn := ⟨[.tmp 2], .seq (.ops [⟨some 1, .box, [.r 0], none, [0]⟩,
 ⟨some 2, .mov, [.k (.bool false)], none, [2]⟩]) <|
.seq (.ops [⟨some 6, .ld (some 4), [.r 1], none, [1]⟩,
 ⟨some 7, .call 36, [.r 6], none, [6]⟩,
 ⟨some 5, .mov, [.r 7], none, [7]⟩,
 ⟨some 8, .extract 0, [.r 5], none, []⟩,
 ⟨some 9, .extract 1, [.r 5], none, [5]⟩,
 ⟨some 3, .mov, [.r 8], none, [3, 8]⟩,
 ⟨some 4, .mov, [.r 9], none, [9]⟩]) <|
.seq (.ops [⟨some 10, .mov, [.r 4], none, [4]⟩,
 ⟨some 11, .bin .eql, [.r 10, .k (.int .i64 0)], none, [10]⟩,
 ⟨some 2, .mov, [.r 11], none, [11]⟩]) <|
.ret⟩
theorem c12 : cFn Tryz.prog 12 = some m12.bare := by kernel_rfl

/-- 'swingbridge/swingbridgelaw9.reads' -/
def m14 : MFn := ⟨[.tmp 2], .seq (.ops [⟨some 2, .mov, [.k (.bool false)], none, [2]⟩]) <|
.seq (.ops [⟨some 10, .mov, [.r 0], none, []⟩,
 ⟨some 11, .call 7, [.r 10], none, [10]⟩,
 ⟨some 9, .mov, [.r 11], none, [11]⟩,
 ⟨some 12, .extract 0, [.r 9], none, []⟩,
 ⟨some 13, .extract 1, [.r 9], none, []⟩,
 ⟨some 14, .extract 2, [.r 9], none, [9]⟩,
 ⟨some 3, .new 0 [.int .i64 0, .slice none 0 0, .slice none 0 0, .slice none 0 0], [], none, []⟩,
 ⟨none, .st 4, [.r 3, .r 12], none, [12]⟩,
 ⟨some 4, .mov, [.r 13], none, [13]⟩,
 ⟨some 5, .mov, [.r 14], none, [14]⟩]) <|
.seq (.ops [⟨some 16, .mov, [.r 0], none, [0]⟩,
 ⟨some 17, .call 8, [.r 16], none, [16]⟩,
 ⟨some 15, .mov, [.r 17], none, [17]⟩,
 ⟨some 18, .extract 0, [.r 15], none, []⟩,
 ⟨some 19, .extract 1, [.r 15], none, []⟩,
 ⟨some 20, .extract 2, [.r 15], none, [15]⟩,
 ⟨some 6, .new 0 [.int .i64 0, .slice none 0 0, .slice none 0 0, .slice none 0 0], [], none, []⟩,
 ⟨none, .st 4, [.r 6, .r 18], none, [18]⟩,
 ⟨some 7, .mov, [.r 19], none, [19]⟩,
 ⟨some 8, .mov, [.r 20], none, [20]⟩]) <|
.seq (.ops [⟨some 21, .ld (some 4), [.r 3], none, [3]⟩,
 ⟨some 22, .ld (some 4), [.r 6], none, [6]⟩,
 ⟨some 23, .call 11, [.r 21, .r 22], none, [21, 22]⟩,
 ⟨some 24, .mov, [.r 23], none, [23]⟩,
 ⟨some 25, .mov, [.r 4], (some (24, true)), [4]⟩,
 ⟨some 26, .mov, [.r 7], (some (24, true)), [7]⟩,
 ⟨some 27, .bin .eql, [.r 25, .r 26], (some (24, true)), [25, 26]⟩,
 ⟨some 28, .pick, [.r 24, .r 27, .k (.bool false)], none, [24, 27]⟩,
 ⟨some 29, .mov, [.r 28], none, [28]⟩,
 ⟨some 30, .mov, [.r 5], (some (29, true)), [5]⟩,
 ⟨some 31, .mov, [.r 8], (some (29, true)), [8]⟩,
 ⟨some 32, .bin .eql, [.r 30, .r 31], (some (29, true)), [30, 31]⟩,
 ⟨some 33, .pick, [.r 29, .r 32, .k (.bool false)], none, [29, 32]⟩,
 ⟨some 2, .mov, [.r 33], none, [33]⟩]) <|
.ret⟩
theorem c14 : cFn Tryz.prog 14 = some m14.bare := by kernel_rfl

/-- 'swingbridge/text.rows' -/
def m16_0 : MCode := .seq (.ops [⟨some 10, .bin .lss, [.r 9, .r 8], none, []⟩]) <|
 .seq (.cond (.r 10)
 (.skip)
 (.exit 0)) <|
 .seq (.block 1 (.seq (.ops [⟨some 11, .mov, [.r 9], none, [10]⟩,
 ⟨some 12, .ia 1, [.r 7, .r 9], none, []⟩,
 ⟨some 13, .ld none, [.r 12], none, [12]⟩,
 ⟨some 4, .mov, [.r 11], none, [11]⟩,
 ⟨some 5, .mov, [.r 13], none, [13]⟩]) <|
 .seq (.ops [⟨some 14, .mov, [.r 5], none, [5]⟩,
 ⟨some 15, .call 39, [.r 14], none, [14]⟩,
 ⟨some 6, .mov, [.r 15], none, [15]⟩]) <|
 .seq (.seq (.ops [⟨some 16, .mov, [.r 6], none, []⟩,
 ⟨some 17, .len, [.r 16], none, [16]⟩,
 ⟨some 18, .bin .eql, [.r 17, .k (.int .i64 0)], none, [17]⟩]) <|
 .cond (.r 18)
 (.exit 1)
 (.skip)) <|
 .ops [⟨some 19, .mov, [.r 3], none, [3, 18]⟩,
 ⟨some 20, .mov, [.r 4], none, [4]⟩,
 ⟨some 21, .mov, [.r 6], none, [6]⟩,
 ⟨some 22, .build [.int .i64 0, .slice none 0 0] [(0, 1), (1, 1)], [.r 20, .r 21], none, [20, 21]⟩,
 ⟨some 23, .bslice 2 1 [.int .i64 0, .slice none 0 0] [(0, 2)], [.r 22], none, [22]⟩,
 ⟨some 24, .app 2 32, [.r 19, .r 23], none, [19, 23]⟩,
 ⟨some 3, .mov, [.r 24], none, [24]⟩])) <|
 .ops [⟨some 25, .bin .add, [.r 9, .k (.int .i64 1)], none, [4, 6, 9, 18]⟩,
 ⟨some 9, .mov, [.r 25], none, [25]⟩]
def m16 : MFn := ⟨[.tmp 2], .seq (.ops [⟨some 2, .mov, [.k (.slice none 0 0)], none, [2]⟩]) <|
.seq (.ops [⟨some 3, .mov, [.k (.slice none 0 0)], none, []⟩]) <|
.seq (.skip) <|
.seq (.seq (.ops [⟨some 7, .mov, [.r 0], none, [0]⟩,
 ⟨some 8, .len, [.r 7], none, []⟩,
 ⟨some 9, .mov, [.k (.int .i64 0)], none, []⟩]) <|
.block 0 (.loop m16_0)) <|
.seq (.ops [⟨some 26, .mov, [.r 3], none, [3, 7, 8, 9, 10]⟩,
 ⟨some 2, .mov, [.r 26], none, [26]⟩]) <|
.ret⟩
theorem c16 : cFn Tryz.prog 16 = some m16.bare := by kernel_rfl

/-- 'swingbridge/text.head' -/
def m17_0 : MCode := .seq (.seq (.ops [⟨some 29, .mov, [.r 6], none, []⟩,
 ⟨some 30, .bin .leq, [.r 29, .k (.int .i64 3)], none, [29]⟩]) <|
 .cond (.r 30)
 (.skip)
 (.exit 0)) <|
 .seq (.block 1 (.seq (.draw [⟨some 33, .mov, [.r 0], none, [30]⟩,
 ⟨some 34, .ia 2, [.r 33, .k (.int .i64 0)], none, [33]⟩,
 ⟨some 35, .fa 1, [.r 34], none, [34]⟩,
 ⟨some 36, .ld none, [.r 35], none, [35]⟩,
 ⟨some 37, .ia 1, [.r 36, .k (.int .i64 1)], none, [36]⟩,
 ⟨some 38, .ld none, [.r 37], none, [37]⟩,
 ⟨some 39, .mov, [.r 6], none, []⟩,
 ⟨some 40, .call 27, [.r 39], none, [39]⟩,
 ⟨some 41, .bin .eql, [.r 38, .r 40], none, [38, 40]⟩] [(3, 7), (5, 7)]) <|
 .cond (.r 41)
 (.ops [⟨some 42, .mov, [.r 6], none, [41]⟩,
 ⟨some 43, .fa 0, [.r 5], none, []⟩,
 ⟨none, .st 1, [.r 43, .r 42], none, [42, 43]⟩])
 (.skip))) <|
 .ops [⟨some 31, .mov, [.r 6], none, [6, 41]⟩,
 ⟨some 32, .bin .add, [.r 31, .k (.int .i64 1)], none, [31]⟩,
 ⟨some 6, .mov, [.r 32], none, [32]⟩]
def m17 : MFn := ⟨[.cell 2 (some 4), .tmp 3, .tmp 4], .seq (.ops [⟨some 2, .new 0 [.int .i64 0, .slice none 0 0, .slice none 0 0, .slice none 0 0], [], none, []⟩,
 ⟨some 3, .mov, [.k (.int .i64 0)], none, [3]⟩,
 ⟨some 4, .mov, [.k (.bool false)], none, [4]⟩]) <|
.seq (.ops [⟨some 5, .new 0 [.int .i64 0, .slice none 0 0, .slice none 0 0, .slice none 0 0], [], none, []⟩]) <|
.seq (.seq (.ops [⟨some 8, .mov, [.r 0], none, []⟩,
 ⟨some 9, .len, [.r 8], none, [8]⟩,
 ⟨some 10, .bin .eql, [.r 9, .k (.int .i64 0)], none, [9]⟩,
 ⟨some 11, .mov, [.r 10], none, [10]⟩,
 ⟨some 12, .mov, [.r 0], (some (11, false)), []⟩,
 ⟨some 13, .ia 2, [.r 12, .k (.int .i64 0)], (some (11, false)), [12]⟩,
 ⟨some 14, .fa 1, [.r 13], (some (11, false)), [13]⟩,
 ⟨some 15, .ld none, [.r 14], (some (11, false)), [14]⟩,
 ⟨some 16, .ia 1, [.r 15, .k (.int .i64 0)], (some (11, false)), [15]⟩,
 ⟨some 17, .ld none, [.r 16], (some (11, false)), [16]⟩,
 ⟨some 18, .bin .neq, [.r 17, .k (.string ⟨#[112, 114, 111, 116, 111, 99, 111, 108]⟩)], (some (11, false)), [17]⟩,
 ⟨some 19, .pick, [.r 11, .k (.bool true), .r 18], none, [11, 18]⟩,
 ⟨some 20, .mov, [.r 19], none, [19]⟩,
 ⟨some 21, .mov, [.r 0], (some (20, false)), []⟩,
 ⟨some 22, .ia 2, [.r 21, .k (.int .i64 0)], (some (20, false)), [21]⟩,
 ⟨some 23, .fa 1, [.r 22], (some (20, false)), [22]⟩,
 ⟨some 24, .ld none, [.r 23], (some (20, false)), [23]⟩,
 ⟨some 25, .len, [.r 24], (some (20, false)), [24]⟩,
 ⟨some 26, .bin .neq, [.r 25, .k (.int .i64 2)], (some (20, false)), [25]⟩,
 ⟨some 27, .pick, [.r 20, .k (.bool true), .r 26], none, [20, 26]⟩]) <|
.cond (.r 27)
 (.seq (.ops [⟨some 28, .ld (some 4), [.r 5], none, [0, 5, 27]⟩,
 ⟨none, .st 4, [.r 2, .r 28], none, [28]⟩,
 ⟨some 3, .mov, [.k (.int .i64 0)], none, []⟩,
 ⟨some 4, .mov, [.k (.bool false)], none, []⟩]) <|
 .ret)
 (.skip)) <|
.seq (.seq (.ops [⟨some 6, .mov, [.k (.int .i64 1)], none, [27]⟩]) <|
.block 0 (.loop m17_0)) <|
.seq (.seq (.ops [⟨some 44, .fa 0, [.r 5], none, [6, 30]⟩,
 ⟨some 45, .ld none, [.r 44], none, [44]⟩,
 ⟨some 46, .bin .eql, [.r 45, .k (.int .i64 0)], none, [45]⟩]) <|
.cond (.r 46)
 (.seq (.ops [⟨some 47, .ld (some 4), [.r 5], none, [0, 5, 46]⟩,
 ⟨none, .st 4, [.r 2, .r 47], none, [47]⟩,
 ⟨some 3, .mov, [.k (.int .i64 0)], none, []⟩,
 ⟨some 4, .mov, [.k (.bool false)], none, []⟩]) <|
 .ret)
 (.skip)) <|
.seq (.ops [⟨some 7, .mov, [.k (.bool false)], none, [46]⟩]) <|
.seq (.seq (.ops [⟨some 48, .mov, [.r 0], none, []⟩,
 ⟨some 49, .len, [.r 48], none, [48]⟩,
 ⟨some 50, .bin .gtr, [.r 49, .k (.int .i64 1)], none, [49]⟩,
 ⟨some 51, .mov, [.r 50], none, [50]⟩,
 ⟨some 52, .mov, [.r 0], (some (51, true)), []⟩,
 ⟨some 53, .ia 2, [.r 52, .k (.int .i64 1)], (some (51, true)), [52]⟩,
 ⟨some 54, .fa 1, [.r 53], (some (51, true)), [53]⟩,
 ⟨some 55, .ld none, [.r 54], (some (51, true)), [54]⟩,
 ⟨some 56, .ia 1, [.r 55, .k (.int .i64 0)], (some (51, true)), [55]⟩,
 ⟨some 57, .ld none, [.r 56], (some (51, true)), [56]⟩,
 ⟨some 58, .bin .eql, [.r 57, .k (.string ⟨#[99, 111, 114, 101, 115]⟩)], (some (51, true)), [57]⟩,
 ⟨some 59, .pick, [.r 51, .r 58, .k (.bool false)], none, [51, 58]⟩]) <|
.cond (.r 59)
 (.ops [⟨some 61, .mov, [.r 0], none, [7, 59]⟩,
 ⟨some 62, .ia 2, [.r 61, .k (.int .i64 1)], none, [61]⟩,
 ⟨some 63, .fa 1, [.r 62], none, [62]⟩,
 ⟨some 64, .ld none, [.r 63], none, [63]⟩,
 ⟨some 65, .sl 1 true false false, [.r 64, .k (.int .i64 1)], none, [64]⟩,
 ⟨some 66, .call 40, [.r 65], none, [65]⟩,
 ⟨some 60, .mov, [.r 66], none, [66]⟩,
 ⟨some 67, .extract 0, [.r 60], none, []⟩,
 ⟨some 68, .extract 1, [.r 60], none, [60]⟩,
 ⟨some 69, .fa 1, [.r 5], none, []⟩,
 ⟨none, .st 1, [.r 69, .r 67], none, [67, 69]⟩,
 ⟨some 7, .mov, [.r 68], none, [68]⟩])
 (.skip)) <|
.seq (.seq (.ops [⟨some 70, .mov, [.r 7], none, [7, 59]⟩,
 ⟨some 71, .un .not, [.r 70], none, [70]⟩,
 ⟨some 72, .mov, [.r 71], none, [71]⟩,
 ⟨some 73, .fa 1, [.r 5], (some (72, false)), []⟩,
 ⟨some 74, .ld none, [.r 73], (some (72, false)), [73]⟩,
 ⟨some 75, .len, [.r 74], (some (72, false)), [74]⟩,
 ⟨some 76, .bin .eql, [.r 75, .k (.int .i64 0)], (some (72, false)), [75]⟩,
 ⟨some 77, .pick, [.r 72, .k (.bool true), .r 76], none, [72, 76]⟩]) <|
.cond (.r 77)
 (.seq (.ops [⟨some 78, .ld (some 4), [.r 5], none, [0, 5, 77]⟩,
 ⟨none, .st 4, [.r 2, .r 78], none, [78]⟩,
 ⟨some 3, .mov, [.k (.int .i64 1)], none, []⟩,
 ⟨some 4, .mov, [.k (.bool false)], none, []⟩]) <|
 .ret)
 (.skip)) <|
.seq (.seq (.ops [⟨some 79, .mov, [.r 0], none, [77]⟩,
 ⟨some 80, .len, [.r 79], none, [79]⟩,
 ⟨some 81, .bin .eql, [.r 80, .k (.int .i64 2)], none, [80]⟩,
 ⟨some 82, .mov, [.r 81], none, [81]⟩,
 ⟨some 83, .mov, [.r 0], (some (82, false)), []⟩,
 ⟨some 84, .ia 2, [.r 83, .k (.int .i64 2)], (some (82, false)), [83]⟩,
 ⟨some 85, .fa 1, [.r 84], (some (82, false)), [84]⟩,
 ⟨some 86, .ld none, [.r 85], (some (82, false)), [85]⟩,
 ⟨some 87, .ia 1, [.r 86, .k (.int .i64 0)], (some (82, false)), [86]⟩,
 ⟨some 88, .ld none, [.r 87], (some (82, false)), [87]⟩,
 ⟨some 89, .bin .neq, [.r 88, .k (.string ⟨#[104, 111, 109, 101, 115]⟩)], (some (82, false)), [88]⟩,
 ⟨some 90, .pick, [.r 82, .k (.bool true), .r 89], none, [82, 89]⟩]) <|
.cond (.r 90)
 (.seq (.ops [⟨some 91, .ld (some 4), [.r 5], none, [0, 5, 90]⟩,
 ⟨none, .st 4, [.r 2, .r 91], none, [91]⟩,
 ⟨some 3, .mov, [.k (.int .i64 2)], none, []⟩,
 ⟨some 4, .mov, [.k (.bool true)], none, []⟩]) <|
 .ret)
 (.skip)) <|
.seq (.ops [⟨some 93, .mov, [.r 0], none, [0, 90]⟩,
 ⟨some 94, .ia 2, [.r 93, .k (.int .i64 2)], none, [93]⟩,
 ⟨some 95, .fa 1, [.r 94], none, [94]⟩,
 ⟨some 96, .ld none, [.r 95], none, [95]⟩,
 ⟨some 97, .sl 1 true false false, [.r 96, .k (.int .i64 1)], none, [96]⟩,
 ⟨some 98, .call 40, [.r 97], none, [97]⟩,
 ⟨some 92, .mov, [.r 98], none, [98]⟩,
 ⟨some 99, .extract 0, [.r 92], none, []⟩,
 ⟨some 100, .extract 1, [.r 92], none, [92]⟩,
 ⟨some 101, .fa 2, [.r 5], none, []⟩,
 ⟨none, .st 1, [.r 101, .r 99], none, [99, 101]⟩,
 ⟨some 7, .mov, [.r 100], none, [100]⟩]) <|
.seq (.seq (.ops [⟨some 102, .mov, [.r 7], none, [7]⟩,
 ⟨some 103, .un .not, [.r 102], none, [102]⟩,
 ⟨some 104, .mov, [.r 103], none, [103]⟩,
 ⟨some 105, .fa 2, [.r 5], (some (104, false)), []⟩,
 ⟨some 106, .ld none, [.r 105], (some (104, false)), [105]⟩,
 ⟨some 107, .len, [.r 106], (some (104, false)), [106]⟩,
 ⟨some 108, .bin .eql, [.r 107, .k (.int .i64 0)], (some (104, false)), [107]⟩,
 ⟨some 109, .pick, [.r 104, .k (.bool true), .r 108], none, [104, 108]⟩]) <|
.cond (.r 109)
 (.seq (.ops [⟨some 110, .ld (some 4), [.r 5], none, [5, 109]⟩,
 ⟨none, .st 4, [.r 2, .r 110], none, [110]⟩,
 ⟨some 3, .mov, [.k (.int .i64 2)], none, []⟩,
 ⟨some 4, .mov, [.k (.bool false)], none, []⟩]) <|
 .ret)
 (.skip)) <|
.seq (.ops [⟨some 111, .ld (some 4), [.r 5], none, [5, 109]⟩,
 ⟨none, .st 4, [.r 2, .r 111], none, [111]⟩,
 ⟨some 3, .mov, [.k (.int .i64 3)], none, []⟩,
 ⟨some 4, .mov, [.k (.bool true)], none, []⟩]) <|
.ret⟩
theorem c17 : cFn Tryz.prog 17 = some m17.bare := by kernel_rfl

/-- 'swingbridge/text.line' -/
def m18 : MFn := ⟨[.tmp 6], .seq (.ops [⟨some 6, .mov, [.k (.int .i64 0)], none, [6]⟩]) <|
.seq (.seq (.ops [⟨some 7, .mov, [.r 1], none, []⟩,
 ⟨some 8, .mov, [.r 0], none, []⟩,
 ⟨some 9, .len, [.r 8], none, [8]⟩,
 ⟨some 10, .bin .geq, [.r 7, .r 9], none, [7, 9]⟩]) <|
.cond (.r 10)
 (.seq (.ops [⟨some 11, .mov, [.r 2], none, [0, 1, 2, 10]⟩,
 ⟨some 6, .mov, [.r 11], none, [11]⟩]) <|
 .ret)
 (.skip)) <|
.seq (.ops [⟨some 12, .mov, [.r 0], none, [0, 2, 10]⟩,
 ⟨some 13, .mov, [.r 1], none, [1]⟩,
 ⟨some 14, .ia 2, [.r 12, .r 13], none, [12, 13]⟩,
 ⟨some 15, .fa 0, [.r 14], none, [14]⟩,
 ⟨some 16, .ld none, [.r 15], none, [15]⟩,
 ⟨some 6, .mov, [.r 16], none, [16]⟩]) <|
.ret⟩
theorem c18 : cFn Tryz.prog 18 = some m18.bare := by kernel_rfl

/-- 'swingbridge/text.tasked' -/
def m19_0 : MCode := .seq (.ops [⟨some 50, .bin .lss, [.r 49, .r 48], none, []⟩]) <|
 .seq (.cond (.r 50)
 (.skip)
 (.exit 0)) <|
 .seq (.block 1 (.seq (.ops [⟨some 51, .ia 1, [.r 47, .r 49], none, [50]⟩,
 ⟨some 52, .ld none, [.r 51], none, [51]⟩,
 ⟨some 9, .mov, [.r 52], none, [52]⟩]) <|
 .seq (.ops [⟨some 54, .mov, [.r 9], none, [9]⟩,
 ⟨some 55, .call 42, [.r 54], none, [54]⟩,
 ⟨some 53, .mov, [.r 55], none, [55]⟩,
 ⟨some 56, .extract 0, [.r 53], none, []⟩,
 ⟨some 57, .extract 1, [.r 53], none, [53]⟩,
 ⟨some 10, .new 0 [.int .i64 0, .int .i64 0, .int .i64 0], [], none, []⟩,
 ⟨none, .st 3, [.r 10, .r 56], none, [56]⟩,
 ⟨some 11, .mov, [.r 57], none, [57]⟩]) <|
 .seq (.seq (.ops [⟨some 58, .mov, [.r 11], none, [11]⟩,
 ⟨some 59, .bin .neq, [.r 58, .k (.int .i64 0)], none, [58]⟩]) <|
 .cond (.r 59)
 (.seq (.ops [⟨some 60, .build [.string ⟨#[]⟩, .int .i64 0, .int .i64 0, .int .i64 0, .int .i64 0, .slice none 0 0] [], [], none, [7, 10, 47, 48, 49, 59]⟩,
 ⟨some 61, .mov, [.r 4], none, [4]⟩,
 ⟨none, .st 6, [.r 2, .r 60], none, [60]⟩,
 ⟨some 3, .mov, [.r 61], none, [61]⟩]) <|
 .ret)
 (.skip)) <|
 .ops [⟨some 62, .fa 5, [.r 7], none, [59]⟩,
 ⟨some 63, .ld none, [.r 62], none, [62]⟩,
 ⟨some 64, .ld (some 3), [.r 10], none, [10]⟩,
 ⟨some 65, .bslice 3 1 [.int .i64 0, .int .i64 0, .int .i64 0] [(0, 3)], [.r 64], none, [64]⟩,
 ⟨some 66, .app 3 24, [.r 63, .r 65], none, [63, 65]⟩,
 ⟨some 67, .fa 5, [.r 7], none, []⟩,
 ⟨none, .st 1, [.r 67, .r 66], none, [66, 67]⟩])) <|
 .ops [⟨some 68, .bin .add, [.r 49, .k (.int .i64 1)], none, [49]⟩,
 ⟨some 49, .mov, [.r 68], none, [68]⟩]
def m19 : MFn := ⟨[.cell 2 (some 6), .tmp 3], .seq (.ops [⟨some 2, .new 0 [.string ⟨#[]⟩, .int .i64 0, .int .i64 0, .int .i64 0, .int .i64 0, .slice none 0 0], [], none, []⟩,
 ⟨some 3, .mov, [.k (.int .i64 0)], none, [3]⟩]) <|
.seq (.ops [⟨some 4, .mov, [.k (.int .i64 10)], none, []⟩]) <|
.seq (.seq (.ops [⟨some 12, .mov, [.r 0], none, []⟩,
 ⟨some 13, .sl 1 true false false, [.r 12, .k (.int .i64 1)], none, [12]⟩,
 ⟨some 14, .call 41, [.r 13], none, [13]⟩]) <|
.cond (.r 14)
 (.ops [⟨some 4, .mov, [.k (.int .i64 18)], none, [14]⟩])
 (.skip)) <|
.seq (.seq (.ops [⟨some 15, .mov, [.r 0], none, [14]⟩,
 ⟨some 16, .len, [.r 15], none, [15]⟩,
 ⟨some 17, .bin .lss, [.r 16, .k (.int .i64 6)], none, [16]⟩]) <|
.cond (.r 17)
 (.seq (.ops [⟨some 18, .build [.string ⟨#[]⟩, .int .i64 0, .int .i64 0, .int .i64 0, .int .i64 0, .slice none 0 0] [], [], none, [0, 17]⟩,
 ⟨some 19, .mov, [.r 4], none, [4]⟩,
 ⟨none, .st 6, [.r 2, .r 18], none, [18]⟩,
 ⟨some 3, .mov, [.r 19], none, [19]⟩]) <|
 .ret)
 (.skip)) <|
.seq (.ops [⟨some 21, .mov, [.r 0], none, [17]⟩,
 ⟨some 22, .sl 1 true true false, [.r 21, .k (.int .i64 2), .k (.int .i64 6)], none, [21]⟩,
 ⟨some 23, .call 40, [.r 22], none, [22]⟩,
 ⟨some 20, .mov, [.r 23], none, [23]⟩,
 ⟨some 24, .extract 0, [.r 20], none, []⟩,
 ⟨some 25, .extract 1, [.r 20], none, [20]⟩,
 ⟨some 5, .mov, [.r 24], none, [24]⟩,
 ⟨some 6, .mov, [.r 25], none, [25]⟩]) <|
.seq (.seq (.ops [⟨some 26, .mov, [.r 6], none, [6]⟩,
 ⟨some 27, .un .not, [.r 26], none, [26]⟩]) <|
.cond (.r 27)
 (.seq (.ops [⟨some 28, .build [.string ⟨#[]⟩, .int .i64 0, .int .i64 0, .int .i64 0, .int .i64 0, .slice none 0 0] [], [], none, [0, 5, 27]⟩,
 ⟨some 29, .mov, [.r 4], none, [4]⟩,
 ⟨none, .st 6, [.r 2, .r 28], none, [28]⟩,
 ⟨some 3, .mov, [.r 29], none, [29]⟩]) <|
 .ret)
 (.skip)) <|
.seq (.draw [⟨some 30, .mov, [.r 0], none, [27]⟩,
 ⟨some 31, .ia 1, [.r 30, .k (.int .i64 1)], none, [30]⟩,
 ⟨some 32, .ld none, [.r 31], none, [31]⟩,
 ⟨some 33, .mov, [.r 5], none, []⟩,
 ⟨some 34, .ia 1, [.r 33, .k (.int .i64 0)], none, [33]⟩,
 ⟨some 35, .ld none, [.r 34], none, [34]⟩,
 ⟨some 36, .mov, [.r 5], none, []⟩,
 ⟨some 37, .ia 1, [.r 36, .k (.int .i64 1)], none, [36]⟩,
 ⟨some 38, .ld none, [.r 37], none, [37]⟩,
 ⟨some 39, .mov, [.r 5], none, []⟩,
 ⟨some 40, .ia 1, [.r 39, .k (.int .i64 2)], none, [39]⟩,
 ⟨some 41, .ld none, [.r 40], none, [40]⟩,
 ⟨some 42, .mov, [.r 5], none, [5]⟩,
 ⟨some 43, .ia 1, [.r 42, .k (.int .i64 3)], none, [42]⟩,
 ⟨some 44, .ld none, [.r 43], none, [43]⟩,
 ⟨some 45, .build [.string ⟨#[]⟩, .int .i64 0, .int .i64 0, .int .i64 0, .int .i64 0, .slice none 0 0] [(0, 1), (1, 1), (2, 1), (3, 1), (4, 1)], [.r 32, .r 35, .r 38, .r 41, .r 44], none, [32, 35, 38, 41, 44]⟩,
 ⟨some 7, .new 0 [.string ⟨#[]⟩, .int .i64 0, .int .i64 0, .int .i64 0, .int .i64 0, .slice none 0 0], [], none, []⟩,
 ⟨none, .st 6, [.r 7, .r 45], none, [45]⟩] []) <|
.seq (.seq (.ops [⟨some 46, .mov, [.r 0], none, [0]⟩,
 ⟨some 47, .sl 1 true false false, [.r 46, .k (.int .i64 6)], none, [46]⟩,
 ⟨some 48, .len, [.r 47], none, []⟩,
 ⟨some 49, .mov, [.k (.int .i64 0)], none, []⟩]) <|
.block 0 (.loop m19_0)) <|
.seq (.ops [⟨some 69, .ld (some 6), [.r 7], none, [4, 7, 47, 48, 49, 50]⟩,
 ⟨none, .st 6, [.r 2, .r 69], none, [69]⟩,
 ⟨some 3, .mov, [.k (.int .i64 0)], none, []⟩]) <|
.ret⟩
theorem c19 : cFn Tryz.prog 19 = some m19.bare := by kernel_rfl

/-- 'swingbridge/task.Check' -/
def m20_0 : MCode := .seq (.ops [⟨some 29, .bin .lss, [.r 28, .r 27], none, []⟩]) <|
 .seq (.cond (.r 29)
 (.skip)
 (.exit 1)) <|
 .seq (.block 2 (.seq (.ops [⟨some 30, .mov, [.r 28], none, [29]⟩,
 ⟨some 4, .mov, [.r 30], none, [30]⟩]) <|
 .seq (.ops [⟨some 31, .ld (some 4), [.r 1], none, []⟩,
 ⟨some 32, .mov, [.r 4], none, []⟩,
 ⟨some 33, .call 45, [.r 31, .r 32], none, [31, 32]⟩,
 ⟨some 5, .mov, [.r 33], none, [33]⟩]) <|
 .seq (.ops [⟨some 34, .mov, [.r 5], none, []⟩,
 ⟨some 35, .bin .neq, [.r 34, .k (.int .i64 0)], none, [34]⟩]) <|
 .cond (.r 35)
 (.seq (.ops [⟨some 36, .mov, [.r 4], none, [1, 4, 27, 28, 35]⟩,
 ⟨some 37, .mov, [.r 5], none, [5]⟩,
 ⟨some 2, .mov, [.r 36], none, [36]⟩,
 ⟨some 3, .mov, [.r 37], none, [37]⟩]) <|
 .ret)
 (.skip))) <|
 .ops [⟨some 38, .bin .add, [.r 28, .k (.int .i64 1)], none, [4, 5, 28, 35]⟩,
 ⟨some 28, .mov, [.r 38], none, [38]⟩]
def m20 : MFn := ⟨[.tmp 2, .tmp 3], .seq (.ops [⟨some 1, .box, [.r 0], none, [0]⟩,
 ⟨some 2, .mov, [.k (.int .i64 0)], none, [2]⟩,
 ⟨some 3, .mov, [.k (.int .i64 0)], none, [3]⟩]) <|
.seq (.block 0 (.seq (.ops [⟨some 7, .fa 0, [.r 1], none, []⟩,
 ⟨some 8, .ld none, [.r 7], none, [7]⟩,
 ⟨some 9, .call 43, [.r 8, .k (.int .i64 1), .k (.int .i64 3)], none, [8]⟩,
 ⟨some 10, .un .not, [.r 9], none, [9]⟩,
 ⟨some 6, .mov, [.r 10], none, [10]⟩]) <|
 .cond (.r 6)
 (.seq (.ops [⟨some 2, .mov, [.k (.int .i64 (-1))], none, [1, 6]⟩,
 ⟨some 3, .mov, [.k (.int .i64 10)], none, []⟩]) <|
 .ret)
 (.seq (.ops [⟨some 12, .ld (some 4), [.r 1], none, [6]⟩,
 ⟨some 13, .call 44, [.r 12], none, [12]⟩,
 ⟨some 14, .un .not, [.r 13], none, [13]⟩,
 ⟨some 11, .mov, [.r 14], none, [14]⟩]) <|
 .cond (.r 11)
 (.seq (.ops [⟨some 2, .mov, [.k (.int .i64 (-1))], none, [1, 11]⟩,
 ⟨some 3, .mov, [.k (.int .i64 16)], none, []⟩]) <|
 .ret)
 (.seq (.ops [⟨some 16, .fa 3, [.r 1], none, [11]⟩,
 ⟨some 17, .ld none, [.r 16], none, [16]⟩,
 ⟨some 18, .len, [.r 17], none, [17]⟩,
 ⟨some 19, .bin .gtr, [.r 18, .k (.int .i64 6)], none, [18]⟩,
 ⟨some 15, .mov, [.r 19], none, [19]⟩]) <|
 .cond (.r 15)
 (.seq (.ops [⟨some 2, .mov, [.k (.int .i64 (-1))], none, [1, 15]⟩,
 ⟨some 3, .mov, [.k (.int .i64 11)], none, []⟩]) <|
 .ret)
 (.seq (.ops [⟨some 21, .fa 3, [.r 1], none, [15]⟩,
 ⟨some 22, .ld none, [.r 21], none, [21]⟩,
 ⟨some 23, .len, [.r 22], none, [22]⟩,
 ⟨some 24, .bin .eql, [.r 23, .k (.int .i64 0)], none, [23]⟩,
 ⟨some 20, .mov, [.r 24], none, [24]⟩]) <|
 .cond (.r 20)
 (.seq (.ops [⟨some 2, .mov, [.k (.int .i64 (-1))], none, [1, 20]⟩,
 ⟨some 3, .mov, [.k (.int .i64 14)], none, []⟩]) <|
 .ret)
 (.skip)))))) <|
.seq (.seq (.ops [⟨some 25, .fa 3, [.r 1], none, [20]⟩,
 ⟨some 26, .ld none, [.r 25], none, [25]⟩,
 ⟨some 27, .len, [.r 26], none, [26]⟩,
 ⟨some 28, .mov, [.k (.int .i64 0)], none, []⟩]) <|
.block 1 (.loop m20_0)) <|
.seq (.ops [⟨some 2, .mov, [.k (.int .i64 (-1))], none, [1, 27, 28, 29]⟩,
 ⟨some 3, .mov, [.k (.int .i64 0)], none, []⟩]) <|
.ret⟩
theorem c20 : cFn Tryz.prog 20 = some m20.bare := by kernel_rfl

/-- 'swingbridge/swingbridgeref7.ints' -/
def m22_0 : MCode := .seq (.seq (.ops [⟨some 8, .mov, [.r 5], none, []⟩,
 ⟨some 9, .mov, [.r 0], none, []⟩,
 ⟨some 10, .len, [.r 9], none, [9]⟩,
 ⟨some 11, .bin .lss, [.r 8, .r 10], none, [8, 10]⟩]) <|
 .cond (.r 11)
 (.skip)
 (.exit 0)) <|
 .seq (.block 1 (.seq (.ops [⟨some 15, .mov, [.r 0], none, [11]⟩,
 ⟨some 16, .mov, [.r 5], none, []⟩,
 ⟨some 17, .ia 1, [.r 15, .r 16], none, [15, 16]⟩,
 ⟨some 18, .ld none, [.r 17], none, [17]⟩,
 ⟨some 19, .call 46, [.r 18], none, [18]⟩,
 ⟨some 14, .mov, [.r 19], none, [19]⟩,
 ⟨some 20, .extract 0, [.r 14], none, []⟩,
 ⟨some 21, .extract 1, [.r 14], none, [14]⟩,
 ⟨some 6, .mov, [.r 20], none, [20]⟩,
 ⟨some 7, .mov, [.r 21], none, [21]⟩]) <|
 .seq (.seq (.ops [⟨some 22, .mov, [.r 7], none, [7]⟩,
 ⟨some 23, .un .not, [.r 22], none, [22]⟩]) <|
 .cond (.r 23)
 (.seq (.ops [⟨some 2, .mov, [.k (.slice none 0 0)], none, [0, 4, 5, 6, 23]⟩,
 ⟨some 3, .mov, [.k (.bool false)], none, []⟩]) <|
 .ret)
 (.skip)) <|
 .ops [⟨some 24, .mov, [.r 4], none, [4, 23]⟩,
 ⟨some 25, .mov, [.r 6], none, [6]⟩,
 ⟨some 26, .bslice 1 1 [.int .i64 0] [(0, 1)], [.r 25], none, [25]⟩,
 ⟨some 27, .app 1 8, [.r 24, .r 26], none, [24, 26]⟩,
 ⟨some 4, .mov, [.r 27], none, [27]⟩])) <|
 .ops [⟨some 12, .mov, [.r 5], none, [5]⟩,
 ⟨some 13, .bin .add, [.r 12, .k (.int .i64 1)], none, [12]⟩,
 ⟨some 5, .mov, [.r 13], none, [13]⟩]
def m22 : MFn := ⟨[.tmp 2, .tmp 3], .seq (.ops [⟨some 2, .mov, [.k (.slice none 0 0)], none, [2]⟩,
 ⟨some 3, .mov, [.k (.bool false)], none, [3]⟩]) <|
.seq (.ops [⟨some 4, .mov, [.k (.slice none 0 0)], none, []⟩]) <|
.seq (.seq (.ops [⟨some 5, .mov, [.k (.int .i64 0)], none, []⟩]) <|
.block 0 (.loop m22_0)) <|
.seq (.ops [⟨some 28, .mov, [.r 4], none, [0, 4, 5, 11]⟩,
 ⟨some 2, .mov, [.r 28], none, [28]⟩,
 ⟨some 3, .mov, [.k (.bool true)], none, []⟩]) <|
.ret⟩
theorem c22 : cFn Tryz.prog 22 = some m22.bare := by kernel_rfl

/-- 'swingbridge/swingbridgeref7.protocol' -/
def m23_0 : MCode := .seq (.seq (.ops [⟨some 4, .mov, [.r 3], none, []⟩,
 ⟨some 5, .bin .leq, [.r 4, .k (.int .i64 3)], none, [4]⟩]) <|
 .cond (.r 5)
 (.skip)
 (.exit 0)) <|
 .seq (.block 1 (.seq (.draw [⟨some 8, .mov, [.r 0], none, [5]⟩,
 ⟨some 9, .len, [.r 8], none, [8]⟩,
 ⟨some 10, .bin .eql, [.r 9, .k (.int .i64 2)], none, [9]⟩,
 ⟨some 11, .mov, [.r 10], none, [10]⟩,
 ⟨some 12, .mov, [.r 0], (some (11, true)), []⟩,
 ⟨some 13, .ia 1, [.r 12, .k (.int .i64 0)], (some (11, true)), [12]⟩,
 ⟨some 14, .ld none, [.r 13], (some (11, true)), [13]⟩,
 ⟨some 15, .bin .eql, [.r 14, .k (.string ⟨#[112, 114, 111, 116, 111, 99, 111, 108]⟩)], (some (11, true)), [14]⟩,
 ⟨some 16, .pick, [.r 11, .r 15, .k (.bool false)], none, [11, 15]⟩,
 ⟨some 17, .mov, [.r 16], none, [16]⟩,
 ⟨some 18, .mov, [.r 0], (some (17, true)), []⟩,
 ⟨some 19, .ia 1, [.r 18, .k (.int .i64 1)], (some (17, true)), [18]⟩,
 ⟨some 20, .ld none, [.r 19], (some (17, true)), [19]⟩,
 ⟨some 21, .mov, [.r 3], (some (17, true)), []⟩,
 ⟨some 22, .call 31, [.r 21], (some (17, true)), [21]⟩,
 ⟨some 23, .bin .eql, [.r 20, .r 22], (some (17, true)), [20, 22]⟩,
 ⟨some 24, .pick, [.r 17, .r 23, .k (.bool false)], none, [17, 23]⟩] [(12, 14)]) <|
 .cond (.r 24)
 (.seq (.ops [⟨some 25, .mov, [.r 3], none, [0, 3, 24]⟩,
 ⟨some 2, .mov, [.r 25], none, [25]⟩]) <|
 .ret)
 (.skip))) <|
 .ops [⟨some 6, .mov, [.r 3], none, [3, 24]⟩,
 ⟨some 7, .bin .add, [.r 6, .k (.int .i64 1)], none, [6]⟩,
 ⟨some 3, .mov, [.r 7], none, [7]⟩]
def m23 : MFn := ⟨[.tmp 2], .seq (.ops [⟨some 2, .mov, [.k (.int .i64 0)], none, [2]⟩]) <|
.seq (.seq (.ops [⟨some 3, .mov, [.k (.int .i64 1)], none, []⟩]) <|
.block 0 (.loop m23_0)) <|
.seq (.ops [⟨some 2, .mov, [.k (.int .i64 0)], none, [0, 3, 5]⟩]) <|
.ret⟩
theorem c23 : cFn Tryz.prog 23 = some m23.bare := by kernel_rfl

/-- 'swingbridge/swingbridgeref7.taskOf' -/
def m24_0 : MCode := .seq (.seq (.ops [⟨some 52, .mov, [.r 8], none, []⟩,
 ⟨some 53, .mov, [.r 0], none, []⟩,
 ⟨some 54, .len, [.r 53], none, [53]⟩,
 ⟨some 55, .bin .lss, [.r 52, .r 54], none, [52, 54]⟩]) <|
 .cond (.r 55)
 (.skip)
 (.exit 2)) <|
 .seq (.block 3 (.seq (.ops [⟨some 59, .mov, [.r 0], none, [55]⟩,
 ⟨some 60, .mov, [.r 8], none, []⟩,
 ⟨some 61, .ia 1, [.r 59, .r 60], none, [59, 60]⟩,
 ⟨some 62, .ld none, [.r 61], none, [61]⟩,
 ⟨some 63, .call 48, [.r 62], none, [62]⟩,
 ⟨some 58, .mov, [.r 63], none, [63]⟩,
 ⟨some 64, .extract 0, [.r 58], none, []⟩,
 ⟨some 65, .extract 1, [.r 58], none, [58]⟩,
 ⟨some 9, .new 0 [.int .i64 0, .int .i64 0, .int .i64 0], [], none, []⟩,
 ⟨none, .st 3, [.r 9, .r 64], none, [64]⟩,
 ⟨some 10, .mov, [.r 65], none, [65]⟩]) <|
 .seq (.seq (.ops [⟨some 66, .mov, [.r 10], none, []⟩,
 ⟨some 67, .bin .neq, [.r 66, .k (.int .i64 0)], none, [66]⟩]) <|
 .cond (.r 67)
 (.seq (.ops [⟨some 68, .build [.string ⟨#[]⟩, .int .i64 0, .int .i64 0, .int .i64 0, .int .i64 0, .slice none 0 0] [], [], none, [0, 7, 8, 9, 67]⟩,
 ⟨some 69, .mov, [.r 10], none, [10]⟩,
 ⟨none, .st 6, [.r 2, .r 68], none, [68]⟩,
 ⟨some 3, .mov, [.r 69], none, [69]⟩]) <|
 .ret)
 (.skip)) <|
 .ops [⟨some 70, .fa 5, [.r 7], none, [10, 67]⟩,
 ⟨some 71, .ld none, [.r 70], none, [70]⟩,
 ⟨some 72, .ld (some 3), [.r 9], none, [9]⟩,
 ⟨some 73, .bslice 3 1 [.int .i64 0, .int .i64 0, .int .i64 0] [(0, 3)], [.r 72], none, [72]⟩,
 ⟨some 74, .app 3 24, [.r 71, .r 73], none, [71, 73]⟩,
 ⟨some 75, .fa 5, [.r 7], none, []⟩,
 ⟨none, .st 1, [.r 75, .r 74], none, [74, 75]⟩])) <|
 .ops [⟨some 56, .mov, [.r 8], none, [8]⟩,
 ⟨some 57, .bin .add, [.r 56, .k (.int .i64 1)], none, [56]⟩,
 ⟨some 8, .mov, [.r 57], none, [57]⟩]
def m24_1 : MCode := .seq (.seq (.ops [⟨some 11, .mov, [.r 4], none, []⟩,
 ⟨some 12, .mov, [.r 0], none, []⟩,
 ⟨some 13, .len, [.r 12], none, [12]⟩,
 ⟨some 14, .bin .lss, [.r 11, .r 13], none, [11, 13]⟩]) <|
 .cond (.r 14)
 (.skip)
 (.exit 0)) <|
 .seq (.block 1 (.seq (.ops [⟨some 17, .mov, [.r 0], none, [14]⟩,
 ⟨some 18, .mov, [.r 4], none, []⟩,
 ⟨some 19, .ia 1, [.r 17, .r 18], none, [17, 18]⟩,
 ⟨some 20, .ld none, [.r 19], none, [19]⟩,
 ⟨some 21, .call 47, [.r 20], none, [20]⟩]) <|
 .cond (.r 21)
 (.seq (.ops [⟨some 22, .build [.string ⟨#[]⟩, .int .i64 0, .int .i64 0, .int .i64 0, .int .i64 0, .slice none 0 0] [], [], none, [0, 4, 21]⟩,
 ⟨none, .st 6, [.r 2, .r 22], none, [22]⟩,
 ⟨some 3, .mov, [.k (.int .i64 18)], none, []⟩]) <|
 .ret)
 (.skip))) <|
 .ops [⟨some 15, .mov, [.r 4], none, [4, 21]⟩,
 ⟨some 16, .bin .add, [.r 15, .k (.int .i64 1)], none, [15]⟩,
 ⟨some 4, .mov, [.r 16], none, [16]⟩]
def m24 : MFn := ⟨[.cell 2 (some 6), .tmp 3], .seq (.ops [⟨some 2, .new 0 [.string ⟨#[]⟩, .int .i64 0, .int .i64 0, .int .i64 0, .int .i64 0, .slice none 0 0], [], none, []⟩,
 ⟨some 3, .mov, [.k (.int .i64 0)], none, [3]⟩]) <|
.seq (.seq (.ops [⟨some 4, .mov, [.k (.int .i64 0)], none, []⟩]) <|
.block 0 (.loop m24_1)) <|
.seq (.seq (.ops [⟨some 23, .mov, [.r 0], none, [4, 14]⟩,
 ⟨some 24, .len, [.r 23], none, [23]⟩,
 ⟨some 25, .bin .lss, [.r 24, .k (.int .i64 6)], none, [24]⟩]) <|
.cond (.r 25)
 (.seq (.ops [⟨some 26, .build [.string ⟨#[]⟩, .int .i64 0, .int .i64 0, .int .i64 0, .int .i64 0, .slice none 0 0] [], [], none, [0, 25]⟩,
 ⟨none, .st 6, [.r 2, .r 26], none, [26]⟩,
 ⟨some 3, .mov, [.k (.int .i64 10)], none, []⟩]) <|
 .ret)
 (.skip)) <|
.seq (.ops [⟨some 28, .mov, [.r 0], none, [25]⟩,
 ⟨some 29, .sl 1 true true false, [.r 28, .k (.int .i64 2), .k (.int .i64 6)], none, [28]⟩,
 ⟨some 30, .call 22, [.r 29], none, [29]⟩,
 ⟨some 27, .mov, [.r 30], none, [30]⟩,
 ⟨some 31, .extract 0, [.r 27], none, []⟩,
 ⟨some 32, .extract 1, [.r 27], none, [27]⟩,
 ⟨some 5, .mov, [.r 31], none, [31]⟩,
 ⟨some 6, .mov, [.r 32], none, [32]⟩]) <|
.seq (.seq (.ops [⟨some 33, .mov, [.r 6], none, [6]⟩,
 ⟨some 34, .un .not, [.r 33], none, [33]⟩]) <|
.cond (.r 34)
 (.seq (.ops [⟨some 35, .build [.string ⟨#[]⟩, .int .i64 0, .int .i64 0, .int .i64 0, .int .i64 0, .slice none 0 0] [], [], none, [0, 5, 34]⟩,
 ⟨none, .st 6, [.r 2, .r 35], none, [35]⟩,
 ⟨some 3, .mov, [.k (.int .i64 10)], none, []⟩]) <|
 .ret)
 (.skip)) <|
.seq (.draw [⟨some 36, .mov, [.r 0], none, [34]⟩,
 ⟨some 37, .ia 1, [.r 36, .k (.int .i64 1)], none, [36]⟩,
 ⟨some 38, .ld none, [.r 37], none, [37]⟩,
 ⟨some 39, .mov, [.r 5], none, []⟩,
 ⟨some 40, .ia 1, [.r 39, .k (.int .i64 0)], none, [39]⟩,
 ⟨some 41, .ld none, [.r 40], none, [40]⟩,
 ⟨some 42, .mov, [.r 5], none, []⟩,
 ⟨some 43, .ia 1, [.r 42, .k (.int .i64 1)], none, [42]⟩,
 ⟨some 44, .ld none, [.r 43], none, [43]⟩,
 ⟨some 45, .mov, [.r 5], none, []⟩,
 ⟨some 46, .ia 1, [.r 45, .k (.int .i64 2)], none, [45]⟩,
 ⟨some 47, .ld none, [.r 46], none, [46]⟩,
 ⟨some 48, .mov, [.r 5], none, [5]⟩,
 ⟨some 49, .ia 1, [.r 48, .k (.int .i64 3)], none, [48]⟩,
 ⟨some 50, .ld none, [.r 49], none, [49]⟩,
 ⟨some 51, .build [.string ⟨#[]⟩, .int .i64 0, .int .i64 0, .int .i64 0, .int .i64 0, .slice none 0 0] [(0, 1), (1, 1), (2, 1), (3, 1), (4, 1)], [.r 38, .r 41, .r 44, .r 47, .r 50], none, [38, 41, 44, 47, 50]⟩,
 ⟨some 7, .new 0 [.string ⟨#[]⟩, .int .i64 0, .int .i64 0, .int .i64 0, .int .i64 0, .slice none 0 0], [], none, []⟩,
 ⟨none, .st 6, [.r 7, .r 51], none, [51]⟩] []) <|
.seq (.seq (.ops [⟨some 8, .mov, [.k (.int .i64 6)], none, []⟩]) <|
.block 2 (.loop m24_0)) <|
.seq (.ops [⟨some 76, .ld (some 6), [.r 7], none, [0, 7, 8, 55]⟩,
 ⟨none, .st 6, [.r 2, .r 76], none, [76]⟩,
 ⟨some 3, .mov, [.k (.int .i64 0)], none, []⟩]) <|
.ret⟩
theorem c24 : cFn Tryz.prog 24 = some m24.bare := by kernel_rfl

/-- 'swingbridge/swingbridgeref7.checked' -/
def m25 : MFn := ⟨[.cell 8 (some 4), .tmp 9, .tmp 10], .seq (.ops [⟨some 4, .box, [.r 0], none, [0]⟩,
 ⟨some 8, .new 0 [.int .i64 0, .slice none 0 0, .slice none 0 0, .slice none 0 0], [], none, []⟩,
 ⟨some 9, .mov, [.k (.int .i64 0)], none, [9]⟩,
 ⟨some 10, .mov, [.k (.int .i64 0)], none, [10]⟩]) <|
.seq (.ops [⟨some 14, .ld (some 4), [.r 4], none, []⟩,
 ⟨some 15, .call 36, [.r 14], none, [14]⟩,
 ⟨some 13, .mov, [.r 15], none, [15]⟩,
 ⟨some 16, .extract 0, [.r 13], none, []⟩,
 ⟨some 17, .extract 1, [.r 13], none, [13]⟩,
 ⟨some 11, .mov, [.r 16], none, [16]⟩,
 ⟨some 12, .mov, [.r 17], none, [17]⟩]) <|
.seq (.block 0 (.seq (.ops [⟨some 19, .mov, [.r 12], none, []⟩,
 ⟨some 20, .bin .eql, [.r 19, .k (.int .i64 0)], none, [19]⟩,
 ⟨some 18, .mov, [.r 20], none, [20]⟩]) <|
 .cond (.r 18)
 (.seq (.ops [⟨some 21, .ld (some 4), [.r 4], none, [1, 2, 4, 11, 12, 18]⟩,
 ⟨some 22, .mov, [.r 3], none, [3]⟩,
 ⟨none, .st 4, [.r 8, .r 21], none, [21]⟩,
 ⟨some 9, .mov, [.r 22], none, [22]⟩,
 ⟨some 10, .mov, [.k (.int .i64 0)], none, []⟩]) <|
 .ret)
 (.seq (.ops [⟨some 24, .mov, [.r 11], none, [4, 18]⟩,
 ⟨some 25, .bin .geq, [.r 24, .k (.int .i64 0)], none, [24]⟩,
 ⟨some 23, .mov, [.r 25], none, [25]⟩]) <|
 .cond (.r 23)
 (.seq (.draw [⟨some 26, .build [.int .i64 0, .slice none 0 0, .slice none 0 0, .slice none 0 0] [], [], none, [2, 3, 23]⟩,
 ⟨some 27, .mov, [.r 1], none, [1]⟩,
 ⟨some 28, .mov, [.r 11], none, [11]⟩,
 ⟨some 29, .ia 1, [.r 27, .r 28], none, [27, 28]⟩,
 ⟨some 30, .ld none, [.r 29], none, [29]⟩,
 ⟨some 31, .mov, [.r 12], none, [12]⟩,
 ⟨none, .st 4, [.r 8, .r 26], none, [26]⟩,
 ⟨some 9, .mov, [.r 30], none, [30]⟩,
 ⟨some 10, .mov, [.r 31], none, [31]⟩] [(4, 6)]) <|
 .ret)
 (.seq (.ops [⟨some 33, .mov, [.r 12], none, [1, 11, 23]⟩,
 ⟨some 34, .bin .eql, [.r 33, .k (.int .i64 16)], none, [33]⟩,
 ⟨some 32, .mov, [.r 34], none, [34]⟩]) <|
 .cond (.r 32)
 (.seq (.ops [⟨some 35, .build [.int .i64 0, .slice none 0 0, .slice none 0 0, .slice none 0 0] [], [], none, [3, 32]⟩,
 ⟨some 36, .mov, [.r 2], none, [2]⟩,
 ⟨some 37, .mov, [.r 12], none, [12]⟩,
 ⟨none, .st 4, [.r 8, .r 35], none, [35]⟩,
 ⟨some 9, .mov, [.r 36], none, [36]⟩,
 ⟨some 10, .mov, [.r 37], none, [37]⟩]) <|
 .ret)
 (.skip))))) <|
.seq (.ops [⟨some 38, .build [.int .i64 0, .slice none 0 0, .slice none 0 0, .slice none 0 0] [], [], none, [2, 32]⟩,
 ⟨some 39, .mov, [.r 3], none, [3]⟩,
 ⟨some 40, .mov, [.r 12], none, [12]⟩,
 ⟨none, .st 4, [.r 8, .r 38], none, [38]⟩,
 ⟨some 9, .mov, [.r 39], none, [39]⟩,
 ⟨some 10, .mov, [.r 40], none, [40]⟩]) <|
.ret⟩
theorem c25 : cFn Tryz.prog 25 = some m25.bare := by kernel_rfl

/-- '(*strings.Builder).WriteString' -/
def m26 : MFn := ⟨[.tmp 4, .tmp 5], .seq (.ops [⟨some 4, .mov, [.k (.int .i64 0)], none, [4]⟩,
 ⟨some 5, .mov, [.k (.nilIface)], none, [5]⟩]) <|
.seq (.ops [⟨some 6, .mov, [.r 0], none, []⟩,
 ⟨some 7, .call 49, [.r 6], none, [6, 7]⟩]) <|
.seq (.ops [⟨some 8, .mov, [.r 0], none, []⟩,
 ⟨some 9, .mov, [.r 0], none, [0]⟩,
 ⟨some 10, .nilck, [.r 9], none, [9]⟩,
 ⟨some 11, .fa 1, [.r 10], none, [10]⟩,
 ⟨some 12, .ld none, [.r 11], none, [11]⟩,
 ⟨some 13, .mov, [.r 1], none, []⟩,
 ⟨some 14, .appb 5 1, [.r 12, .r 13], none, [12, 13]⟩,
 ⟨some 15, .nilck, [.r 8], none, [8]⟩,
 ⟨some 16, .fa 1, [.r 15], none, [15]⟩,
 ⟨none, .st 1, [.r 16, .r 14], none, [14, 16]⟩]) <|
.seq (.ops [⟨some 17, .mov, [.r 1], none, [1]⟩,
 ⟨some 18, .lens, [.r 17], none, [17]⟩,
 ⟨some 4, .mov, [.r 18], none, [18]⟩,
 ⟨some 5, .mov, [.k (.nilIface)], none, []⟩]) <|
.ret⟩
theorem c26 : cFn Tryz.prog 26 = some m26.bare := by kernel_rfl

/-- 'swingbridge/text.protocol' -/
def m27 : MFn := ⟨[.tmp 2], .seq (.ops [⟨some 2, .mov, [.k (.string ⟨#[]⟩)], none, [2]⟩]) <|
.seq (.ops [⟨some 3, .build [.string ⟨#[]⟩, .string ⟨#[]⟩, .string ⟨#[]⟩, .string ⟨#[]⟩] [(0, 1), (1, 1), (2, 1), (3, 1)], [.k (.string ⟨#[]⟩), .k (.string ⟨#[102, 97, 105, 114]⟩), .k (.string ⟨#[97, 103, 101, 110, 116]⟩), .k (.string ⟨#[116, 111, 107, 101, 110]⟩)], none, []⟩,
 ⟨some 4, .mov, [.r 0], none, [0]⟩,
 ⟨some 5, .idxa 4 1 none, [.r 3, .r 4], none, [3, 4]⟩,
 ⟨some 2, .mov, [.r 5], none, [5]⟩]) <|
.ret⟩
theorem c27 : cFn Tryz.prog 27 = some m27.bare := by kernel_rfl

/-- 'swingbridge/text.nums' -/
def m28_0 : MCode := .seq (.ops [⟨some 9, .bin .lss, [.r 8, .r 7], none, []⟩]) <|
 .seq (.cond (.r 9)
 (.skip)
 (.exit 0)) <|
 .seq (.block 1 (.seq (.ops [⟨some 10, .ia 1, [.r 6, .r 8], none, [9]⟩,
 ⟨some 11, .ld none, [.r 10], none, [10]⟩,
 ⟨some 5, .mov, [.r 11], none, [11]⟩]) <|
 .ops [⟨some 12, .mov, [.r 3], none, [3]⟩,
 ⟨some 13, .mov, [.r 5], none, [5]⟩,
 ⟨some 14, .call 50, [.r 13], none, [13]⟩,
 ⟨some 15, .bin .add, [.k (.string ⟨#[32]⟩), .r 14], none, [14]⟩,
 ⟨some 16, .bin .add, [.r 12, .r 15], none, [12, 15]⟩,
 ⟨some 3, .mov, [.r 16], none, [16]⟩])) <|
 .ops [⟨some 17, .bin .add, [.r 8, .k (.int .i64 1)], none, [8]⟩,
 ⟨some 8, .mov, [.r 17], none, [17]⟩]
def m28 : MFn := ⟨[.tmp 2], .seq (.ops [⟨some 2, .mov, [.k (.string ⟨#[]⟩)], none, [2]⟩]) <|
.seq (.ops [⟨some 3, .mov, [.k (.string ⟨#[]⟩)], none, []⟩]) <|
.seq (.seq (.ops [⟨some 6, .mov, [.r 0], none, [0]⟩,
 ⟨some 7, .len, [.r 6], none, []⟩,
 ⟨some 8, .mov, [.k (.int .i64 0)], none, []⟩]) <|
.block 0 (.loop m28_0)) <|
.seq (.ops [⟨some 18, .mov, [.r 3], none, [3, 6, 7, 8, 9]⟩,
 ⟨some 2, .mov, [.r 18], none, [18]⟩]) <|
.ret⟩
theorem c28 : cFn Tryz.prog 28 = some m28.bare := by kernel_rfl

/-- 'swingbridge/text.part' -/
def m29 : MFn := ⟨[.tmp 2], .seq (.ops [⟨some 1, .box, [.r 0], none, [0]⟩,
 ⟨some 2, .mov, [.k (.string ⟨#[]⟩)], none, [2]⟩]) <|
.seq (.seq (.ops [⟨some 3, .fa 0, [.r 1], none, []⟩,
 ⟨some 4, .ld none, [.r 3], none, [3]⟩]) <|
.block 0 (.seq (.ops [⟨some 6, .bin .eql, [.r 4, .k (.int .i64 1)], none, []⟩,
 ⟨some 5, .mov, [.r 6], none, [6]⟩]) <|
 .cond (.r 5)
 (.seq (.ops [⟨some 7, .fa 1, [.r 1], none, [1, 4, 5]⟩,
 ⟨some 8, .ld none, [.r 7], none, [7]⟩,
 ⟨some 9, .call 50, [.r 8], none, [8]⟩,
 ⟨some 10, .bin .add, [.k (.string ⟨#[114, 117, 110, 58]⟩), .r 9], none, [9]⟩,
 ⟨some 2, .mov, [.r 10], none, [10]⟩]) <|
 .ret)
 (.seq (.ops [⟨some 12, .bin .eql, [.r 4, .k (.int .i64 2)], none, [4, 5]⟩,
 ⟨some 11, .mov, [.r 12], none, [12]⟩]) <|
 .cond (.r 11)
 (.seq (.ops [⟨some 13, .fa 1, [.r 1], none, [1, 11]⟩,
 ⟨some 14, .ld none, [.r 13], none, [13]⟩,
 ⟨some 15, .call 50, [.r 14], none, [14]⟩,
 ⟨some 16, .bin .add, [.k (.string ⟨#[115, 108, 101, 101, 112, 58]⟩), .r 15], none, [15]⟩,
 ⟨some 2, .mov, [.r 16], none, [16]⟩]) <|
 .ret)
 (.skip)))) <|
.seq (.draw [⟨some 17, .fa 2, [.r 1], none, [11]⟩,
 ⟨some 18, .ld none, [.r 17], none, [17]⟩,
 ⟨some 19, .call 50, [.r 18], none, [18]⟩,
 ⟨some 20, .bin .add, [.k (.string ⟨#[108, 111, 99, 107, 58]⟩), .r 19], none, [19]⟩,
 ⟨some 21, .bin .add, [.r 20, .k (.string ⟨#[58]⟩)], none, [20]⟩,
 ⟨some 22, .fa 1, [.r 1], none, [1]⟩,
 ⟨some 23, .ld none, [.r 22], none, [22]⟩,
 ⟨some 24, .call 50, [.r 23], none, [23]⟩,
 ⟨some 25, .bin .add, [.r 21, .r 24], none, [21, 24]⟩,
 ⟨some 2, .mov, [.r 25], none, [25]⟩] [(6, 2)]) <|
.ret⟩
theorem c29 : cFn Tryz.prog 29 = some m29.bare := by kernel_rfl

/-- 'swingbridge/swingbridgeref7.word' -/
def m31 : MFn := ⟨[.tmp 2], .seq (.ops [⟨some 2, .mov, [.k (.string ⟨#[]⟩)], none, [2]⟩]) <|
.seq (.seq (.ops [⟨some 3, .mov, [.r 0], none, [0]⟩]) <|
.block 0 (.seq (.ops [⟨some 5, .bin .eql, [.r 3, .k (.int .i64 1)], none, []⟩,
 ⟨some 4, .mov, [.r 5], none, [5]⟩]) <|
 .cond (.r 4)
 (.seq (.ops [⟨some 2, .mov, [.k (.string ⟨#[102, 97, 105, 114]⟩)], none, [3, 4]⟩]) <|
 .ret)
 (.seq (.ops [⟨some 7, .bin .eql, [.r 3, .k (.int .i64 2)], none, [3, 4]⟩,
 ⟨some 6, .mov, [.r 7], none, [7]⟩]) <|
 .cond (.r 6)
 (.seq (.ops [⟨some 2, .mov, [.k (.string ⟨#[97, 103, 101, 110, 116]⟩)], none, [6]⟩]) <|
 .ret)
 (.skip)))) <|
.seq (.ops [⟨some 2, .mov, [.k (.string ⟨#[116, 111, 107, 101, 110]⟩)], none, [6]⟩]) <|
.ret⟩
theorem c31 : cFn Tryz.prog 31 = some m31.bare := by kernel_rfl

/-- 'swingbridge/swingbridgeref7.numbers' -/
def m32_0 : MCode := .seq (.seq (.ops [⟨some 6, .mov, [.r 5], none, []⟩,
 ⟨some 7, .mov, [.r 1], none, []⟩,
 ⟨some 8, .len, [.r 7], none, [7]⟩,
 ⟨some 9, .bin .lss, [.r 6, .r 8], none, [6, 8]⟩]) <|
 .cond (.r 9)
 (.skip)
 (.exit 0)) <|
 .seq (.block 1 (.ops [⟨some 12, .mov, [.r 0], none, [0, 9]⟩,
 ⟨some 13, .bin .add, [.r 12, .k (.string ⟨#[32]⟩)], none, [12]⟩,
 ⟨some 14, .mov, [.r 1], none, []⟩,
 ⟨some 15, .mov, [.r 5], none, []⟩,
 ⟨some 16, .ia 1, [.r 14, .r 15], none, [14, 15]⟩,
 ⟨some 17, .ld none, [.r 16], none, [16]⟩,
 ⟨some 18, .call 33, [.r 17], none, [17]⟩,
 ⟨some 19, .bin .add, [.r 13, .r 18], none, [13, 18]⟩,
 ⟨some 0, .mov, [.r 19], none, [19]⟩])) <|
 .ops [⟨some 10, .mov, [.r 5], none, [5]⟩,
 ⟨some 11, .bin .add, [.r 10, .k (.int .i64 1)], none, [10]⟩,
 ⟨some 5, .mov, [.r 11], none, [11]⟩]
def m32 : MFn := ⟨[.tmp 4], .seq (.ops [⟨some 4, .mov, [.k (.string ⟨#[]⟩)], none, [4]⟩]) <|
.seq (.seq (.ops [⟨some 5, .mov, [.k (.int .i64 0)], none, []⟩]) <|
.block 0 (.loop m32_0)) <|
.seq (.ops [⟨some 20, .mov, [.r 0], none, [0, 1, 5, 9]⟩,
 ⟨some 21, .bin .add, [.r 20, .k (.string ⟨#[10]⟩)], none, [20]⟩,
 ⟨some 4, .mov, [.r 21], none, [21]⟩]) <|
.ret⟩
theorem c32 : cFn Tryz.prog 32 = some m32.bare := by kernel_rfl

/-- 'swingbridge/swingbridgeref7.sameInts' -/
def m34_0 : MCode := .seq (.seq (.ops [⟨some 11, .mov, [.r 5], none, []⟩,
 ⟨some 12, .mov, [.r 0], none, []⟩,
 ⟨some 13, .len, [.r 12], none, [12]⟩,
 ⟨some 14, .bin .lss, [.r 11, .r 13], none, [11, 13]⟩]) <|
 .cond (.r 14)
 (.skip)
 (.exit 0)) <|
 .seq (.block 1 (.seq (.draw [⟨some 17, .mov, [.r 0], none, [14]⟩,
 ⟨some 18, .mov, [.r 5], none, []⟩,
 ⟨some 19, .ia 1, [.r 17, .r 18], none, [17, 18]⟩,
 ⟨some 20, .ld none, [.r 19], none, [19]⟩,
 ⟨some 21, .mov, [.r 1], none, []⟩,
 ⟨some 22, .mov, [.r 5], none, []⟩,
 ⟨some 23, .ia 1, [.r 21, .r 22], none, [21, 22]⟩,
 ⟨some 24, .ld none, [.r 23], none, [23]⟩,
 ⟨some 25, .bin .neq, [.r 20, .r 24], none, [20, 24]⟩] []) <|
 .cond (.r 25)
 (.seq (.ops [⟨some 4, .mov, [.k (.bool false)], none, [0, 1, 5, 25]⟩]) <|
 .ret)
 (.skip))) <|
 .ops [⟨some 15, .mov, [.r 5], none, [5, 25]⟩,
 ⟨some 16, .bin .add, [.r 15, .k (.int .i64 1)], none, [15]⟩,
 ⟨some 5, .mov, [.r 16], none, [16]⟩]
def m34 : MFn := ⟨[.tmp 4], .seq (.ops [⟨some 4, .mov, [.k (.bool false)], none, [4]⟩]) <|
.seq (.seq (.ops [⟨some 6, .mov, [.r 0], none, []⟩,
 ⟨some 7, .len, [.r 6], none, [6]⟩,
 ⟨some 8, .mov, [.r 1], none, []⟩,
 ⟨some 9, .len, [.r 8], none, [8]⟩,
 ⟨some 10, .bin .neq, [.r 7, .r 9], none, [7, 9]⟩]) <|
.cond (.r 10)
 (.seq (.ops [⟨some 4, .mov, [.k (.bool false)], none, [0, 1, 10]⟩]) <|
 .ret)
 (.skip)) <|
.seq (.seq (.ops [⟨some 5, .mov, [.k (.int .i64 0)], none, [10]⟩]) <|
.block 0 (.loop m34_0)) <|
.seq (.ops [⟨some 4, .mov, [.k (.bool true)], none, [0, 1, 5, 14]⟩]) <|
.ret⟩
theorem c34 : cFn Tryz.prog 34 = some m34.bare := by kernel_rfl

/-- 'swingbridge/swingbridgeref7.SameTask' -/
def m35_0 : MCode := .seq (.seq (.ops [⟨some 48, .mov, [.r 5], none, []⟩,
 ⟨some 49, .fa 5, [.r 2], none, []⟩,
 ⟨some 50, .ld none, [.r 49], none, [49]⟩,
 ⟨some 51, .len, [.r 50], none, [50]⟩,
 ⟨some 52, .bin .lss, [.r 48, .r 51], none, [48, 51]⟩]) <|
 .cond (.r 52)
 (.skip)
 (.exit 0)) <|
 .seq (.block 1 (.seq (.draw [⟨some 55, .fa 5, [.r 2], none, [52]⟩,
 ⟨some 56, .ld none, [.r 55], none, [55]⟩,
 ⟨some 57, .mov, [.r 5], none, []⟩,
 ⟨some 58, .ia 3, [.r 56, .r 57], none, [56, 57]⟩,
 ⟨some 59, .ld (some 3), [.r 58], none, [58]⟩,
 ⟨some 60, .fa 5, [.r 3], none, []⟩,
 ⟨some 61, .ld none, [.r 60], none, [60]⟩,
 ⟨some 62, .mov, [.r 5], none, []⟩,
 ⟨some 63, .ia 3, [.r 61, .r 62], none, [61, 62]⟩,
 ⟨some 64, .ld (some 3), [.r 63], none, [63]⟩,
 ⟨some 65, .eqv true (.agg [.int, .int, .int]), [.r 59, .r 64], none, [59, 64]⟩] []) <|
 .cond (.r 65)
 (.seq (.ops [⟨some 4, .mov, [.k (.bool false)], none, [2, 3, 5, 65]⟩]) <|
 .ret)
 (.skip))) <|
 .ops [⟨some 53, .mov, [.r 5], none, [5, 65]⟩,
 ⟨some 54, .bin .add, [.r 53, .k (.int .i64 1)], none, [53]⟩,
 ⟨some 5, .mov, [.r 54], none, [54]⟩]
def m35 : MFn := ⟨[.tmp 4], .seq (.ops [⟨some 2, .box, [.r 0], none, [0]⟩,
 ⟨some 3, .box, [.r 1], none, [1]⟩,
 ⟨some 4, .mov, [.k (.bool false)], none, [4]⟩]) <|
.seq (.seq (.ops [⟨some 6, .fa 0, [.r 2], none, []⟩,
 ⟨some 7, .ld none, [.r 6], none, [6]⟩,
 ⟨some 8, .fa 0, [.r 3], none, []⟩,
 ⟨some 9, .ld none, [.r 8], none, [8]⟩,
 ⟨some 10, .bin .neq, [.r 7, .r 9], none, [7, 9]⟩,
 ⟨some 11, .mov, [.r 10], none, [10]⟩,
 ⟨some 12, .fa 1, [.r 2], (some (11, false)), []⟩,
 ⟨some 13, .ld none, [.r 12], (some (11, false)), [12]⟩,
 ⟨some 14, .fa 1, [.r 3], (some (11, false)), []⟩,
 ⟨some 15, .ld none, [.r 14], (some (11, false)), [14]⟩,
 ⟨some 16, .bin .neq, [.r 13, .r 15], (some (11, false)), [13, 15]⟩,
 ⟨some 17, .pick, [.r 11, .k (.bool true), .r 16], none, [11, 16]⟩,
 ⟨some 18, .mov, [.r 17], none, [17]⟩,
 ⟨some 19, .fa 2, [.r 2], (some (18, false)), []⟩,
 ⟨some 20, .ld none, [.r 19], (some (18, false)), [19]⟩,
 ⟨some 21, .fa 2, [.r 3], (some (18, false)), []⟩,
 ⟨some 22, .ld none, [.r 21], (some (18, false)), [21]⟩,
 ⟨some 23, .bin .neq, [.r 20, .r 22], (some (18, false)), [20, 22]⟩,
 ⟨some 24, .pick, [.r 18, .k (.bool true), .r 23], none, [18, 23]⟩,
 ⟨some 25, .mov, [.r 24], none, [24]⟩,
 ⟨some 26, .fa 3, [.r 2], (some (25, false)), []⟩,
 ⟨some 27, .ld none, [.r 26], (some (25, false)), [26]⟩,
 ⟨some 28, .fa 3, [.r 3], (some (25, false)), []⟩,
 ⟨some 29, .ld none, [.r 28], (some (25, false)), [28]⟩,
 ⟨some 30, .bin .neq, [.r 27, .r 29], (some (25, false)), [27, 29]⟩,
 ⟨some 31, .pick, [.r 25, .k (.bool true), .r 30], none, [25, 30]⟩,
 ⟨some 32, .mov, [.r 31], none, [31]⟩,
 ⟨some 33, .fa 4, [.r 2], (some (32, false)), []⟩,
 ⟨some 34, .ld none, [.r 33], (some (32, false)), [33]⟩,
 ⟨some 35, .fa 4, [.r 3], (some (32, false)), []⟩,
 ⟨some 36, .ld none, [.r 35], (some (32, false)), [35]⟩,
 ⟨some 37, .bin .neq, [.r 34, .r 36], (some (32, false)), [34, 36]⟩,
 ⟨some 38, .pick, [.r 32, .k (.bool true), .r 37], none, [32, 37]⟩,
 ⟨some 39, .mov, [.r 38], none, [38]⟩,
 ⟨some 40, .fa 5, [.r 2], (some (39, false)), []⟩,
 ⟨some 41, .ld none, [.r 40], (some (39, false)), [40]⟩,
 ⟨some 42, .len, [.r 41], (some (39, false)), [41]⟩,
 ⟨some 43, .fa 5, [.r 3], (some (39, false)), []⟩,
 ⟨some 44, .ld none, [.r 43], (some (39, false)), [43]⟩,
 ⟨some 45, .len, [.r 44], (some (39, false)), [44]⟩,
 ⟨some 46, .bin .neq, [.r 42, .r 45], (some (39, false)), [42, 45]⟩,
 ⟨some 47, .pick, [.r 39, .k (.bool true), .r 46], none, [39, 46]⟩]) <|
.cond (.r 47)
 (.seq (.ops [⟨some 4, .mov, [.k (.bool false)], none, [2, 3, 47]⟩]) <|
 .ret)
 (.skip)) <|
.seq (.seq (.ops [⟨some 5, .mov, [.k (.int .i64 0)], none, [47]⟩]) <|
.block 0 (.loop m35_0)) <|
.seq (.ops [⟨some 4, .mov, [.k (.bool true)], none, [2, 3, 5, 52]⟩]) <|
.ret⟩
theorem c35 : cFn Tryz.prog 35 = some m35.bare := by kernel_rfl

/-- 'swingbridge/swingbridgeref7.Check' -/
def m36_0 : MCode := .seq (.seq (.ops [⟨some 29, .mov, [.r 4], none, []⟩,
 ⟨some 30, .fa 3, [.r 1], none, []⟩,
 ⟨some 31, .ld none, [.r 30], none, [30]⟩,
 ⟨some 32, .len, [.r 31], none, [31]⟩,
 ⟨some 33, .bin .lss, [.r 29, .r 32], none, [29, 32]⟩]) <|
 .cond (.r 33)
 (.skip)
 (.exit 1)) <|
 .seq (.block 2 (.seq (.ops [⟨some 36, .ld (some 4), [.r 1], none, [33]⟩,
 ⟨some 37, .mov, [.r 4], none, []⟩,
 ⟨some 38, .call 52, [.r 36, .r 37], none, [36, 37]⟩,
 ⟨some 5, .mov, [.r 38], none, [38]⟩]) <|
 .seq (.ops [⟨some 39, .mov, [.r 5], none, []⟩,
 ⟨some 40, .bin .neq, [.r 39, .k (.int .i64 0)], none, [39]⟩]) <|
 .cond (.r 40)
 (.seq (.ops [⟨some 41, .mov, [.r 4], none, [1, 4, 40]⟩,
 ⟨some 42, .mov, [.r 5], none, [5]⟩,
 ⟨some 2, .mov, [.r 41], none, [41]⟩,
 ⟨some 3, .mov, [.r 42], none, [42]⟩]) <|
 .ret)
 (.skip))) <|
 .ops [⟨some 34, .mov, [.r 4], none, [4, 5, 40]⟩,
 ⟨some 35, .bin .add, [.r 34, .k (.int .i64 1)], none, [34]⟩,
 ⟨some 4, .mov, [.r 35], none, [35]⟩]
def m36 : MFn := ⟨[.tmp 2, .tmp 3], .seq (.ops [⟨some 1, .box, [.r 0], none, [0]⟩,
 ⟨some 2, .mov, [.k (.int .i64 0)], none, [2]⟩,
 ⟨some 3, .mov, [.k (.int .i64 0)], none, [3]⟩]) <|
.seq (.block 0 (.seq (.ops [⟨some 7, .fa 0, [.r 1], none, []⟩,
 ⟨some 8, .ld none, [.r 7], none, [7]⟩,
 ⟨some 9, .bin .lss, [.r 8, .k (.int .i64 1)], none, [8]⟩,
 ⟨some 10, .mov, [.r 9], none, [9]⟩,
 ⟨some 11, .fa 0, [.r 1], (some (10, false)), []⟩,
 ⟨some 12, .ld none, [.r 11], (some (10, false)), [11]⟩,
 ⟨some 13, .bin .gtr, [.r 12, .k (.int .i64 3)], (some (10, false)), [12]⟩,
 ⟨some 14, .pick, [.r 10, .k (.bool true), .r 13], none, [10, 13]⟩,
 ⟨some 6, .mov, [.r 14], none, [14]⟩]) <|
 .cond (.r 6)
 (.seq (.ops [⟨some 2, .mov, [.k (.int .i64 (-1))], none, [1, 6]⟩,
 ⟨some 3, .mov, [.k (.int .i64 10)], none, []⟩]) <|
 .ret)
 (.seq (.ops [⟨some 16, .ld (some 4), [.r 1], none, [6]⟩,
 ⟨some 17, .call 51, [.r 16], none, [16]⟩,
 ⟨some 18, .un .not, [.r 17], none, [17]⟩,
 ⟨some 15, .mov, [.r 18], none, [18]⟩]) <|
 .cond (.r 15)
 (.seq (.ops [⟨some 2, .mov, [.k (.int .i64 (-1))], none, [1, 15]⟩,
 ⟨some 3, .mov, [.k (.int .i64 16)], none, []⟩]) <|
 .ret)
 (.seq (.ops [⟨some 20, .fa 3, [.r 1], none, [15]⟩,
 ⟨some 21, .ld none, [.r 20], none, [20]⟩,
 ⟨some 22, .len, [.r 21], none, [21]⟩,
 ⟨some 23, .bin .gtr, [.r 22, .k (.int .i64 6)], none, [22]⟩,
 ⟨some 19, .mov, [.r 23], none, [23]⟩]) <|
 .cond (.r 19)
 (.seq (.ops [⟨some 2, .mov, [.k (.int .i64 (-1))], none, [1, 19]⟩,
 ⟨some 3, .mov, [.k (.int .i64 11)], none, []⟩]) <|
 .ret)
 (.seq (.ops [⟨some 25, .fa 3, [.r 1], none, [19]⟩,
 ⟨some 26, .ld none, [.r 25], none, [25]⟩,
 ⟨some 27, .len, [.r 26], none, [26]⟩,
 ⟨some 28, .bin .eql, [.r 27, .k (.int .i64 0)], none, [27]⟩,
 ⟨some 24, .mov, [.r 28], none, [28]⟩]) <|
 .cond (.r 24)
 (.seq (.ops [⟨some 2, .mov, [.k (.int .i64 (-1))], none, [1, 24]⟩,
 ⟨some 3, .mov, [.k (.int .i64 14)], none, []⟩]) <|
 .ret)
 (.skip)))))) <|
.seq (.seq (.ops [⟨some 4, .mov, [.k (.int .i64 0)], none, [24]⟩]) <|
.block 1 (.loop m36_0)) <|
.seq (.ops [⟨some 2, .mov, [.k (.int .i64 (-1))], none, [1, 4, 33]⟩,
 ⟨some 3, .mov, [.k (.int .i64 0)], none, []⟩]) <|
.ret⟩
theorem c36 : cFn Tryz.prog 36 = some m36.bare := by kernel_rfl

/-- 'swingbridge/text.numbers' -/
def m40_0 : MCode := .seq (.ops [⟨some 12, .bin .lss, [.r 11, .r 10], none, []⟩]) <|
 .seq (.cond (.r 12)
 (.skip)
 (.exit 0)) <|
 .seq (.block 1 (.seq (.ops [⟨some 13, .ia 1, [.r 9, .r 11], none, [12]⟩,
 ⟨some 14, .ld none, [.r 13], none, [13]⟩,
 ⟨some 6, .mov, [.r 14], none, [14]⟩]) <|
 .seq (.ops [⟨some 16, .mov, [.r 6], none, [6]⟩,
 ⟨some 17, .call 55, [.r 16], none, [16]⟩,
 ⟨some 15, .mov, [.r 17], none, [17]⟩,
 ⟨some 18, .extract 0, [.r 15], none, []⟩,
 ⟨some 19, .extract 1, [.r 15], none, [15]⟩,
 ⟨some 7, .mov, [.r 18], none, [18]⟩,
 ⟨some 8, .mov, [.r 19], none, [19]⟩]) <|
 .seq (.seq (.ops [⟨some 20, .mov, [.r 8], none, [8]⟩,
 ⟨some 21, .un .not, [.r 20], none, [20]⟩]) <|
 .cond (.r 21)
 (.seq (.ops [⟨some 2, .mov, [.k (.slice none 0 0)], none, [4, 7, 9, 10, 11, 21]⟩,
 ⟨some 3, .mov, [.k (.bool false)], none, []⟩]) <|
 .ret)
 (.skip)) <|
 .ops [⟨some 22, .mov, [.r 4], none, [4, 21]⟩,
 ⟨some 23, .mov, [.r 7], none, [7]⟩,
 ⟨some 24, .bslice 1 1 [.int .i64 0] [(0, 1)], [.r 23], none, [23]⟩,
 ⟨some 25, .app 1 8, [.r 22, .r 24], none, [22, 24]⟩,
 ⟨some 4, .mov, [.r 25], none, [25]⟩])) <|
 .ops [⟨some 26, .bin .add, [.r 11, .k (.int .i64 1)], none, [11]⟩,
 ⟨some 11, .mov, [.r 26], none, [26]⟩]
def m40 : MFn := ⟨[.tmp 2, .tmp 3], .seq (.ops [⟨some 2, .mov, [.k (.slice none 0 0)], none, [2]⟩,
 ⟨some 3, .mov, [.k (.bool false)], none, [3]⟩]) <|
.seq (.ops [⟨some 4, .mov, [.k (.slice none 0 0)], none, []⟩]) <|
.seq (.seq (.ops [⟨some 9, .mov, [.r 0], none, [0]⟩,
 ⟨some 10, .len, [.r 9], none, []⟩,
 ⟨some 11, .mov, [.k (.int .i64 0)], none, []⟩]) <|
.block 0 (.loop m40_0)) <|
.seq (.ops [⟨some 27, .mov, [.r 4], none, [4, 9, 10, 11, 12]⟩,
 ⟨some 2, .mov, [.r 27], none, [27]⟩,
 ⟨some 3, .mov, [.k (.bool true)], none, []⟩]) <|
.ret⟩
theorem c40 : cFn Tryz.prog 40 = some m40.bare := by kernel_rfl

/-- 'swingbridge/text.nested' -/
def m41_0 : MCode := .seq (.ops [⟨some 10, .bin .lss, [.r 9, .r 8], none, []⟩]) <|
 .seq (.cond (.r 10)
 (.skip)
 (.exit 0)) <|
 .seq (.block 1 (.seq (.ops [⟨some 11, .ia 1, [.r 7, .r 9], none, [10]⟩,
 ⟨some 12, .ld none, [.r 11], none, [11]⟩,
 ⟨some 4, .mov, [.r 12], none, [12]⟩]) <|
 .seq (.ops [⟨some 14, .mov, [.r 4], none, [4]⟩,
 ⟨some 15, .call 42, [.r 14], none, [14]⟩,
 ⟨some 13, .mov, [.r 15], none, [15]⟩,
 ⟨some 16, .extract 0, [.r 13], none, []⟩,
 ⟨some 17, .extract 1, [.r 13], none, [13]⟩,
 ⟨some 5, .new 0 [.int .i64 0, .int .i64 0, .int .i64 0], [], none, []⟩,
 ⟨none, .st 3, [.r 5, .r 16], none, [5, 16]⟩,
 ⟨some 6, .mov, [.r 17], none, [17]⟩]) <|
 .seq (.ops [⟨some 18, .mov, [.r 6], none, [6]⟩,
 ⟨some 19, .bin .eql, [.r 18, .k (.int .i64 18)], none, [18]⟩]) <|
 .cond (.r 19)
 (.seq (.ops [⟨some 2, .mov, [.k (.bool true)], none, [7, 8, 9, 19]⟩]) <|
 .ret)
 (.skip))) <|
 .ops [⟨some 20, .bin .add, [.r 9, .k (.int .i64 1)], none, [9, 19]⟩,
 ⟨some 9, .mov, [.r 20], none, [20]⟩]
def m41 : MFn := ⟨[.tmp 2], .seq (.ops [⟨some 2, .mov, [.k (.bool false)], none, [2]⟩]) <|
.seq (.seq (.ops [⟨some 7, .mov, [.r 0], none, [0]⟩,
 ⟨some 8, .len, [.r 7], none, []⟩,
 ⟨some 9, .mov, [.k (.int .i64 0)], none, []⟩]) <|
.block 0 (.loop m41_0)) <|
.seq (.ops [⟨some 2, .mov, [.k (.bool false)], none, [7, 8, 9, 10]⟩]) <|
.ret⟩
theorem c41 : cFn Tryz.prog 41 = some m41.bare := by kernel_rfl

/-- 'swingbridge/text.reads' -/
def m42 : MFn := ⟨[.cell 2 (some 3), .tmp 3], .seq (.ops [⟨some 2, .new 0 [.int .i64 0, .int .i64 0, .int .i64 0], [], none, []⟩,
 ⟨some 3, .mov, [.k (.int .i64 0)], none, [3]⟩]) <|
.seq (.ops [⟨some 7, .mov, [.r 0], none, []⟩,
 ⟨some 8, .call 38, [.r 7, .k (.string ⟨#[58]⟩)], none, [7]⟩,
 ⟨some 4, .mov, [.r 8], none, [8]⟩]) <|
.seq (.seq (.ops [⟨some 9, .mov, [.r 0], none, []⟩,
 ⟨some 10, .call 56, [.r 9, .k (.string ⟨#[108, 111, 99, 107, 58]⟩)], none, [9]⟩,
 ⟨some 11, .mov, [.r 10], none, [10]⟩,
 ⟨some 12, .mov, [.r 0], (some (11, true)), [0]⟩,
 ⟨some 13, .slstr true false, [.r 12, .k (.int .i64 5)], (some (11, true)), [12]⟩,
 ⟨some 14, .call 57, [.r 13, .k (.string ⟨#[108, 111, 99, 107, 58]⟩)], (some (11, true)), [13]⟩,
 ⟨some 15, .pick, [.r 11, .r 14, .k (.bool false)], none, [11, 14]⟩]) <|
.cond (.r 15)
 (.seq (.ops [⟨some 16, .build [.int .i64 0, .int .i64 0, .int .i64 0] [], [], none, [4, 15]⟩,
 ⟨none, .st 3, [.r 2, .r 16], none, [16]⟩,
 ⟨some 3, .mov, [.k (.int .i64 18)], none, []⟩]) <|
 .ret)
 (.skip)) <|
.seq (.ops [⟨some 18, .mov, [.r 4], none, [15]⟩,
 ⟨some 19, .sl 1 true false false, [.r 18, .k (.int .i64 1)], none, [18]⟩,
 ⟨some 20, .call 40, [.r 19], none, [19]⟩,
 ⟨some 17, .mov, [.r 20], none, [20]⟩,
 ⟨some 21, .extract 0, [.r 17], none, []⟩,
 ⟨some 22, .extract 1, [.r 17], none, [17]⟩,
 ⟨some 5, .mov, [.r 21], none, [21]⟩,
 ⟨some 6, .mov, [.r 22], none, [22]⟩]) <|
.seq (.block 0 (.seq (.ops [⟨some 24, .mov, [.r 6], none, [6]⟩,
 ⟨some 25, .un .not, [.r 24], none, [24]⟩,
 ⟨some 23, .mov, [.r 25], none, [25]⟩]) <|
 .cond (.r 23)
 (.skip)
 (.seq (.ops [⟨some 27, .mov, [.r 4], none, [23]⟩,
 ⟨some 28, .ia 1, [.r 27, .k (.int .i64 0)], none, [27]⟩,
 ⟨some 29, .ld none, [.r 28], none, [28]⟩,
 ⟨some 30, .bin .eql, [.r 29, .k (.string ⟨#[114, 117, 110]⟩)], none, [29]⟩,
 ⟨some 31, .mov, [.r 30], none, [30]⟩,
 ⟨some 32, .mov, [.r 5], (some (31, true)), []⟩,
 ⟨some 33, .len, [.r 32], (some (31, true)), [32]⟩,
 ⟨some 34, .bin .eql, [.r 33, .k (.int .i64 1)], (some (31, true)), [33]⟩,
 ⟨some 35, .pick, [.r 31, .r 34, .k (.bool false)], none, [31, 34]⟩,
 ⟨some 26, .mov, [.r 35], none, [35]⟩]) <|
 .cond (.r 26)
 (.seq (.ops [⟨some 36, .mov, [.r 5], none, [4, 5, 26]⟩,
 ⟨some 37, .ia 1, [.r 36, .k (.int .i64 0)], none, [36]⟩,
 ⟨some 38, .ld none, [.r 37], none, [37]⟩,
 ⟨some 39, .build [.int .i64 0, .int .i64 0, .int .i64 0] [(0, 1), (1, 1)], [.k (.int .i64 1), .r 38], none, [38]⟩,
 ⟨none, .st 3, [.r 2, .r 39], none, [39]⟩,
 ⟨some 3, .mov, [.k (.int .i64 0)], none, []⟩]) <|
 .ret)
 (.seq (.ops [⟨some 41, .mov, [.r 4], none, [26]⟩,
 ⟨some 42, .ia 1, [.r 41, .k (.int .i64 0)], none, [41]⟩,
 ⟨some 43, .ld none, [.r 42], none, [42]⟩,
 ⟨some 44, .bin .eql, [.r 43, .k (.string ⟨#[115, 108, 101, 101, 112]⟩)], none, [43]⟩,
 ⟨some 45, .mov, [.r 44], none, [44]⟩,
 ⟨some 46, .mov, [.r 5], (some (45, true)), []⟩,
 ⟨some 47, .len, [.r 46], (some (45, true)), [46]⟩,
 ⟨some 48, .bin .eql, [.r 47, .k (.int .i64 1)], (some (45, true)), [47]⟩,
 ⟨some 49, .pick, [.r 45, .r 48, .k (.bool false)], none, [45, 48]⟩,
 ⟨some 40, .mov, [.r 49], none, [49]⟩]) <|
 .cond (.r 40)
 (.seq (.ops [⟨some 50, .mov, [.r 5], none, [4, 5, 40]⟩,
 ⟨some 51, .ia 1, [.r 50, .k (.int .i64 0)], none, [50]⟩,
 ⟨some 52, .ld none, [.r 51], none, [51]⟩,
 ⟨some 53, .build [.int .i64 0, .int .i64 0, .int .i64 0] [(0, 1), (1, 1)], [.k (.int .i64 2), .r 52], none, [52]⟩,
 ⟨none, .st 3, [.r 2, .r 53], none, [53]⟩,
 ⟨some 3, .mov, [.k (.int .i64 0)], none, []⟩]) <|
 .ret)
 (.seq (.ops [⟨some 55, .mov, [.r 4], none, [4, 40]⟩,
 ⟨some 56, .ia 1, [.r 55, .k (.int .i64 0)], none, [55]⟩,
 ⟨some 57, .ld none, [.r 56], none, [56]⟩,
 ⟨some 58, .bin .eql, [.r 57, .k (.string ⟨#[108, 111, 99, 107]⟩)], none, [57]⟩,
 ⟨some 59, .mov, [.r 58], none, [58]⟩,
 ⟨some 60, .mov, [.r 5], (some (59, true)), []⟩,
 ⟨some 61, .len, [.r 60], (some (59, true)), [60]⟩,
 ⟨some 62, .bin .eql, [.r 61, .k (.int .i64 2)], (some (59, true)), [61]⟩,
 ⟨some 63, .pick, [.r 59, .r 62, .k (.bool false)], none, [59, 62]⟩,
 ⟨some 54, .mov, [.r 63], none, [63]⟩]) <|
 .cond (.r 54)
 (.seq (.draw [⟨some 64, .mov, [.r 5], none, [54]⟩,
 ⟨some 65, .ia 1, [.r 64, .k (.int .i64 0)], none, [64]⟩,
 ⟨some 66, .ld none, [.r 65], none, [65]⟩,
 ⟨some 67, .mov, [.r 5], none, [5]⟩,
 ⟨some 68, .ia 1, [.r 67, .k (.int .i64 1)], none, [67]⟩,
 ⟨some 69, .ld none, [.r 68], none, [68]⟩,
 ⟨some 70, .build [.int .i64 0, .int .i64 0, .int .i64 0] [(0, 1), (2, 1), (1, 1)], [.k (.int .i64 3), .r 66, .r 69], none, [66, 69]⟩,
 ⟨none, .st 3, [.r 2, .r 70], none, [70]⟩,
 ⟨some 3, .mov, [.k (.int .i64 0)], none, []⟩] []) <|
 .ret)
 (.skip)))))) <|
.seq (.ops [⟨some 71, .build [.int .i64 0, .int .i64 0, .int .i64 0] [], [], none, [4, 5, 23, 54]⟩,
 ⟨none, .st 3, [.r 2, .r 71], none, [71]⟩,
 ⟨some 3, .mov, [.k (.int .i64 10)], none, []⟩]) <|
.ret⟩
theorem c42 : cFn Tryz.prog 42 = some m42.bare := by kernel_rfl

/-- 'swingbridge/task.between' -/
def m43 : MFn := ⟨[.tmp 6], .seq (.ops [⟨some 6, .mov, [.k (.bool false)], none, [6]⟩]) <|
.seq (.ops [⟨some 7, .mov, [.r 0], none, []⟩,
 ⟨some 8, .mov, [.r 1], none, [1]⟩,
 ⟨some 9, .bin .geq, [.r 7, .r 8], none, [7, 8]⟩,
 ⟨some 10, .mov, [.r 9], none, [9]⟩,
 ⟨some 11, .mov, [.r 0], (some (10, true)), [0]⟩,
 ⟨some 12, .mov, [.r 2], (some (10, true)), [2]⟩,
 ⟨some 13, .bin .leq, [.r 11, .r 12], (some (10, true)), [11, 12]⟩,
 ⟨some 14, .pick, [.r 10, .r 13, .k (.bool false)], none, [10, 13]⟩,
 ⟨some 6, .mov, [.r 14], none, [14]⟩]) <|
.ret⟩
theorem c43 : cFn Tryz.prog 43 = some m43.bare := by kernel_rfl

/-- 'swingbridge/task.placed' -/
def m44 : MFn := ⟨[.tmp 2], .seq (.ops [⟨some 1, .box, [.r 0], none, [0]⟩,
 ⟨some 2, .mov, [.k (.bool false)], none, [2]⟩]) <|
.seq (.ops [⟨some 6, .fa 1, [.r 1], none, []⟩,
 ⟨some 7, .ld none, [.r 6], none, [6]⟩,
 ⟨some 8, .len, [.r 7], none, [7]⟩,
 ⟨some 9, .call 43, [.r 8, .k (.int .i64 1), .k (.int .i64 3)], none, [8]⟩,
 ⟨some 10, .mov, [.r 9], none, [9]⟩,
 ⟨some 11, .fa 2, [.r 1], (some (10, true)), []⟩,
 ⟨some 12, .ld none, [.r 11], (some (10, true)), [11]⟩,
 ⟨some 13, .len, [.r 12], (some (10, true)), [12]⟩,
 ⟨some 14, .bin .leq, [.r 13, .k (.int .i64 4)], (some (10, true)), [13]⟩,
 ⟨some 15, .pick, [.r 10, .r 14, .k (.bool false)], none, [10, 14]⟩,
 ⟨some 3, .mov, [.r 15], none, [15]⟩]) <|
.seq (.ops [⟨some 4, .mov, [.k (.func (.func 58) #[] #[])], none, []⟩]) <|
.seq (.ops [⟨some 16, .mkfunc 59, [.r 1], none, []⟩,
 ⟨some 5, .mov, [.r 16], none, [16]⟩]) <|
.seq (.ops [⟨some 17, .mov, [.r 3], none, [3]⟩,
 ⟨some 18, .mov, [.r 17], none, [17]⟩,
 ⟨some 19, .fa 1, [.r 1], (some (18, true)), []⟩,
 ⟨some 20, .ld none, [.r 19], (some (18, true)), [19]⟩,
 ⟨some 21, .mov, [.r 4], (some (18, true)), [4]⟩,
 ⟨some 22, .call 60, [.r 20, .r 21], (some (18, true)), [20, 21]⟩,
 ⟨some 23, .un .not, [.r 22], (some (18, true)), [22]⟩,
 ⟨some 24, .pick, [.r 18, .r 23, .k (.bool false)], none, [18, 23]⟩,
 ⟨some 25, .mov, [.r 24], none, [24]⟩,
 ⟨some 26, .fa 2, [.r 1], (some (25, true)), [1]⟩,
 ⟨some 27, .ld none, [.r 26], (some (25, true)), [26]⟩,
 ⟨some 28, .mov, [.r 5], (some (25, true)), [5]⟩,
 ⟨some 29, .call 60, [.r 27, .r 28], (some (25, true)), [27, 28]⟩,
 ⟨some 30, .un .not, [.r 29], (some (25, true)), [29]⟩,
 ⟨some 31, .pick, [.r 25, .r 30, .k (.bool false)], none, [25, 30]⟩,
 ⟨some 2, .mov, [.r 31], none, [31]⟩]) <|
.ret⟩
theorem c44 : cFn Tryz.prog 44 = some m44.bare := by kernel_rfl

/-- 'swingbridge/task.one' -/
def m45 : MFn := ⟨[.tmp 4], .seq (.ops [⟨some 2, .box, [.r 0], none, [0]⟩,
 ⟨some 4, .mov, [.k (.int .i64 0)], none, [4]⟩]) <|
.seq (.ops [⟨some 7, .fa 3, [.r 2], none, []⟩,
 ⟨some 8, .ld none, [.r 7], none, [7]⟩,
 ⟨some 9, .mov, [.r 1], none, []⟩,
 ⟨some 10, .ia 6, [.r 8, .r 9], none, [8, 9]⟩,
 ⟨some 11, .ld (some 6), [.r 10], none, [10]⟩,
 ⟨some 5, .new 0 [.string ⟨#[]⟩, .int .i64 0, .int .i64 0, .int .i64 0, .int .i64 0, .slice none 0 0], [], none, []⟩,
 ⟨none, .st 6, [.r 5, .r 11], none, [11]⟩]) <|
.seq (.ops [⟨some 12, .mkfunc 61, [.r 5], none, []⟩,
 ⟨some 6, .mov, [.r 12], none, [12]⟩]) <|
.seq (.block 0 (.seq (.ops [⟨some 14, .fa 0, [.r 5], none, []⟩,
 ⟨some 15, .ld none, [.r 14], none, [14]⟩,
 ⟨some 16, .call 62, [.r 15], none, [15]⟩,
 ⟨some 17, .un .not, [.r 16], none, [16]⟩,
 ⟨some 18, .mov, [.r 17], none, [17]⟩,
 ⟨some 19, .fa 1, [.r 5], (some (18, false)), []⟩,
 ⟨some 20, .ld none, [.r 19], (some (18, false)), [19]⟩,
 ⟨some 21, .call 43, [.r 20, .k (.int .i64 1), .k (.int .i64 3000)], (some (18, false)), [20]⟩,
 ⟨some 22, .un .not, [.r 21], (some (18, false)), [21]⟩,
 ⟨some 23, .pick, [.r 18, .k (.bool true), .r 22], none, [18, 22]⟩,
 ⟨some 24, .mov, [.r 23], none, [23]⟩,
 ⟨some 25, .fa 2, [.r 5], (some (24, false)), []⟩,
 ⟨some 26, .ld none, [.r 25], (some (24, false)), [25]⟩,
 ⟨some 27, .fa 1, [.r 5], (some (24, false)), []⟩,
 ⟨some 28, .ld none, [.r 27], (some (24, false)), [27]⟩,
 ⟨some 29, .call 43, [.r 26, .k (.int .i64 1), .r 28], (some (24, false)), [26, 28]⟩,
 ⟨some 30, .un .not, [.r 29], (some (24, false)), [29]⟩,
 ⟨some 31, .pick, [.r 24, .k (.bool true), .r 30], none, [24, 30]⟩,
 ⟨some 32, .mov, [.r 31], none, [31]⟩,
 ⟨some 33, .fa 3, [.r 5], (some (32, false)), []⟩,
 ⟨some 34, .ld none, [.r 33], (some (32, false)), [33]⟩,
 ⟨some 35, .call 43, [.r 34, .k (.int .i64 1), .k (.int .i64 1000)], (some (32, false)), [34]⟩,
 ⟨some 36, .un .not, [.r 35], (some (32, false)), [35]⟩,
 ⟨some 37, .pick, [.r 32, .k (.bool true), .r 36], none, [32, 36]⟩,
 ⟨some 13, .mov, [.r 37], none, [37]⟩]) <|
 .cond (.r 13)
 (.seq (.ops [⟨some 4, .mov, [.k (.int .i64 10)], none, [1, 2, 5, 6, 13]⟩]) <|
 .ret)
 (.seq (.ops [⟨some 39, .fa 4, [.r 5], none, [13]⟩,
 ⟨some 40, .ld none, [.r 39], none, [39]⟩,
 ⟨some 41, .fa 1, [.r 2], none, []⟩,
 ⟨some 42, .ld none, [.r 41], none, [41]⟩,
 ⟨some 43, .len, [.r 42], none, [42]⟩,
 ⟨some 44, .bin .sub, [.r 43, .k (.int .i64 1)], none, [43]⟩,
 ⟨some 45, .call 43, [.r 40, .k (.int .i64 0), .r 44], none, [40, 44]⟩,
 ⟨some 46, .un .not, [.r 45], none, [45]⟩,
 ⟨some 38, .mov, [.r 46], none, [46]⟩]) <|
 .cond (.r 38)
 (.seq (.ops [⟨some 4, .mov, [.k (.int .i64 16)], none, [1, 2, 5, 6, 38]⟩]) <|
 .ret)
 (.seq (.ops [⟨some 48, .fa 3, [.r 2], none, [38]⟩,
 ⟨some 49, .ld none, [.r 48], none, [48]⟩,
 ⟨some 50, .mov, [.r 1], none, [1]⟩,
 ⟨some 51, .sl 6 false true false, [.r 49, .r 50], none, [49, 50]⟩,
 ⟨some 52, .mov, [.r 6], none, [6]⟩,
 ⟨some 53, .call 63, [.r 51, .r 52], none, [51, 52]⟩,
 ⟨some 47, .mov, [.r 53], none, [53]⟩]) <|
 .cond (.r 47)
 (.seq (.ops [⟨some 4, .mov, [.k (.int .i64 17)], none, [2, 5, 47]⟩]) <|
 .ret)
 (.seq (.ops [⟨some 55, .ld (some 4), [.r 2], none, [2, 47]⟩,
 ⟨some 56, .fa 5, [.r 5], none, [5]⟩,
 ⟨some 57, .ld none, [.r 56], none, [56]⟩,
 ⟨some 58, .call 64, [.r 55, .r 57], none, [55, 57]⟩,
 ⟨some 59, .un .not, [.r 58], none, [58]⟩,
 ⟨some 54, .mov, [.r 59], none, [59]⟩]) <|
 .cond (.r 54)
 (.seq (.ops [⟨some 4, .mov, [.k (.int .i64 15)], none, [54]⟩]) <|
 .ret)
 (.skip)))))) <|
.seq (.ops [⟨some 4, .mov, [.k (.int .i64 0)], none, [54]⟩]) <|
.ret⟩
theorem c45 : cFn Tryz.prog 45 = some m45.bare := by kernel_rfl

/-- 'swingbridge/swingbridgeref7.nested' -/
def m47_0 : MCode := .seq (.seq (.ops [⟨some 7, .mov, [.r 3], none, []⟩,
 ⟨some 8, .bin .add, [.r 7, .k (.int .i64 5)], none, [7]⟩,
 ⟨some 9, .mov, [.r 0], none, []⟩,
 ⟨some 10, .lens, [.r 9], none, [9]⟩,
 ⟨some 11, .bin .leq, [.r 8, .r 10], none, [8, 10]⟩]) <|
 .cond (.r 11)
 (.skip)
 (.exit 0)) <|
 .seq (.block 1 (.seq (.ops [⟨some 14, .mov, [.r 0], none, [11]⟩,
 ⟨some 15, .mov, [.r 3], none, []⟩,
 ⟨some 16, .mov, [.r 3], none, []⟩,
 ⟨some 17, .bin .add, [.r 16, .k (.int .i64 5)], none, [16]⟩,
 ⟨some 18, .slstr true true, [.r 14, .r 15, .r 17], none, [14, 15, 17]⟩,
 ⟨some 19, .bin .eql, [.r 18, .k (.string ⟨#[108, 111, 99, 107, 58]⟩)], none, [18]⟩]) <|
 .cond (.r 19)
 (.seq (.ops [⟨some 2, .mov, [.k (.bool true)], none, [0, 3, 19]⟩]) <|
 .ret)
 (.skip))) <|
 .ops [⟨some 12, .mov, [.r 3], none, [3, 19]⟩,
 ⟨some 13, .bin .add, [.r 12, .k (.int .i64 1)], none, [12]⟩,
 ⟨some 3, .mov, [.r 13], none, [13]⟩]
def m47 : MFn := ⟨[.tmp 2], .seq (.ops [⟨some 2, .mov, [.k (.bool false)], none, [2]⟩]) <|
.seq (.seq (.ops [⟨some 4, .mov, [.r 0], none, []⟩,
 ⟨some 5, .call 65, [.r 4, .k (.string ⟨#[108, 111, 99, 107, 58]⟩)], none, [4]⟩,
 ⟨some 6, .un .not, [.r 5], none, [5]⟩]) <|
.cond (.r 6)
 (.seq (.ops [⟨some 2, .mov, [.k (.bool false)], none, [0, 6]⟩]) <|
 .ret)
 (.skip)) <|
.seq (.seq (.ops [⟨some 3, .mov, [.k (.int .i64 5)], none, [6]⟩]) <|
.block 0 (.loop m47_0)) <|
.seq (.ops [⟨some 2, .mov, [.k (.bool false)], none, [0, 3, 11]⟩]) <|
.ret⟩
theorem c47 : cFn Tryz.prog 47 = some m47.bare := by kernel_rfl

/-- 'swingbridge/swingbridgeref7.partOf' -/
def m48_0 : MCode := .seq (.seq (.ops [⟨some 50, .mov, [.r 7], none, []⟩,
 ⟨some 51, .mov, [.r 6], none, []⟩,
 ⟨some 52, .lens, [.r 51], none, [51]⟩,
 ⟨some 53, .bin .lss, [.r 50, .r 52], none, [50, 52]⟩,
 ⟨some 54, .mov, [.r 53], none, [53]⟩,
 ⟨some 55, .mov, [.r 6], (some (54, true)), []⟩,
 ⟨some 56, .mov, [.r 7], (some (54, true)), []⟩,
 ⟨some 57, .idxs, [.r 55, .r 56], (some (54, true)), [55, 56]⟩,
 ⟨some 58, .bin .neq, [.r 57, .k (.int .u8 58)], (some (54, true)), [57]⟩,
 ⟨some 59, .pick, [.r 54, .r 58, .k (.bool false)], none, [54, 58]⟩]) <|
 .cond (.r 59)
 (.skip)
 (.exit 3)) <|
 .block 4 (.ops [⟨some 60, .mov, [.r 7], none, [7, 59]⟩,
 ⟨some 61, .bin .add, [.r 60, .k (.int .i64 1)], none, [60]⟩,
 ⟨some 7, .mov, [.r 61], none, [61]⟩])
def m48_1 : MCode := .seq (.seq (.ops [⟨some 15, .mov, [.r 4], none, []⟩,
 ⟨some 16, .mov, [.r 0], none, []⟩,
 ⟨some 17, .lens, [.r 16], none, [16]⟩,
 ⟨some 18, .bin .lss, [.r 15, .r 17], none, [15, 17]⟩,
 ⟨some 19, .mov, [.r 18], none, [18]⟩,
 ⟨some 20, .mov, [.r 0], (some (19, true)), []⟩,
 ⟨some 21, .mov, [.r 4], (some (19, true)), []⟩,
 ⟨some 22, .idxs, [.r 20, .r 21], (some (19, true)), [20, 21]⟩,
 ⟨some 23, .bin .neq, [.r 22, .k (.int .u8 58)], (some (19, true)), [22]⟩,
 ⟨some 24, .pick, [.r 19, .r 23, .k (.bool false)], none, [19, 23]⟩]) <|
 .cond (.r 24)
 (.skip)
 (.exit 0)) <|
 .block 1 (.ops [⟨some 25, .mov, [.r 4], none, [4, 24]⟩,
 ⟨some 26, .bin .add, [.r 25, .k (.int .i64 1)], none, [25]⟩,
 ⟨some 4, .mov, [.r 26], none, [26]⟩])
def m48 : MFn := ⟨[.cell 2 (some 3), .tmp 3], .seq (.ops [⟨some 2, .new 0 [.int .i64 0, .int .i64 0, .int .i64 0], [], none, []⟩,
 ⟨some 3, .mov, [.k (.int .i64 0)], none, [3]⟩]) <|
.seq (.seq (.ops [⟨some 12, .mov, [.r 0], none, []⟩,
 ⟨some 13, .call 47, [.r 12], none, [12]⟩]) <|
.cond (.r 13)
 (.seq (.ops [⟨some 14, .build [.int .i64 0, .int .i64 0, .int .i64 0] [], [], none, [0, 13]⟩,
 ⟨none, .st 3, [.r 2, .r 14], none, [14]⟩,
 ⟨some 3, .mov, [.k (.int .i64 18)], none, []⟩]) <|
 .ret)
 (.skip)) <|
.seq (.ops [⟨some 4, .mov, [.k (.int .i64 0)], none, [13]⟩]) <|
.seq (.block 0 (.loop m48_1)) <|
.seq (.seq (.ops [⟨some 27, .mov, [.r 4], none, [24]⟩,
 ⟨some 28, .mov, [.r 0], none, []⟩,
 ⟨some 29, .lens, [.r 28], none, [28]⟩,
 ⟨some 30, .bin .eql, [.r 27, .r 29], none, [27, 29]⟩]) <|
.cond (.r 30)
 (.seq (.ops [⟨some 31, .build [.int .i64 0, .int .i64 0, .int .i64 0] [], [], none, [0, 4, 30]⟩,
 ⟨none, .st 3, [.r 2, .r 31], none, [31]⟩,
 ⟨some 3, .mov, [.k (.int .i64 10)], none, []⟩]) <|
 .ret)
 (.skip)) <|
.seq (.draw [⟨some 32, .build [.int .i64 0, .int .i64 0, .int .i64 0] [], [], none, [30]⟩,
 ⟨some 33, .mov, [.r 0], none, []⟩,
 ⟨some 34, .mov, [.r 4], none, []⟩,
 ⟨some 35, .bin .add, [.r 34, .k (.int .i64 1)], none, [34]⟩,
 ⟨some 36, .slstr true false, [.r 33, .r 35], none, [33, 35]⟩,
 ⟨some 5, .new 0 [.int .i64 0, .int .i64 0, .int .i64 0], [], none, []⟩,
 ⟨none, .st 3, [.r 5, .r 32], none, [32]⟩,
 ⟨some 6, .mov, [.r 36], none, [36]⟩] []) <|
.seq (.seq (.ops [⟨some 37, .mov, [.r 0], none, [0]⟩,
 ⟨some 38, .mov, [.r 4], none, [4]⟩,
 ⟨some 39, .slstr false true, [.r 37, .r 38], none, [37, 38]⟩]) <|
.block 2 (.seq (.ops [⟨some 42, .bin .eql, [.r 39, .k (.string ⟨#[114, 117, 110]⟩)], none, []⟩,
 ⟨some 41, .mov, [.r 42], none, [42]⟩]) <|
 .cond (.r 41)
 (.ops [⟨some 43, .fa 0, [.r 5], none, [39, 41]⟩,
 ⟨none, .st 1, [.r 43, .k (.int .i64 1)], none, [43]⟩])
 (.seq (.ops [⟨some 45, .bin .eql, [.r 39, .k (.string ⟨#[115, 108, 101, 101, 112]⟩)], none, [41]⟩,
 ⟨some 44, .mov, [.r 45], none, [45]⟩]) <|
 .cond (.r 44)
 (.ops [⟨some 46, .fa 0, [.r 5], none, [39, 44]⟩,
 ⟨none, .st 1, [.r 46, .k (.int .i64 2)], none, [46]⟩])
 (.seq (.ops [⟨some 48, .bin .eql, [.r 39, .k (.string ⟨#[108, 111, 99, 107]⟩)], none, [39, 44]⟩,
 ⟨some 47, .mov, [.r 48], none, [48]⟩]) <|
 .cond (.r 47)
 (.seq (.ops [⟨some 49, .fa 0, [.r 5], none, [47]⟩,
 ⟨none, .st 1, [.r 49, .k (.int .i64 3)], none, [49]⟩]) <|
 .seq (.ops [⟨some 7, .mov, [.k (.int .i64 0)], none, []⟩]) <|
 .seq (.block 3 (.loop m48_0)) <|
 .seq (.ops [⟨some 63, .mov, [.r 6], none, [59]⟩,
 ⟨some 64, .mov, [.r 7], none, []⟩,
 ⟨some 65, .slstr false true, [.r 63, .r 64], none, [63, 64]⟩,
 ⟨some 66, .call 46, [.r 65], none, [65]⟩,
 ⟨some 62, .mov, [.r 66], none, [66]⟩,
 ⟨some 67, .extract 0, [.r 62], none, []⟩,
 ⟨some 68, .extract 1, [.r 62], none, [62]⟩,
 ⟨some 8, .mov, [.r 67], none, [67]⟩,
 ⟨some 9, .mov, [.r 68], none, [68]⟩]) <|
 .seq (.seq (.ops [⟨some 69, .mov, [.r 9], none, [9]⟩,
 ⟨some 70, .un .not, [.r 69], none, [69]⟩,
 ⟨some 71, .mov, [.r 70], none, [70]⟩,
 ⟨some 72, .mov, [.r 7], (some (71, false)), []⟩,
 ⟨some 73, .mov, [.r 6], (some (71, false)), []⟩,
 ⟨some 74, .lens, [.r 73], (some (71, false)), [73]⟩,
 ⟨some 75, .bin .eql, [.r 72, .r 74], (some (71, false)), [72, 74]⟩,
 ⟨some 76, .pick, [.r 71, .k (.bool true), .r 75], none, [71, 75]⟩]) <|
 .cond (.r 76)
 (.seq (.ops [⟨some 77, .build [.int .i64 0, .int .i64 0, .int .i64 0] [], [], none, [5, 6, 7, 8, 76]⟩,
 ⟨none, .st 3, [.r 2, .r 77], none, [77]⟩,
 ⟨some 3, .mov, [.k (.int .i64 10)], none, []⟩]) <|
 .ret)
 (.skip)) <|
 .draw [⟨some 78, .mov, [.r 8], none, [8, 76]⟩,
 ⟨some 79, .mov, [.r 6], none, [6]⟩,
 ⟨some 80, .mov, [.r 7], none, [7]⟩,
 ⟨some 81, .bin .add, [.r 80, .k (.int .i64 1)], none, [80]⟩,
 ⟨some 82, .slstr true false, [.r 79, .r 81], none, [79, 81]⟩,
 ⟨some 83, .fa 2, [.r 5], none, []⟩,
 ⟨none, .st 1, [.r 83, .r 78], none, [78, 83]⟩,
 ⟨some 6, .mov, [.r 82], none, [82]⟩] [])
 (.seq (.ops [⟨some 40, .build [.int .i64 0, .int .i64 0, .int .i64 0] [], [], none, [5, 6, 47]⟩,
 ⟨none, .st 3, [.r 2, .r 40], none, [40]⟩,
 ⟨some 3, .mov, [.k (.int .i64 10)], none, []⟩]) <|
 .ret))))) <|
.seq (.ops [⟨some 85, .mov, [.r 6], none, [6]⟩,
 ⟨some 86, .call 46, [.r 85], none, [85]⟩,
 ⟨some 84, .mov, [.r 86], none, [86]⟩,
 ⟨some 87, .extract 0, [.r 84], none, []⟩,
 ⟨some 88, .extract 1, [.r 84], none, [84]⟩,
 ⟨some 10, .mov, [.r 87], none, [87]⟩,
 ⟨some 11, .mov, [.r 88], none, [88]⟩]) <|
.seq (.seq (.ops [⟨some 89, .mov, [.r 11], none, [11]⟩,
 ⟨some 90, .un .not, [.r 89], none, [89]⟩]) <|
.cond (.r 90)
 (.seq (.ops [⟨some 91, .build [.int .i64 0, .int .i64 0, .int .i64 0] [], [], none, [5, 10, 90]⟩,
 ⟨none, .st 3, [.r 2, .r 91], none, [91]⟩,
 ⟨some 3, .mov, [.k (.int .i64 10)], none, []⟩]) <|
 .ret)
 (.skip)) <|
.seq (.ops [⟨some 92, .mov, [.r 10], none, [10, 90]⟩,
 ⟨some 93, .fa 1, [.r 5], none, []⟩,
 ⟨none, .st 1, [.r 93, .r 92], none, [92, 93]⟩]) <|
.seq (.ops [⟨some 94, .ld (some 3), [.r 5], none, [5]⟩,
 ⟨none, .st 3, [.r 2, .r 94], none, [94]⟩,
 ⟨some 3, .mov, [.k (.int .i64 0)], none, []⟩]) <|
.ret⟩
theorem c48 : cFn Tryz.prog 48 = some m48.bare := by kernel_rfl

/-- 'swingbridge/swingbridgeref7.places' -/
def m51_0 : MCode := .seq (.seq (.ops [⟨some 42, .mov, [.r 4], none, []⟩,
 ⟨some 43, .fa 2, [.r 1], none, []⟩,
 ⟨some 44, .ld none, [.r 43], none, [43]⟩,
 ⟨some 45, .len, [.r 44], none, [44]⟩,
 ⟨some 46, .bin .lss, [.r 42, .r 45], none, [42, 45]⟩]) <|
 .cond (.r 46)
 (.skip)
 (.exit 2)) <|
 .seq (.block 3 (.seq (.draw [⟨some 49, .fa 2, [.r 1], none, [46]⟩,
 ⟨some 50, .ld none, [.r 49], none, [49]⟩,
 ⟨some 51, .mov, [.r 4], none, []⟩,
 ⟨some 52, .ia 1, [.r 50, .r 51], none, [50, 51]⟩,
 ⟨some 53, .ld none, [.r 52], none, [52]⟩,
 ⟨some 54, .bin .lss, [.r 53, .k (.int .i64 0)], none, [53]⟩,
 ⟨some 55, .mov, [.r 54], none, [54]⟩,
 ⟨some 56, .fa 2, [.r 1], (some (55, false)), []⟩,
 ⟨some 57, .ld none, [.r 56], (some (55, false)), [56]⟩,
 ⟨some 58, .mov, [.r 4], (some (55, false)), []⟩,
 ⟨some 59, .ia 1, [.r 57, .r 58], (some (55, false)), [57, 58]⟩,
 ⟨some 60, .ld none, [.r 59], (some (55, false)), [59]⟩,
 ⟨some 61, .fa 1, [.r 1], (some (55, false)), []⟩,
 ⟨some 62, .ld none, [.r 61], (some (55, false)), [61]⟩,
 ⟨some 63, .len, [.r 62], (some (55, false)), [62]⟩,
 ⟨some 64, .bin .geq, [.r 60, .r 63], (some (55, false)), [60, 63]⟩,
 ⟨some 65, .pick, [.r 55, .k (.bool true), .r 64], none, [55, 64]⟩] []) <|
 .cond (.r 65)
 (.seq (.ops [⟨some 2, .mov, [.k (.bool false)], none, [1, 4, 65]⟩]) <|
 .ret)
 (.skip))) <|
 .ops [⟨some 47, .mov, [.r 4], none, [4, 65]⟩,
 ⟨some 48, .bin .add, [.r 47, .k (.int .i64 1)], none, [47]⟩,
 ⟨some 4, .mov, [.r 48], none, [48]⟩]
def m51_1 : MCode := .seq (.seq (.ops [⟨some 21, .mov, [.r 3], none, []⟩,
 ⟨some 22, .fa 1, [.r 1], none, []⟩,
 ⟨some 23, .ld none, [.r 22], none, [22]⟩,
 ⟨some 24, .len, [.r 23], none, [23]⟩,
 ⟨some 25, .bin .lss, [.r 21, .r 24], none, [21, 24]⟩]) <|
 .cond (.r 25)
 (.skip)
 (.exit 0)) <|
 .seq (.block 1 (.seq (.ops [⟨some 28, .fa 1, [.r 1], none, [25]⟩,
 ⟨some 29, .ld none, [.r 28], none, [28]⟩,
 ⟨some 30, .mov, [.r 3], none, []⟩,
 ⟨some 31, .ia 1, [.r 29, .r 30], none, [29, 30]⟩,
 ⟨some 32, .ld none, [.r 31], none, [31]⟩,
 ⟨some 33, .bin .lss, [.r 32, .k (.int .i64 1)], none, [32]⟩,
 ⟨some 34, .mov, [.r 33], none, [33]⟩,
 ⟨some 35, .fa 1, [.r 1], (some (34, false)), []⟩,
 ⟨some 36, .ld none, [.r 35], (some (34, false)), [35]⟩,
 ⟨some 37, .mov, [.r 3], (some (34, false)), []⟩,
 ⟨some 38, .ia 1, [.r 36, .r 37], (some (34, false)), [36, 37]⟩,
 ⟨some 39, .ld none, [.r 38], (some (34, false)), [38]⟩,
 ⟨some 40, .bin .gtr, [.r 39, .k (.int .i64 3)], (some (34, false)), [39]⟩,
 ⟨some 41, .pick, [.r 34, .k (.bool true), .r 40], none, [34, 40]⟩]) <|
 .cond (.r 41)
 (.seq (.ops [⟨some 2, .mov, [.k (.bool false)], none, [1, 3, 41]⟩]) <|
 .ret)
 (.skip))) <|
 .ops [⟨some 26, .mov, [.r 3], none, [3, 41]⟩,
 ⟨some 27, .bin .add, [.r 26, .k (.int .i64 1)], none, [26]⟩,
 ⟨some 3, .mov, [.r 27], none, [27]⟩]
def m51 : MFn := ⟨[.tmp 2], .seq (.ops [⟨some 1, .box, [.r 0], none, [0]⟩,
 ⟨some 2, .mov, [.k (.bool false)], none, [2]⟩]) <|
.seq (.seq (.ops [⟨some 5, .fa 1, [.r 1], none, []⟩,
 ⟨some 6, .ld none, [.r 5], none, [5]⟩,
 ⟨some 7, .len, [.r 6], none, [6]⟩,
 ⟨some 8, .bin .lss, [.r 7, .k (.int .i64 1)], none, [7]⟩,
 ⟨some 9, .mov, [.r 8], none, [8]⟩,
 ⟨some 10, .fa 1, [.r 1], (some (9, false)), []⟩,
 ⟨some 11, .ld none, [.r 10], (some (9, false)), [10]⟩,
 ⟨some 12, .len, [.r 11], (some (9, false)), [11]⟩,
 ⟨some 13, .bin .gtr, [.r 12, .k (.int .i64 3)], (some (9, false)), [12]⟩,
 ⟨some 14, .pick, [.r 9, .k (.bool true), .r 13], none, [9, 13]⟩,
 ⟨some 15, .mov, [.r 14], none, [14]⟩,
 ⟨some 16, .fa 2, [.r 1], (some (15, false)), []⟩,
 ⟨some 17, .ld none, [.r 16], (some (15, false)), [16]⟩,
 ⟨some 18, .len, [.r 17], (some (15, false)), [17]⟩,
 ⟨some 19, .bin .gtr, [.r 18, .k (.int .i64 4)], (some (15, false)), [18]⟩,
 ⟨some 20, .pick, [.r 15, .k (.bool true), .r 19], none, [15, 19]⟩]) <|
.cond (.r 20)
 (.seq (.ops [⟨some 2, .mov, [.k (.bool false)], none, [1, 20]⟩]) <|
 .ret)
 (.skip)) <|
.seq (.seq (.ops [⟨some 3, .mov, [.k (.int .i64 0)], none, [20]⟩]) <|
.block 0 (.loop m51_1)) <|
.seq (.seq (.ops [⟨some 4, .mov, [.k (.int .i64 0)], none, [3, 25]⟩]) <|
.block 2 (.loop m51_0)) <|
.seq (.ops [⟨some 2, .mov, [.k (.bool true)], none, [1, 4, 46]⟩]) <|
.ret⟩
theorem c51 : cFn Tryz.prog 51 = some m51.bare := by kernel_rfl

/-- 'swingbridge/swingbridgeref7.task' -/
def m52_0 : MCode := .seq (.seq (.ops [⟨some 95, .mov, [.r 7], none, []⟩,
 ⟨some 96, .fa 5, [.r 5], none, []⟩,
 ⟨some 97, .ld none, [.r 96], none, [96]⟩,
 ⟨some 98, .len, [.r 97], none, [97]⟩,
 ⟨some 99, .bin .lss, [.r 95, .r 98], none, [95, 98]⟩]) <|
 .cond (.r 99)
 (.skip)
 (.exit 2)) <|
 .seq (.block 3 (.seq (.draw [⟨some 102, .ld (some 4), [.r 2], none, [99]⟩,
 ⟨some 103, .fa 5, [.r 5], none, []⟩,
 ⟨some 104, .ld none, [.r 103], none, [103]⟩,
 ⟨some 105, .mov, [.r 7], none, []⟩,
 ⟨some 106, .ia 3, [.r 104, .r 105], none, [104, 105]⟩,
 ⟨some 107, .ld (some 3), [.r 106], none, [106]⟩,
 ⟨some 108, .call 69, [.r 102, .r 107], none, [102, 107]⟩,
 ⟨some 109, .un .not, [.r 108], none, [108]⟩] []) <|
 .cond (.r 109)
 (.seq (.ops [⟨some 4, .mov, [.k (.int .i64 15)], none, [2, 5, 7, 109]⟩]) <|
 .ret)
 (.skip))) <|
 .ops [⟨some 100, .mov, [.r 7], none, [7, 109]⟩,
 ⟨some 101, .bin .add, [.r 100, .k (.int .i64 1)], none, [100]⟩,
 ⟨some 7, .mov, [.r 101], none, [101]⟩]
def m52_1 : MCode := .seq (.seq (.ops [⟨some 60, .mov, [.r 6], none, []⟩,
 ⟨some 61, .mov, [.r 1], none, []⟩,
 ⟨some 62, .bin .lss, [.r 60, .r 61], none, [60, 61]⟩]) <|
 .cond (.r 62)
 (.skip)
 (.exit 0)) <|
 .seq (.block 1 (.seq (.draw [⟨some 65, .fa 3, [.r 2], none, [62]⟩,
 ⟨some 66, .ld none, [.r 65], none, [65]⟩,
 ⟨some 67, .mov, [.r 6], none, []⟩,
 ⟨some 68, .ia 6, [.r 66, .r 67], none, [66, 67]⟩,
 ⟨some 69, .fa 0, [.r 68], none, [68]⟩,
 ⟨some 70, .ld none, [.r 69], none, [69]⟩,
 ⟨some 71, .fa 0, [.r 5], none, []⟩,
 ⟨some 72, .ld none, [.r 71], none, [71]⟩,
 ⟨some 73, .bin .eql, [.r 70, .r 72], none, [70, 72]⟩,
 ⟨some 74, .mov, [.r 73], none, [73]⟩,
 ⟨some 75, .fa 3, [.r 2], (some (74, false)), []⟩,
 ⟨some 76, .ld none, [.r 75], (some (74, false)), [75]⟩,
 ⟨some 77, .mov, [.r 6], (some (74, false)), []⟩,
 ⟨some 78, .ia 6, [.r 76, .r 77], (some (74, false)), [76, 77]⟩,
 ⟨some 79, .fa 3, [.r 78], (some (74, false)), [78]⟩,
 ⟨some 80, .ld none, [.r 79], (some (74, false)), [79]⟩,
 ⟨some 81, .fa 3, [.r 5], (some (74, false)), []⟩,
 ⟨some 82, .ld none, [.r 81], (some (74, false)), [81]⟩,
 ⟨some 83, .bin .eql, [.r 80, .r 82], (some (74, false)), [80, 82]⟩,
 ⟨some 84, .pick, [.r 74, .k (.bool true), .r 83], none, [74, 83]⟩] []) <|
 .cond (.r 84)
 (.seq (.ops [⟨some 4, .mov, [.k (.int .i64 17)], none, [1, 2, 5, 6, 84]⟩]) <|
 .ret)
 (.skip))) <|
 .ops [⟨some 63, .mov, [.r 6], none, [6, 84]⟩,
 ⟨some 64, .bin .add, [.r 63, .k (.int .i64 1)], none, [63]⟩,
 ⟨some 6, .mov, [.r 64], none, [64]⟩]
def m52 : MFn := ⟨[.tmp 4], .seq (.ops [⟨some 2, .box, [.r 0], none, [0]⟩,
 ⟨some 4, .mov, [.k (.int .i64 0)], none, [4]⟩]) <|
.seq (.ops [⟨some 8, .fa 3, [.r 2], none, []⟩,
 ⟨some 9, .ld none, [.r 8], none, [8]⟩,
 ⟨some 10, .mov, [.r 1], none, []⟩,
 ⟨some 11, .ia 6, [.r 9, .r 10], none, [9, 10]⟩,
 ⟨some 12, .ld (some 6), [.r 11], none, [11]⟩,
 ⟨some 5, .new 0 [.string ⟨#[]⟩, .int .i64 0, .int .i64 0, .int .i64 0, .int .i64 0, .slice none 0 0], [], none, []⟩,
 ⟨none, .st 6, [.r 5, .r 12], none, [12]⟩]) <|
.seq (.seq (.ops [⟨some 13, .fa 0, [.r 5], none, []⟩,
 ⟨some 14, .ld none, [.r 13], none, [13]⟩,
 ⟨some 15, .call 68, [.r 14], none, [14]⟩,
 ⟨some 16, .un .not, [.r 15], none, [15]⟩,
 ⟨some 17, .mov, [.r 16], none, [16]⟩,
 ⟨some 18, .fa 1, [.r 5], (some (17, false)), []⟩,
 ⟨some 19, .ld none, [.r 18], (some (17, false)), [18]⟩,
 ⟨some 20, .bin .lss, [.r 19, .k (.int .i64 1)], (some (17, false)), [19]⟩,
 ⟨some 21, .pick, [.r 17, .k (.bool true), .r 20], none, [17, 20]⟩,
 ⟨some 22, .mov, [.r 21], none, [21]⟩,
 ⟨some 23, .fa 1, [.r 5], (some (22, false)), []⟩,
 ⟨some 24, .ld none, [.r 23], (some (22, false)), [23]⟩,
 ⟨some 25, .bin .gtr, [.r 24, .k (.int .i64 3000)], (some (22, false)), [24]⟩,
 ⟨some 26, .pick, [.r 22, .k (.bool true), .r 25], none, [22, 25]⟩,
 ⟨some 27, .mov, [.r 26], none, [26]⟩,
 ⟨some 28, .fa 2, [.r 5], (some (27, false)), []⟩,
 ⟨some 29, .ld none, [.r 28], (some (27, false)), [28]⟩,
 ⟨some 30, .bin .lss, [.r 29, .k (.int .i64 1)], (some (27, false)), [29]⟩,
 ⟨some 31, .pick, [.r 27, .k (.bool true), .r 30], none, [27, 30]⟩,
 ⟨some 32, .mov, [.r 31], none, [31]⟩,
 ⟨some 33, .fa 2, [.r 5], (some (32, false)), []⟩,
 ⟨some 34, .ld none, [.r 33], (some (32, false)), [33]⟩,
 ⟨some 35, .fa 1, [.r 5], (some (32, false)), []⟩,
 ⟨some 36, .ld none, [.r 35], (some (32, false)), [35]⟩,
 ⟨some 37, .bin .gtr, [.r 34, .r 36], (some (32, false)), [34, 36]⟩,
 ⟨some 38, .pick, [.r 32, .k (.bool true), .r 37], none, [32, 37]⟩,
 ⟨some 39, .mov, [.r 38], none, [38]⟩,
 ⟨some 40, .fa 3, [.r 5], (some (39, false)), []⟩,
 ⟨some 41, .ld none, [.r 40], (some (39, false)), [40]⟩,
 ⟨some 42, .bin .lss, [.r 41, .k (.int .i64 1)], (some (39, false)), [41]⟩,
 ⟨some 43, .pick, [.r 39, .k (.bool true), .r 42], none, [39, 42]⟩,
 ⟨some 44, .mov, [.r 43], none, [43]⟩,
 ⟨some 45, .fa 3, [.r 5], (some (44, false)), []⟩,
 ⟨some 46, .ld none, [.r 45], (some (44, false)), [45]⟩,
 ⟨some 47, .bin .gtr, [.r 46, .k (.int .i64 1000)], (some (44, false)), [46]⟩,
 ⟨some 48, .pick, [.r 44, .k (.bool true), .r 47], none, [44, 47]⟩]) <|
.cond (.r 48)
 (.seq (.ops [⟨some 4, .mov, [.k (.int .i64 10)], none, [1, 2, 5, 48]⟩]) <|
 .ret)
 (.skip)) <|
.seq (.seq (.ops [⟨some 49, .fa 4, [.r 5], none, [48]⟩,
 ⟨some 50, .ld none, [.r 49], none, [49]⟩,
 ⟨some 51, .bin .lss, [.r 50, .k (.int .i64 0)], none, [50]⟩,
 ⟨some 52, .mov, [.r 51], none, [51]⟩,
 ⟨some 53, .fa 4, [.r 5], (some (52, false)), []⟩,
 ⟨some 54, .ld none, [.r 53], (some (52, false)), [53]⟩,
 ⟨some 55, .fa 1, [.r 2], (some (52, false)), []⟩,
 ⟨some 56, .ld none, [.r 55], (some (52, false)), [55]⟩,
 ⟨some 57, .len, [.r 56], (some (52, false)), [56]⟩,
 ⟨some 58, .bin .geq, [.r 54, .r 57], (some (52, false)), [54, 57]⟩,
 ⟨some 59, .pick, [.r 52, .k (.bool true), .r 58], none, [52, 58]⟩]) <|
.cond (.r 59)
 (.seq (.ops [⟨some 4, .mov, [.k (.int .i64 16)], none, [1, 2, 5, 59]⟩]) <|
 .ret)
 (.skip)) <|
.seq (.seq (.ops [⟨some 6, .mov, [.k (.int .i64 0)], none, [59]⟩]) <|
.block 0 (.loop m52_1)) <|
.seq (.seq (.ops [⟨some 85, .fa 5, [.r 5], none, [1, 6, 62]⟩,
 ⟨some 86, .ld none, [.r 85], none, [85]⟩,
 ⟨some 87, .len, [.r 86], none, [86]⟩,
 ⟨some 88, .bin .lss, [.r 87, .k (.int .i64 1)], none, [87]⟩,
 ⟨some 89, .mov, [.r 88], none, [88]⟩,
 ⟨some 90, .fa 5, [.r 5], (some (89, false)), []⟩,
 ⟨some 91, .ld none, [.r 90], (some (89, false)), [90]⟩,
 ⟨some 92, .len, [.r 91], (some (89, false)), [91]⟩,
 ⟨some 93, .bin .gtr, [.r 92, .k (.int .i64 6)], (some (89, false)), [92]⟩,
 ⟨some 94, .pick, [.r 89, .k (.bool true), .r 93], none, [89, 93]⟩]) <|
.cond (.r 94)
 (.seq (.ops [⟨some 4, .mov, [.k (.int .i64 15)], none, [2, 5, 94]⟩]) <|
 .ret)
 (.skip)) <|
.seq (.seq (.ops [⟨some 7, .mov, [.k (.int .i64 0)], none, [94]⟩]) <|
.block 2 (.loop m52_0)) <|
.seq (.ops [⟨some 4, .mov, [.k (.int .i64 0)], none, [2, 5, 7, 99]⟩]) <|
.ret⟩
theorem c52 : cFn Tryz.prog 52 = some m52.bare := by kernel_rfl

/-- 'swingbridge/task.placed$1' -/
def m58 : MFn := ⟨[.tmp 2], .seq (.ops [⟨some 2, .mov, [.k (.bool false)], none, [2]⟩]) <|
.seq (.ops [⟨some 3, .mov, [.r 0], none, [0]⟩,
 ⟨some 4, .call 43, [.r 3, .k (.int .i64 1), .k (.int .i64 3)], none, [3]⟩,
 ⟨some 5, .un .not, [.r 4], none, [4]⟩,
 ⟨some 2, .mov, [.r 5], none, [5]⟩]) <|
.ret⟩
theorem c58 : cFn Tryz.prog 58 = some m58.bare := by kernel_rfl

/-- 'swingbridge/task.placed$2' -/
def m59 : MFn := ⟨[.tmp 3], .seq (.ops [⟨some 3, .mov, [.k (.bool false)], none, [3]⟩]) <|
.seq (.ops [⟨some 4, .mov, [.r 0], none, [0]⟩,
 ⟨some 5, .fa 1, [.r 1], none, []⟩,
 ⟨some 6, .ld none, [.r 5], none, [5]⟩,
 ⟨some 7, .len, [.r 6], none, [6]⟩,
 ⟨some 8, .bin .sub, [.r 7, .k (.int .i64 1)], none, [7]⟩,
 ⟨some 9, .call 43, [.r 4, .k (.int .i64 0), .r 8], none, [4, 8]⟩,
 ⟨some 10, .un .not, [.r 9], none, [9]⟩,
 ⟨some 3, .mov, [.r 10], none, [10]⟩]) <|
.ret⟩
theorem c59 : cFn Tryz.prog 59 = some m59.bare := by kernel_rfl

/-- 'slices.ContainsFunc[[]int,int]' -/
def m60 : MFn := ⟨[.tmp 4], .seq (.ops [⟨some 4, .mov, [.k (.bool false)], none, [4]⟩]) <|
.seq (.ops [⟨some 5, .mov, [.r 0], none, [0]⟩,
 ⟨some 6, .mov, [.r 1], none, [1]⟩,
 ⟨some 7, .call 76, [.r 5, .r 6], none, [5, 6]⟩,
 ⟨some 8, .bin .geq, [.r 7, .k (.int .i64 0)], none, [7]⟩,
 ⟨some 4, .mov, [.r 8], none, [8]⟩]) <|
.ret⟩
theorem c60 : cFn Tryz.prog 60 = some m60.bare := by kernel_rfl

/-- 'swingbridge/task.one$1' -/
def m61 : MFn := ⟨[.tmp 3], .seq (.ops [⟨some 2, .box, [.r 0], none, [0]⟩,
 ⟨some 3, .mov, [.k (.bool false)], none, [3]⟩]) <|
.seq (.ops [⟨some 4, .fa 0, [.r 2], none, []⟩,
 ⟨some 5, .ld none, [.r 4], none, [4]⟩,
 ⟨some 6, .fa 0, [.r 1], none, []⟩,
 ⟨some 7, .ld none, [.r 6], none, [6]⟩,
 ⟨some 8, .bin .eql, [.r 5, .r 7], none, [5, 7]⟩,
 ⟨some 9, .mov, [.r 8], none, [8]⟩,
 ⟨some 10, .fa 3, [.r 2], (some (9, false)), [2]⟩,
 ⟨some 11, .ld none, [.r 10], (some (9, false)), [10]⟩,
 ⟨some 12, .fa 3, [.r 1], (some (9, false)), []⟩,
 ⟨some 13, .ld none, [.r 12], (some (9, false)), [12]⟩,
 ⟨some 14, .bin .eql, [.r 11, .r 13], (some (9, false)), [11, 13]⟩,
 ⟨some 15, .pick, [.r 9, .k (.bool true), .r 14], none, [9, 14]⟩,
 ⟨some 3, .mov, [.r 15], none, [15]⟩]) <|
.ret⟩
theorem c61 : cFn Tryz.prog 61 = some m61.bare := by kernel_rfl

/-- 'slices.ContainsFunc[[]swingbridge/api.Task,swingbridge/api.Task]' -/
def m63 : MFn := ⟨[.tmp 4], .seq (.ops [⟨some 4, .mov, [.k (.bool false)], none, [4]⟩]) <|
.seq (.ops [⟨some 5, .mov, [.r 0], none, [0]⟩,
 ⟨some 6, .mov, [.r 1], none, [1]⟩,
 ⟨some 7, .call 77, [.r 5, .r 6], none, [5, 6]⟩,
 ⟨some 8, .bin .geq, [.r 7, .k (.int .i64 0)], none, [7]⟩,
 ⟨some 4, .mov, [.r 8], none, [8]⟩]) <|
.ret⟩
theorem c63 : cFn Tryz.prog 63 = some m63.bare := by kernel_rfl

/-- 'swingbridge/task.parted' -/
def m64_0 : MCode := .seq (.ops [⟨some 10, .bin .lss, [.r 9, .r 8], none, []⟩]) <|
 .seq (.cond (.r 10)
 (.skip)
 (.exit 0)) <|
 .seq (.block 1 (.seq (.ops [⟨some 11, .ia 3, [.r 7, .r 9], none, [10]⟩,
 ⟨some 12, .ld (some 3), [.r 11], none, [11]⟩,
 ⟨some 6, .new 0 [.int .i64 0, .int .i64 0, .int .i64 0], [], none, []⟩,
 ⟨none, .st 3, [.r 6, .r 12], none, [12]⟩]) <|
 .seq (.block 2 (.seq (.ops [⟨some 14, .fa 0, [.r 6], none, []⟩,
 ⟨some 15, .ld none, [.r 14], none, [14]⟩,
 ⟨some 16, .call 43, [.r 15, .k (.int .i64 1), .k (.int .i64 3)], none, [15]⟩,
 ⟨some 17, .un .not, [.r 16], none, [16]⟩,
 ⟨some 18, .mov, [.r 17], none, [17]⟩,
 ⟨some 19, .fa 1, [.r 6], (some (18, false)), []⟩,
 ⟨some 20, .ld none, [.r 19], (some (18, false)), [19]⟩,
 ⟨some 21, .call 43, [.r 20, .k (.int .i64 1), .k (.int .i64 60)], (some (18, false)), [20]⟩,
 ⟨some 22, .un .not, [.r 21], (some (18, false)), [21]⟩,
 ⟨some 23, .pick, [.r 18, .k (.bool true), .r 22], none, [18, 22]⟩,
 ⟨some 13, .mov, [.r 23], none, [23]⟩]) <|
 .cond (.r 13)
 (.seq (.ops [⟨some 4, .mov, [.k (.bool false)], none, [1, 2, 6, 7, 8, 9, 13]⟩]) <|
 .ret)
 (.seq (.ops [⟨some 25, .fa 0, [.r 6], none, [13]⟩,
 ⟨some 26, .ld none, [.r 25], none, [25]⟩,
 ⟨some 27, .bin .eql, [.r 26, .k (.int .i64 3)], none, [26]⟩,
 ⟨some 28, .mov, [.r 27], none, [27]⟩,
 ⟨some 29, .fa 2, [.r 6], (some (28, true)), []⟩,
 ⟨some 30, .ld none, [.r 29], (some (28, true)), [29]⟩,
 ⟨some 31, .fa 2, [.r 2], (some (28, true)), []⟩,
 ⟨some 32, .ld none, [.r 31], (some (28, true)), [31]⟩,
 ⟨some 33, .len, [.r 32], (some (28, true)), [32]⟩,
 ⟨some 34, .bin .sub, [.r 33, .k (.int .i64 1)], (some (28, true)), [33]⟩,
 ⟨some 35, .call 43, [.r 30, .k (.int .i64 0), .r 34], (some (28, true)), [30, 34]⟩,
 ⟨some 36, .pick, [.r 28, .r 35, .k (.bool false)], none, [28, 35]⟩,
 ⟨some 24, .mov, [.r 36], none, [36]⟩]) <|
 .cond (.r 24)
 (.exit 1)
 (.seq (.ops [⟨some 38, .fa 0, [.r 6], none, [24]⟩,
 ⟨some 39, .ld none, [.r 38], none, [38]⟩,
 ⟨some 40, .bin .neq, [.r 39, .k (.int .i64 3)], none, [39]⟩,
 ⟨some 41, .mov, [.r 40], none, [40]⟩,
 ⟨some 42, .fa 2, [.r 6], (some (41, true)), [6]⟩,
 ⟨some 43, .ld none, [.r 42], (some (41, true)), [42]⟩,
 ⟨some 44, .bin .eql, [.r 43, .k (.int .i64 0)], (some (41, true)), [43]⟩,
 ⟨some 45, .pick, [.r 41, .r 44, .k (.bool false)], none, [41, 44]⟩,
 ⟨some 37, .mov, [.r 45], none, [45]⟩]) <|
 .cond (.r 37)
 (.exit 1)
 (.skip))))) <|
 .seq (.ops [⟨some 4, .mov, [.k (.bool false)], none, [1, 2, 7, 8, 9, 37]⟩]) <|
 .ret)) <|
 .ops [⟨some 46, .bin .add, [.r 9, .k (.int .i64 1)], none, [6, 9, 24, 37]⟩,
 ⟨some 9, .mov, [.r 46], none, [46]⟩]
def m64 : MFn := ⟨[.tmp 4], .seq (.ops [⟨some 2, .box, [.r 0], none, [0]⟩,
 ⟨some 4, .mov, [.k (.bool false)], none, [4]⟩]) <|
.seq (.skip) <|
.seq (.seq (.ops [⟨some 7, .mov, [.r 1], none, []⟩,
 ⟨some 8, .len, [.r 7], none, []⟩,
 ⟨some 9, .mov, [.k (.int .i64 0)], none, []⟩]) <|
.block 0 (.loop m64_0)) <|
.seq (.ops [⟨some 47, .mov, [.r 1], none, [1, 2, 7, 8, 9, 10]⟩,
 ⟨some 48, .len, [.r 47], none, [47]⟩,
 ⟨some 49, .call 43, [.r 48, .k (.int .i64 1), .k (.int .i64 6)], none, [48]⟩,
 ⟨some 4, .mov, [.r 49], none, [49]⟩]) <|
.ret⟩
theorem c64 : cFn Tryz.prog 64 = some m64.bare := by kernel_rfl

/-- 'swingbridge/swingbridgeref7.begins' -/
def m65 : MFn := ⟨[.tmp 4], .seq (.ops [⟨some 4, .mov, [.k (.bool false)], none, [4]⟩]) <|
.seq (.ops [⟨some 5, .mov, [.r 0], none, []⟩,
 ⟨some 6, .lens, [.r 5], none, [5]⟩,
 ⟨some 7, .mov, [.r 1], none, []⟩,
 ⟨some 8, .lens, [.r 7], none, [7]⟩,
 ⟨some 9, .bin .geq, [.r 6, .r 8], none, [6, 8]⟩,
 ⟨some 10, .mov, [.r 9], none, [9]⟩,
 ⟨some 11, .mov, [.r 0], (some (10, true)), [0]⟩,
 ⟨some 12, .mov, [.r 1], (some (10, true)), []⟩,
 ⟨some 13, .lens, [.r 12], (some (10, true)), [12]⟩,
 ⟨some 14, .slstr false true, [.r 11, .r 13], (some (10, true)), [11, 13]⟩,
 ⟨some 15, .mov, [.r 1], (some (10, true)), [1]⟩,
 ⟨some 16, .bin .eql, [.r 14, .r 15], (some (10, true)), [14, 15]⟩,
 ⟨some 17, .pick, [.r 10, .r 16, .k (.bool false)], none, [10, 16]⟩,
 ⟨some 4, .mov, [.r 17], none, [17]⟩]) <|
.ret⟩
theorem c65 : cFn Tryz.prog 65 = some m65.bare := by kernel_rfl

/-- 'swingbridge/swingbridgeref7.part' -/
def m69 : MFn := ⟨[.tmp 4], .seq (.ops [⟨some 2, .box, [.r 0], none, [0]⟩,
 ⟨some 3, .box, [.r 1], none, [1]⟩,
 ⟨some 4, .mov, [.k (.bool false)], none, [4]⟩]) <|
.seq (.seq (.ops [⟨some 5, .fa 0, [.r 3], none, []⟩,
 ⟨some 6, .ld none, [.r 5], none, [5]⟩,
 ⟨some 7, .bin .lss, [.r 6, .k (.int .i64 1)], none, [6]⟩,
 ⟨some 8, .mov, [.r 7], none, [7]⟩,
 ⟨some 9, .fa 0, [.r 3], (some (8, false)), []⟩,
 ⟨some 10, .ld none, [.r 9], (some (8, false)), [9]⟩,
 ⟨some 11, .bin .gtr, [.r 10, .k (.int .i64 3)], (some (8, false)), [10]⟩,
 ⟨some 12, .pick, [.r 8, .k (.bool true), .r 11], none, [8, 11]⟩,
 ⟨some 13, .mov, [.r 12], none, [12]⟩,
 ⟨some 14, .fa 1, [.r 3], (some (13, false)), []⟩,
 ⟨some 15, .ld none, [.r 14], (some (13, false)), [14]⟩,
 ⟨some 16, .bin .lss, [.r 15, .k (.int .i64 1)], (some (13, false)), [15]⟩,
 ⟨some 17, .pick, [.r 13, .k (.bool true), .r 16], none, [13, 16]⟩,
 ⟨some 18, .mov, [.r 17], none, [17]⟩,
 ⟨some 19, .fa 1, [.r 3], (some (18, false)), []⟩,
 ⟨some 20, .ld none, [.r 19], (some (18, false)), [19]⟩,
 ⟨some 21, .bin .gtr, [.r 20, .k (.int .i64 60)], (some (18, false)), [20]⟩,
 ⟨some 22, .pick, [.r 18, .k (.bool true), .r 21], none, [18, 21]⟩]) <|
.cond (.r 22)
 (.seq (.ops [⟨some 4, .mov, [.k (.bool false)], none, [2, 3, 22]⟩]) <|
 .ret)
 (.skip)) <|
.seq (.ops [⟨some 23, .fa 0, [.r 3], none, [22]⟩,
 ⟨some 24, .ld none, [.r 23], none, [23]⟩,
 ⟨some 25, .bin .eql, [.r 24, .k (.int .i64 3)], none, [24]⟩,
 ⟨some 26, .mov, [.r 25], none, [25]⟩,
 ⟨some 27, .fa 2, [.r 3], (some (26, true)), []⟩,
 ⟨some 28, .ld none, [.r 27], (some (26, true)), [27]⟩,
 ⟨some 29, .bin .geq, [.r 28, .k (.int .i64 0)], (some (26, true)), [28]⟩,
 ⟨some 30, .pick, [.r 26, .r 29, .k (.bool false)], none, [26, 29]⟩,
 ⟨some 31, .mov, [.r 30], none, [30]⟩,
 ⟨some 32, .fa 2, [.r 3], (some (31, true)), []⟩,
 ⟨some 33, .ld none, [.r 32], (some (31, true)), [32]⟩,
 ⟨some 34, .fa 2, [.r 2], (some (31, true)), [2]⟩,
 ⟨some 35, .ld none, [.r 34], (some (31, true)), [34]⟩,
 ⟨some 36, .len, [.r 35], (some (31, true)), [35]⟩,
 ⟨some 37, .bin .lss, [.r 33, .r 36], (some (31, true)), [33, 36]⟩,
 ⟨some 38, .pick, [.r 31, .r 37, .k (.bool false)], none, [31, 37]⟩,
 ⟨some 39, .mov, [.r 38], none, [38]⟩,
 ⟨some 40, .fa 0, [.r 3], (some (39, false)), []⟩,
 ⟨some 41, .ld none, [.r 40], (some (39, false)), [40]⟩,
 ⟨some 42, .bin .neq, [.r 41, .k (.int .i64 3)], (some (39, false)), [41]⟩,
 ⟨some 43, .mov, [.r 42], (some (39, false)), [42]⟩,
 ⟨some 44, .fa 2, [.r 3], (some (43, true)), [3]⟩,
 ⟨some 45, .ld none, [.r 44], (some (43, true)), [44]⟩,
 ⟨some 46, .bin .eql, [.r 45, .k (.int .i64 0)], (some (43, true)), [45]⟩,
 ⟨some 47, .pick, [.r 43, .r 46, .k (.bool false)], (some (39, false)), [43, 46]⟩,
 ⟨some 48, .pick, [.r 39, .k (.bool true), .r 47], none, [39, 47]⟩,
 ⟨some 4, .mov, [.r 48], none, [48]⟩]) <|
.ret⟩
theorem c69 : cFn Tryz.prog 69 = some m69.bare := by kernel_rfl

/-- 'slices.IndexFunc[[]int,int]' -/
def m76_0 : MCode := .seq (.ops [⟨some 9, .bin .lss, [.r 8, .r 7], none, []⟩]) <|
 .seq (.cond (.r 9)
 (.skip)
 (.exit 0)) <|
 .seq (.block 1 (.seq (.ops [⟨some 10, .mov, [.r 8], none, [9]⟩,
 ⟨some 5, .mov, [.r 10], none, [10]⟩]) <|
 .seq (.ops [⟨some 11, .mov, [.r 1], none, []⟩,
 ⟨some 12, .mov, [.r 0], none, []⟩,
 ⟨some 13, .mov, [.r 5], none, []⟩,
 ⟨some 14, .ia 1, [.r 12, .r 13], none, [12, 13]⟩,
 ⟨some 15, .ld none, [.r 14], none, [14]⟩,
 ⟨some 16, .callv, [.r 11, .r 15], none, [11, 15]⟩]) <|
 .cond (.r 16)
 (.seq (.ops [⟨some 17, .mov, [.r 5], none, [0, 1, 5, 7, 8, 16]⟩,
 ⟨some 4, .mov, [.r 17], none, [17]⟩]) <|
 .ret)
 (.skip))) <|
 .ops [⟨some 18, .bin .add, [.r 8, .k (.int .i64 1)], none, [5, 8, 16]⟩,
 ⟨some 8, .mov, [.r 18], none, [18]⟩]
def m76 : MFn := ⟨[.tmp 4], .seq (.ops [⟨some 4, .mov, [.k (.int .i64 0)], none, [4]⟩]) <|
.seq (.seq (.ops [⟨some 6, .mov, [.r 0], none, []⟩,
 ⟨some 7, .len, [.r 6], none, [6]⟩,
 ⟨some 8, .mov, [.k (.int .i64 0)], none, []⟩]) <|
.block 0 (.loop m76_0)) <|
.seq (.ops [⟨some 4, .mov, [.k (.int .i64 (-1))], none, [0, 1, 7, 8, 9]⟩]) <|
.ret⟩
theorem c76 : cFn Tryz.prog 76 = some m76.bare := by kernel_rfl

/-- 'slices.IndexFunc[[]swingbridge/api.Task,swingbridge/api.Task]' -/
def m77_0 : MCode := .seq (.ops [⟨some 9, .bin .lss, [.r 8, .r 7], none, []⟩]) <|
 .seq (.cond (.r 9)
 (.skip)
 (.exit 0)) <|
 .seq (.block 1 (.seq (.ops [⟨some 10, .mov, [.r 8], none, [9]⟩,
 ⟨some 5, .mov, [.r 10], none, [10]⟩]) <|
 .seq (.ops [⟨some 11, .mov, [.r 1], none, []⟩,
 ⟨some 12, .mov, [.r 0], none, []⟩,
 ⟨some 13, .mov, [.r 5], none, []⟩,
 ⟨some 14, .ia 6, [.r 12, .r 13], none, [12, 13]⟩,
 ⟨some 15, .ld (some 6), [.r 14], none, [14]⟩,
 ⟨some 16, .callv, [.r 11, .r 15], none, [11, 15]⟩]) <|
 .cond (.r 16)
 (.seq (.ops [⟨some 17, .mov, [.r 5], none, [0, 1, 5, 7, 8, 16]⟩,
 ⟨some 4, .mov, [.r 17], none, [17]⟩]) <|
 .ret)
 (.skip))) <|
 .ops [⟨some 18, .bin .add, [.r 8, .k (.int .i64 1)], none, [5, 8, 16]⟩,
 ⟨some 8, .mov, [.r 18], none, [18]⟩]
def m77 : MFn := ⟨[.tmp 4], .seq (.ops [⟨some 4, .mov, [.k (.int .i64 0)], none, [4]⟩]) <|
.seq (.seq (.ops [⟨some 6, .mov, [.r 0], none, []⟩,
 ⟨some 7, .len, [.r 6], none, [6]⟩,
 ⟨some 8, .mov, [.k (.int .i64 0)], none, []⟩]) <|
.block 0 (.loop m77_0)) <|
.seq (.ops [⟨some 4, .mov, [.k (.int .i64 (-1))], none, [0, 1, 7, 8, 9]⟩]) <|
.ret⟩
theorem c77 : cFn Tryz.prog 77 = some m77.bare := by kernel_rfl

def mpXc (f : FuncId) : Option MDef := match f with
 | 5 => some (.code m5)
 | 6 => some (.code m6)
 | 7 => some (.code m7)
 | 8 => some (.code m8)
 | 9 => some (.code m9)
 | 10 => some (.code m10)
 | 11 => some (.code m11)
 | 12 => some (.code m12)
 | 13 => some (.code m13)
 | 14 => some (.code m14)
 | 15 => some (.code m15)
 | 16 => some (.code m16)
 | 17 => some (.code m17)
 | 18 => some (.code m18)
 | 19 => some (.code m19)
 | 20 => some (.code m20)
 | 21 => some (.code m21)
 | 22 => some (.code m22)
 | 23 => some (.code m23)
 | 24 => some (.code m24)
 | 25 => some (.code m25)
 | 26 => some (.code m26)
 | 27 => some (.code m27)
 | 28 => some (.code m28)
 | 29 => some (.code m29)
 | 31 => some (.code m31)
 | 32 => some (.code m32)
 | 33 => some (.code m33)
 | 34 => some (.code m34)
 | 35 => some (.code m35)
 | 36 => some (.code m36)
 | 37 => some (.code m37)
 | 39 => some (.code m39)
 | 40 => some (.code m40)
 | 41 => some (.code m41)
 | 42 => some (.code m42)
 | 43 => some (.code m43)
 | 44 => some (.code m44)
 | 45 => some (.code m45)
 | 46 => some (.code m46)
 | 47 => some (.code m47)
 | 48 => some (.code m48)
 | 50 => some (.code m50)
 | 51 => some (.code m51)
 | 52 => some (.code m52)
 | 55 => some (.code m55)
 | 58 => some (.code m58)
 | 59 => some (.code m59)
 | 60 => some (.code m60)
 | 61 => some (.code m61)
 | 62 => some (.code m62)
 | 63 => some (.code m63)
 | 64 => some (.code m64)
 | 65 => some (.code m65)
 | 68 => some (.code m68)
 | 69 => some (.code m69)
 | 76 => some (.code m76)
 | 77 => some (.code m77)
 | _ => none
theorem mpXc_code : ∀ f fn, mpXc f = some (.code fn) → cFn Tryz.prog f = some fn.bare := by
 intro f fn h
 unfold mpXc at h
 split at h
 · cases h; exact c5
 · cases h; exact c6
 · cases h; exact c7
 · cases h; exact c8
 · cases h; exact c9
 · cases h; exact c10
 · cases h; exact c11
 · cases h; exact c12
 · cases h; exact c13
 · cases h; exact c14
 · cases h; exact c15
 · cases h; exact c16
 · cases h; exact c17
 · cases h; exact c18
 · cases h; exact c19
 · cases h; exact c20
 · cases h; exact c21
 · cases h; exact c22
 · cases h; exact c23
 · cases h; exact c24
 · cases h; exact c25
 · cases h; exact c26
 · cases h; exact c27
 · cases h; exact c28
 · cases h; exact c29
 · cases h; exact c31
 · cases h; exact c32
 · cases h; exact c33
 · cases h; exact c34
 · cases h; exact c35
 · cases h; exact c36
 · cases h; exact c37
 · cases h; exact c39
 · cases h; exact c40
 · cases h; exact c41
 · cases h; exact c42
 · cases h; exact c43
 · cases h; exact c44
 · cases h; exact c45
 · cases h; exact c46
 · cases h; exact c47
 · cases h; exact c48
 · cases h; exact c50
 · cases h; exact c51
 · cases h; exact c52
 · cases h; exact c55
 · cases h; exact c58
 · cases h; exact c59
 · cases h; exact c60
 · cases h; exact c61
 · cases h; exact c62
 · cases h; exact c63
 · cases h; exact c64
 · cases h; exact c65
 · cases h; exact c68
 · cases h; exact c69
 · cases h; exact c76
 · cases h; exact c77
 · cases h
theorem mpXc_ok : MapOk Tryz.prog mpXc := ⟨by kernel_rfl, mpXc_code, fun f s h => by
 unfold mpXc at h
 split at h <;> cases h⟩
end Go.Mod

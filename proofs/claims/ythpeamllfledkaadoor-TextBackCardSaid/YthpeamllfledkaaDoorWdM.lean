/- The model's code of functions of the program, and that it is the program's. Printed by wip/tool. -/
import Derived.Test.YthpeamllfledkaaDoorProg
import Derived.Test.YthpeamllfledkaaDoorGrC

namespace Go.Mod
open Go.Proofs

/-- 'swingbridge/swingbridgelaw7.WordsTell' -/
def m3 : MFn := ⟨[.tmp 4], .seq (.ops [⟨some 4, .mov, [.k (.bool false)], none, [4]⟩]) <|
.seq (.seq (.ops [⟨some 9, .call 12, [], none, []⟩,
 ⟨some 10, .un .not, [.r 9], none, [9]⟩]) <|
.cond (.r 10)
 (.seq (.ops [⟨some 4, .mov, [.k (.bool false)], none, [0, 1, 10]⟩]) <|
 .ret)
 (.skip)) <|
.seq (.seq (.ops [⟨some 11, .mov, [.r 0], none, [10]⟩,
 ⟨some 12, .lens, [.r 11], none, [11]⟩,
 ⟨some 13, .bin .gtr, [.r 12, .k (.int .i64 400)], none, [12]⟩]) <|
.cond (.r 13)
 (.seq (.ops [⟨some 4, .mov, [.k (.bool true)], none, [0, 1, 13]⟩]) <|
 .ret)
 (.skip)) <|
.seq (.ops [⟨some 15, .mov, [.r 0], none, [13]⟩,
 ⟨some 16, .call 13, [.r 15], none, [15]⟩,
 ⟨some 14, .mov, [.r 16], none, [16]⟩,
 ⟨some 17, .extract 0, [.r 14], none, []⟩,
 ⟨some 18, .extract 1, [.r 14], none, [14]⟩,
 ⟨some 5, .mov, [.r 17], none, [17]⟩,
 ⟨some 6, .mov, [.r 18], none, [18]⟩]) <|
.seq (.ops [⟨some 20, .mov, [.r 0], none, []⟩,
 ⟨some 21, .call 14, [.r 20], none, [20]⟩,
 ⟨some 19, .mov, [.r 21], none, [21]⟩,
 ⟨some 22, .extract 0, [.r 19], none, []⟩,
 ⟨some 23, .extract 1, [.r 19], none, [19]⟩,
 ⟨some 7, .mov, [.r 22], none, [22]⟩,
 ⟨some 8, .mov, [.r 23], none, [23]⟩]) <|
.seq (.ops [⟨some 24, .mov, [.r 0], none, []⟩,
 ⟨some 25, .call 16, [.r 24], none, [24]⟩,
 ⟨some 26, .mov, [.r 0], none, []⟩,
 ⟨some 27, .call 17, [.r 26], none, [26]⟩,
 ⟨some 28, .call 15, [.r 25, .r 27], none, [25, 27]⟩,
 ⟨some 29, .mov, [.r 28], none, [28]⟩,
 ⟨some 30, .mov, [.r 0], (some (29, true)), []⟩,
 ⟨some 31, .call 18, [.r 30], (some (29, true)), [30]⟩,
 ⟨some 32, .mov, [.r 0], (some (29, true)), []⟩,
 ⟨some 33, .call 19, [.r 32], (some (29, true)), [32]⟩,
 ⟨some 34, .call 15, [.r 31, .r 33], (some (29, true)), [31, 33]⟩,
 ⟨some 35, .pick, [.r 29, .r 34, .k (.bool false)], none, [29, 34]⟩,
 ⟨some 36, .mov, [.r 35], none, [35]⟩,
 ⟨some 37, .mov, [.r 5], (some (36, true)), [5]⟩,
 ⟨some 38, .mov, [.r 7], (some (36, true)), [7]⟩,
 ⟨some 39, .bin .eql, [.r 37, .r 38], (some (36, true)), [37, 38]⟩,
 ⟨some 40, .pick, [.r 36, .r 39, .k (.bool false)], none, [36, 39]⟩,
 ⟨some 41, .mov, [.r 40], none, [40]⟩,
 ⟨some 42, .mov, [.r 6], (some (41, true)), [6]⟩,
 ⟨some 43, .mov, [.r 8], (some (41, true)), [8]⟩,
 ⟨some 44, .eqv false .bool, [.r 42, .r 43], (some (41, true)), [42, 43]⟩,
 ⟨some 45, .pick, [.r 41, .r 44, .k (.bool false)], none, [41, 44]⟩,
 ⟨some 46, .mov, [.r 45], none, [45]⟩,
 ⟨some 47, .mov, [.r 0], (some (46, true)), []⟩,
 ⟨some 48, .call 20, [.r 47], (some (46, true)), [47]⟩,
 ⟨some 49, .mov, [.r 0], (some (46, true)), [0]⟩,
 ⟨some 50, .call 21, [.r 49], (some (46, true)), [49]⟩,
 ⟨some 51, .eqv false .bool, [.r 48, .r 50], (some (46, true)), [48, 50]⟩,
 ⟨some 52, .pick, [.r 46, .r 51, .k (.bool false)], none, [46, 51]⟩,
 ⟨some 53, .mov, [.r 52], none, [52]⟩,
 ⟨some 54, .mov, [.r 1], (some (53, true)), []⟩,
 ⟨some 55, .call 22, [.r 54], (some (53, true)), [54]⟩,
 ⟨some 56, .mov, [.r 1], (some (53, true)), [1]⟩,
 ⟨some 57, .call 23, [.r 56], (some (53, true)), [56]⟩,
 ⟨some 58, .bin .eql, [.r 55, .r 57], (some (53, true)), [55, 57]⟩,
 ⟨some 59, .pick, [.r 53, .r 58, .k (.bool false)], none, [53, 58]⟩,
 ⟨some 4, .mov, [.r 59], none, [59]⟩]) <|
.ret⟩
theorem c3 : cFn Tryd.prog 3 = some m3.bare := by kernel_rfl

/-- 'swingbridge/swingbridgelaw7.WordsBack' -/
def m4_0 : MCode := .seq (.seq (.ops [⟨some 41, .mov, [.r 10], none, []⟩,
 ⟨some 42, .mov, [.r 0], none, []⟩,
 ⟨some 43, .mov, [.r 9], none, []⟩,
 ⟨some 44, .ia 1, [.r 42, .r 43], none, [42, 43]⟩,
 ⟨some 45, .ld none, [.r 44], none, [44]⟩,
 ⟨some 46, .lens, [.r 45], none, [45]⟩,
 ⟨some 47, .bin .lss, [.r 41, .r 46], none, [41, 46]⟩]) <|
 .cond (.r 47)
 (.skip)
 (.exit 2)) <|
 .seq (.block 3 (.seq (.ops [⟨some 50, .mov, [.r 0], none, [47]⟩,
 ⟨some 51, .mov, [.r 9], none, []⟩,
 ⟨some 52, .ia 1, [.r 50, .r 51], none, [50, 51]⟩,
 ⟨some 53, .ld none, [.r 52], none, [52]⟩,
 ⟨some 54, .mov, [.r 10], none, []⟩,
 ⟨some 55, .idxs, [.r 53, .r 54], none, [53, 54]⟩,
 ⟨some 56, .bin .eql, [.r 55, .k (.int .u8 32)], none, [55]⟩,
 ⟨some 57, .mov, [.r 56], none, [56]⟩,
 ⟨some 58, .mov, [.r 0], (some (57, false)), []⟩,
 ⟨some 59, .mov, [.r 9], (some (57, false)), []⟩,
 ⟨some 60, .ia 1, [.r 58, .r 59], (some (57, false)), [58, 59]⟩,
 ⟨some 61, .ld none, [.r 60], (some (57, false)), [60]⟩,
 ⟨some 62, .mov, [.r 10], (some (57, false)), []⟩,
 ⟨some 63, .idxs, [.r 61, .r 62], (some (57, false)), [61, 62]⟩,
 ⟨some 64, .bin .eql, [.r 63, .k (.int .u8 35)], (some (57, false)), [63]⟩,
 ⟨some 65, .pick, [.r 57, .k (.bool true), .r 64], none, [57, 64]⟩,
 ⟨some 66, .mov, [.r 65], none, [65]⟩,
 ⟨some 67, .mov, [.r 0], (some (66, false)), []⟩,
 ⟨some 68, .mov, [.r 9], (some (66, false)), []⟩,
 ⟨some 69, .ia 1, [.r 67, .r 68], (some (66, false)), [67, 68]⟩,
 ⟨some 70, .ld none, [.r 69], (some (66, false)), [69]⟩,
 ⟨some 71, .mov, [.r 10], (some (66, false)), []⟩,
 ⟨some 72, .idxs, [.r 70, .r 71], (some (66, false)), [70, 71]⟩,
 ⟨some 73, .bin .eql, [.r 72, .k (.int .u8 10)], (some (66, false)), [72]⟩,
 ⟨some 74, .pick, [.r 66, .k (.bool true), .r 73], none, [66, 73]⟩]) <|
 .cond (.r 74)
 (.seq (.ops [⟨some 6, .mov, [.k (.bool true)], none, [0, 1, 2, 7, 8, 9, 10, 74]⟩]) <|
 .ret)
 (.skip))) <|
 .ops [⟨some 48, .mov, [.r 10], none, [10, 74]⟩,
 ⟨some 49, .bin .add, [.r 48, .k (.int .i64 1)], none, [48]⟩,
 ⟨some 10, .mov, [.r 49], none, [49]⟩]
def m4_1 : MCode := .seq (.seq (.ops [⟨some 21, .mov, [.r 9], none, []⟩,
 ⟨some 22, .mov, [.r 0], none, []⟩,
 ⟨some 23, .len, [.r 22], none, [22]⟩,
 ⟨some 24, .bin .lss, [.r 21, .r 23], none, [21, 23]⟩]) <|
 .cond (.r 24)
 (.skip)
 (.exit 0)) <|
 .seq (.block 1 (.seq (.seq (.ops [⟨some 27, .mov, [.r 0], none, [24]⟩,
 ⟨some 28, .mov, [.r 9], none, []⟩,
 ⟨some 29, .ia 1, [.r 27, .r 28], none, [27, 28]⟩,
 ⟨some 30, .ld none, [.r 29], none, [29]⟩,
 ⟨some 31, .lens, [.r 30], none, [30]⟩,
 ⟨some 32, .bin .eql, [.r 31, .k (.int .i64 0)], none, [31]⟩,
 ⟨some 33, .mov, [.r 32], none, [32]⟩,
 ⟨some 34, .mov, [.r 0], (some (33, false)), []⟩,
 ⟨some 35, .mov, [.r 9], (some (33, false)), []⟩,
 ⟨some 36, .ia 1, [.r 34, .r 35], (some (33, false)), [34, 35]⟩,
 ⟨some 37, .ld none, [.r 36], (some (33, false)), [36]⟩,
 ⟨some 38, .lens, [.r 37], (some (33, false)), [37]⟩,
 ⟨some 39, .bin .gtr, [.r 38, .k (.int .i64 20)], (some (33, false)), [38]⟩,
 ⟨some 40, .pick, [.r 33, .k (.bool true), .r 39], none, [33, 39]⟩]) <|
 .cond (.r 40)
 (.seq (.ops [⟨some 6, .mov, [.k (.bool true)], none, [0, 1, 2, 7, 8, 9, 40]⟩]) <|
 .ret)
 (.skip)) <|
 .seq (.seq (.ops [⟨some 10, .mov, [.k (.int .i64 0)], none, [40]⟩]) <|
 .block 2 (.loop m4_0)) <|
 .seq (.draw [⟨some 75, .mov, [.r 7], none, [7, 10, 47]⟩,
 ⟨some 76, .mov, [.r 1], none, []⟩,
 ⟨some 77, .mov, [.r 9], none, []⟩,
 ⟨some 78, .conv .u64, [.r 77], none, [77]⟩,
 ⟨some 79, .bin .shr, [.r 76, .r 78], none, [76, 78]⟩,
 ⟨some 80, .bin .and, [.r 79, .k (.int .u16 1)], none, [79]⟩,
 ⟨some 81, .conv .i64, [.r 80], none, [80]⟩,
 ⟨some 82, .bin .add, [.k (.int .i64 1), .r 81], none, [81]⟩,
 ⟨some 83, .slstr false true, [.k (.string ⟨#[32, 32, 32]⟩), .r 82], none, [82]⟩,
 ⟨some 84, .bin .add, [.r 75, .r 83], none, [75, 83]⟩,
 ⟨some 85, .mov, [.r 0], none, []⟩,
 ⟨some 86, .mov, [.r 9], none, []⟩,
 ⟨some 87, .ia 1, [.r 85, .r 86], none, [85, 86]⟩,
 ⟨some 88, .ld none, [.r 87], none, [87]⟩,
 ⟨some 89, .bin .add, [.r 84, .r 88], none, [84, 88]⟩,
 ⟨some 7, .mov, [.r 89], none, [89]⟩] []) <|
 .ops [⟨some 90, .mov, [.r 8], none, [8]⟩,
 ⟨some 91, .mov, [.r 0], none, []⟩,
 ⟨some 92, .mov, [.r 9], none, []⟩,
 ⟨some 93, .ia 1, [.r 91, .r 92], none, [91, 92]⟩,
 ⟨some 94, .ld none, [.r 93], none, [93]⟩,
 ⟨some 95, .bin .add, [.r 90, .r 94], none, [90, 94]⟩,
 ⟨some 96, .bin .add, [.r 95, .k (.string ⟨#[10]⟩)], none, [95]⟩,
 ⟨some 8, .mov, [.r 96], none, [96]⟩])) <|
 .ops [⟨some 25, .mov, [.r 9], none, [9]⟩,
 ⟨some 26, .bin .add, [.r 25, .k (.int .i64 1)], none, [25]⟩,
 ⟨some 9, .mov, [.r 26], none, [26]⟩]
def m4 : MFn := ⟨[.tmp 6], .seq (.ops [⟨some 6, .mov, [.k (.bool false)], none, [6]⟩]) <|
.seq (.seq (.ops [⟨some 11, .call 12, [], none, []⟩,
 ⟨some 12, .un .not, [.r 11], none, [11]⟩]) <|
.cond (.r 12)
 (.seq (.ops [⟨some 6, .mov, [.k (.bool false)], none, [0, 1, 2, 12]⟩]) <|
 .ret)
 (.skip)) <|
.seq (.seq (.ops [⟨some 13, .mov, [.r 0], none, [12]⟩,
 ⟨some 14, .len, [.r 13], none, [13]⟩,
 ⟨some 15, .bin .gtr, [.r 14, .k (.int .i64 12)], none, [14]⟩,
 ⟨some 16, .mov, [.r 15], none, [15]⟩,
 ⟨some 17, .mov, [.r 2], (some (16, false)), []⟩,
 ⟨some 18, .lens, [.r 17], (some (16, false)), [17]⟩,
 ⟨some 19, .bin .gtr, [.r 18, .k (.int .i64 40)], (some (16, false)), [18]⟩,
 ⟨some 20, .pick, [.r 16, .k (.bool true), .r 19], none, [16, 19]⟩]) <|
.cond (.r 20)
 (.seq (.ops [⟨some 6, .mov, [.k (.bool true)], none, [0, 1, 2, 20]⟩]) <|
 .ret)
 (.skip)) <|
.seq (.ops [⟨some 7, .mov, [.k (.string ⟨#[]⟩)], none, [20]⟩,
 ⟨some 8, .mov, [.k (.string ⟨#[]⟩)], none, []⟩]) <|
.seq (.seq (.ops [⟨some 9, .mov, [.k (.int .i64 0)], none, []⟩]) <|
.block 0 (.loop m4_1)) <|
.seq (.ops [⟨some 97, .mov, [.r 7], none, [1, 9, 24]⟩,
 ⟨some 98, .call 18, [.r 97], none, [97]⟩,
 ⟨some 99, .mov, [.r 0], none, []⟩,
 ⟨some 100, .call 15, [.r 98, .r 99], none, [98, 99]⟩,
 ⟨some 101, .mov, [.r 100], none, [100]⟩,
 ⟨some 102, .mov, [.r 7], (some (101, true)), [7]⟩,
 ⟨some 103, .bin .add, [.r 102, .k (.string ⟨#[32, 35]⟩)], (some (101, true)), [102]⟩,
 ⟨some 104, .mov, [.r 2], (some (101, true)), [2]⟩,
 ⟨some 105, .bin .add, [.r 103, .r 104], (some (101, true)), [103, 104]⟩,
 ⟨some 106, .call 18, [.r 105], (some (101, true)), [105]⟩,
 ⟨some 107, .mov, [.r 0], (some (101, true)), []⟩,
 ⟨some 108, .call 15, [.r 106, .r 107], (some (101, true)), [106, 107]⟩,
 ⟨some 109, .pick, [.r 101, .r 108, .k (.bool false)], none, [101, 108]⟩,
 ⟨some 110, .mov, [.r 109], none, [109]⟩,
 ⟨some 111, .mov, [.r 8], (some (110, true)), [8]⟩,
 ⟨some 112, .call 16, [.r 111], (some (110, true)), [111]⟩,
 ⟨some 113, .mov, [.r 0], (some (110, true)), [0]⟩,
 ⟨some 114, .call 15, [.r 112, .r 113], (some (110, true)), [112, 113]⟩,
 ⟨some 115, .pick, [.r 110, .r 114, .k (.bool false)], none, [110, 114]⟩,
 ⟨some 6, .mov, [.r 115], none, [115]⟩]) <|
.ret⟩
theorem c4 : cFn Tryd.prog 4 = some m4.bare := by kernel_rfl

/-- 'swingbridge/swingbridgelaw7.WordsNumbers' -/
def m5 : MFn := ⟨[.tmp 4], .seq (.ops [⟨some 4, .mov, [.k (.bool false)], none, [4]⟩]) <|
.seq (.seq (.ops [⟨some 18, .call 12, [], none, []⟩,
 ⟨some 19, .un .not, [.r 18], none, [18]⟩]) <|
.cond (.r 19)
 (.seq (.ops [⟨some 4, .mov, [.k (.bool false)], none, [0, 1, 19]⟩]) <|
 .ret)
 (.skip)) <|
.seq (.ops [⟨some 20, .mov, [.r 0], none, [0, 19]⟩,
 ⟨some 21, .bin .rem, [.r 20, .k (.int .u32 10000000)], none, [20]⟩,
 ⟨some 22, .conv .i64, [.r 21], none, [21]⟩,
 ⟨some 5, .mov, [.r 22], none, [22]⟩]) <|
.seq (.ops [⟨some 23, .mov, [.r 5], none, []⟩,
 ⟨some 24, .call 22, [.r 23], none, [23]⟩,
 ⟨some 6, .mov, [.r 24], none, [24]⟩]) <|
.seq (.ops [⟨some 26, .mov, [.r 6], none, []⟩,
 ⟨some 27, .call 13, [.r 26], none, [26]⟩,
 ⟨some 25, .mov, [.r 27], none, [27]⟩,
 ⟨some 28, .extract 0, [.r 25], none, []⟩,
 ⟨some 29, .extract 1, [.r 25], none, [25]⟩,
 ⟨some 7, .mov, [.r 28], none, [28]⟩,
 ⟨some 8, .mov, [.r 29], none, [29]⟩]) <|
.seq (.ops [⟨some 31, .mov, [.r 6], none, []⟩,
 ⟨some 32, .bin .add, [.k (.string ⟨#[48]⟩), .r 31], none, [31]⟩,
 ⟨some 33, .call 13, [.r 32], none, [32]⟩,
 ⟨some 30, .mov, [.r 33], none, [33]⟩,
 ⟨some 34, .extract 0, [.r 30], none, []⟩,
 ⟨some 35, .extract 1, [.r 30], none, [30]⟩,
 ⟨some 9, .mov, [.r 34], none, [9, 34]⟩,
 ⟨some 10, .mov, [.r 35], none, [35]⟩]) <|
.seq (.ops [⟨some 37, .mov, [.r 6], none, []⟩,
 ⟨some 38, .lens, [.r 37], none, [37]⟩,
 ⟨some 39, .bin .rem, [.r 38, .k (.int .i64 8)], none, [38]⟩,
 ⟨some 40, .bin .sub, [.k (.int .i64 7), .r 39], none, [39]⟩,
 ⟨some 41, .slstr false true, [.k (.string ⟨#[48, 48, 48, 48, 48, 48, 48]⟩), .r 40], none, [40]⟩,
 ⟨some 42, .bin .add, [.k (.string ⟨#[49]⟩), .r 41], none, [41]⟩,
 ⟨some 43, .mov, [.r 6], none, []⟩,
 ⟨some 44, .bin .add, [.r 42, .r 43], none, [42, 43]⟩,
 ⟨some 45, .call 13, [.r 44], none, [44]⟩,
 ⟨some 36, .mov, [.r 45], none, [45]⟩,
 ⟨some 46, .extract 0, [.r 36], none, []⟩,
 ⟨some 47, .extract 1, [.r 36], none, [36]⟩,
 ⟨some 11, .mov, [.r 46], none, [11, 46]⟩,
 ⟨some 12, .mov, [.r 47], none, [47]⟩]) <|
.seq (.ops [⟨some 49, .mov, [.r 6], none, []⟩,
 ⟨some 50, .bin .add, [.k (.string ⟨#[45]⟩), .r 49], none, [49]⟩,
 ⟨some 51, .call 13, [.r 50], none, [50]⟩,
 ⟨some 48, .mov, [.r 51], none, [51]⟩,
 ⟨some 52, .extract 0, [.r 48], none, []⟩,
 ⟨some 53, .extract 1, [.r 48], none, [48]⟩,
 ⟨some 13, .mov, [.r 52], none, [13, 52]⟩,
 ⟨some 14, .mov, [.r 53], none, [53]⟩]) <|
.seq (.draw [⟨some 55, .mov, [.r 6], none, []⟩,
 ⟨some 56, .mov, [.r 6], none, []⟩,
 ⟨some 57, .lens, [.r 56], none, [56]⟩,
 ⟨some 58, .bin .sub, [.r 57, .k (.int .i64 1)], none, [57]⟩,
 ⟨some 59, .slstr false true, [.r 55, .r 58], none, [55, 58]⟩,
 ⟨some 60, .mov, [.r 1], none, []⟩,
 ⟨some 61, .bslice 1 1 [.int .u8 0] [(0, 1)], [.r 60], none, [60]⟩,
 ⟨some 62, .strb, [.r 61], none, [61]⟩,
 ⟨some 63, .bin .add, [.r 59, .r 62], none, [59, 62]⟩,
 ⟨some 64, .call 13, [.r 63], none, [63]⟩,
 ⟨some 54, .mov, [.r 64], none, [64]⟩,
 ⟨some 65, .extract 0, [.r 54], none, []⟩,
 ⟨some 66, .extract 1, [.r 54], none, [54]⟩,
 ⟨some 15, .mov, [.r 65], none, [15, 65]⟩,
 ⟨some 16, .mov, [.r 66], none, [66]⟩] []) <|
.seq (.ops [⟨some 67, .mov, [.r 1], none, []⟩,
 ⟨some 68, .bin .geq, [.r 67, .k (.int .u8 48)], none, [67]⟩,
 ⟨some 69, .mov, [.r 68], none, [68]⟩,
 ⟨some 70, .mov, [.r 1], (some (69, true)), [1]⟩,
 ⟨some 71, .bin .leq, [.r 70, .k (.int .u8 57)], (some (69, true)), [70]⟩,
 ⟨some 72, .pick, [.r 69, .r 71, .k (.bool false)], none, [69, 71]⟩,
 ⟨some 73, .mov, [.r 72], none, [72]⟩,
 ⟨some 74, .mov, [.r 6], (some (73, true)), []⟩,
 ⟨some 75, .lens, [.r 74], (some (73, true)), [74]⟩,
 ⟨some 76, .bin .eql, [.r 75, .k (.int .i64 1)], (some (73, true)), [75]⟩,
 ⟨some 77, .mov, [.r 76], (some (73, true)), [76]⟩,
 ⟨some 78, .mov, [.r 6], (some (77, false)), [6]⟩,
 ⟨some 79, .idxs, [.r 78, .k (.int .i64 0)], (some (77, false)), [78]⟩,
 ⟨some 80, .bin .neq, [.r 79, .k (.int .u8 48)], (some (77, false)), [79]⟩,
 ⟨some 81, .pick, [.r 77, .k (.bool true), .r 80], (some (73, true)), [77, 80]⟩,
 ⟨some 82, .pick, [.r 73, .r 81, .k (.bool false)], none, [73, 81]⟩,
 ⟨some 17, .mov, [.r 82], none, [82]⟩]) <|
.seq (.ops [⟨some 83, .mov, [.r 8], none, [8]⟩,
 ⟨some 84, .mov, [.r 83], none, [83]⟩,
 ⟨some 85, .mov, [.r 7], (some (84, true)), [7]⟩,
 ⟨some 86, .mov, [.r 5], (some (84, true)), []⟩,
 ⟨some 87, .bin .eql, [.r 85, .r 86], (some (84, true)), [85, 86]⟩,
 ⟨some 88, .pick, [.r 84, .r 87, .k (.bool false)], none, [84, 87]⟩,
 ⟨some 89, .mov, [.r 88], none, [88]⟩,
 ⟨some 90, .mov, [.r 10], (some (89, true)), [10]⟩,
 ⟨some 91, .un .not, [.r 90], (some (89, true)), [90]⟩,
 ⟨some 92, .pick, [.r 89, .r 91, .k (.bool false)], none, [89, 91]⟩,
 ⟨some 93, .mov, [.r 92], none, [92]⟩,
 ⟨some 94, .mov, [.r 12], (some (93, true)), [12]⟩,
 ⟨some 95, .un .not, [.r 94], (some (93, true)), [94]⟩,
 ⟨some 96, .pick, [.r 93, .r 95, .k (.bool false)], none, [93, 95]⟩,
 ⟨some 97, .mov, [.r 96], none, [96]⟩,
 ⟨some 98, .mov, [.r 14], (some (97, true)), [14]⟩,
 ⟨some 99, .un .not, [.r 98], (some (97, true)), [98]⟩,
 ⟨some 100, .pick, [.r 97, .r 99, .k (.bool false)], none, [97, 99]⟩,
 ⟨some 101, .mov, [.r 100], none, [100]⟩,
 ⟨some 102, .mov, [.r 16], (some (101, true)), [16]⟩,
 ⟨some 103, .mov, [.r 17], (some (101, true)), [17]⟩,
 ⟨some 104, .eqv false .bool, [.r 102, .r 103], (some (101, true)), [102, 103]⟩,
 ⟨some 105, .pick, [.r 101, .r 104, .k (.bool false)], none, [101, 104]⟩,
 ⟨some 106, .mov, [.r 105], none, [105]⟩,
 ⟨some 107, .mov, [.r 5], (some (106, true)), [5]⟩,
 ⟨some 108, .bin .add, [.k (.int .i64 10000000), .r 107], (some (106, true)), [107]⟩,
 ⟨some 109, .call 22, [.r 108], (some (106, true)), [108]⟩,
 ⟨some 110, .bin .eql, [.r 109, .k (.string ⟨#[]⟩)], (some (106, true)), [109]⟩,
 ⟨some 111, .pick, [.r 106, .r 110, .k (.bool false)], none, [106, 110]⟩,
 ⟨some 4, .mov, [.r 111], none, [111]⟩]) <|
.ret⟩
theorem c5 : cFn Tryd.prog 5 = some m5.bare := by kernel_rfl

/-- 'swingbridge/swingbridgelaw7.WordsNames' -/
def m6_0 : MCode := .seq (.seq (.ops [⟨some 22, .mov, [.r 9], none, []⟩,
 ⟨some 23, .mov, [.r 7], none, []⟩,
 ⟨some 24, .bin .lss, [.r 22, .r 23], none, [22, 23]⟩]) <|
 .cond (.r 24)
 (.skip)
 (.exit 0)) <|
 .seq (.block 1 (.ops [⟨some 27, .mov, [.r 8], none, [24]⟩,
 ⟨some 28, .mov, [.r 9], none, []⟩,
 ⟨some 29, .ia 1, [.r 27, .r 28], none, [27, 28]⟩,
 ⟨none, .st 1, [.r 29, .k (.int .u8 120)], none, [29]⟩])) <|
 .ops [⟨some 25, .mov, [.r 9], none, [9]⟩,
 ⟨some 26, .bin .add, [.r 25, .k (.int .i64 1)], none, [25]⟩,
 ⟨some 9, .mov, [.r 26], none, [26]⟩]
def m6 : MFn := ⟨[.tmp 6], .seq (.ops [⟨some 6, .mov, [.k (.bool false)], none, [6]⟩]) <|
.seq (.seq (.ops [⟨some 14, .call 12, [], none, []⟩,
 ⟨some 15, .un .not, [.r 14], none, [14]⟩]) <|
.cond (.r 15)
 (.seq (.ops [⟨some 6, .mov, [.k (.bool false)], none, [0, 1, 2, 15]⟩]) <|
 .ret)
 (.skip)) <|
.seq (.ops [⟨some 16, .mov, [.r 0], none, [0, 15]⟩,
 ⟨some 17, .bin .rem, [.r 16, .k (.int .u8 12)], none, [16]⟩,
 ⟨some 18, .conv .i64, [.r 17], none, [17]⟩,
 ⟨some 19, .bin .add, [.r 18, .k (.int .i64 1)], none, [18]⟩,
 ⟨some 7, .mov, [.r 19], none, [19]⟩]) <|
.seq (.ops [⟨some 20, .mov, [.r 7], none, []⟩,
 ⟨some 21, .mslice 1 1 [.int .u8 0], [.r 20, .r 20], none, [20]⟩,
 ⟨some 8, .mov, [.r 21], none, [21]⟩]) <|
.seq (.seq (.ops [⟨some 9, .mov, [.k (.int .i64 0)], none, []⟩]) <|
.block 0 (.loop m6_0)) <|
.seq (.ops [⟨some 30, .mov, [.r 8], none, [9, 24]⟩,
 ⟨some 31, .strb, [.r 30], none, [30]⟩,
 ⟨some 32, .call 20, [.r 31], none, [31]⟩,
 ⟨some 10, .mov, [.r 32], none, [32]⟩]) <|
.seq (.ops [⟨some 33, .mov, [.r 2], none, [2]⟩,
 ⟨some 34, .conv .i64, [.r 33], none, [33]⟩,
 ⟨some 35, .mov, [.r 7], none, []⟩,
 ⟨some 36, .bin .rem, [.r 34, .r 35], none, [34, 35]⟩,
 ⟨some 11, .mov, [.r 36], none, [36]⟩]) <|
.seq (.ops [⟨some 37, .mov, [.r 8], none, []⟩,
 ⟨some 38, .mov, [.r 11], none, []⟩,
 ⟨some 39, .mov, [.r 1], none, []⟩,
 ⟨some 40, .ia 1, [.r 37, .r 38], none, [37, 38]⟩,
 ⟨none, .st 1, [.r 40, .r 39], none, [39, 40]⟩]) <|
.seq (.ops [⟨some 41, .mov, [.r 1], none, []⟩,
 ⟨some 42, .bin .geq, [.r 41, .k (.int .u8 97)], none, [41]⟩,
 ⟨some 43, .mov, [.r 42], none, [42]⟩,
 ⟨some 44, .mov, [.r 1], (some (43, true)), []⟩,
 ⟨some 45, .bin .leq, [.r 44, .k (.int .u8 122)], (some (43, true)), [44]⟩,
 ⟨some 46, .pick, [.r 43, .r 45, .k (.bool false)], none, [43, 45]⟩,
 ⟨some 47, .mov, [.r 1], none, []⟩,
 ⟨some 48, .bin .geq, [.r 47, .k (.int .u8 48)], none, [47]⟩,
 ⟨some 49, .mov, [.r 48], none, [48]⟩,
 ⟨some 50, .mov, [.r 1], (some (49, true)), [1]⟩,
 ⟨some 51, .bin .leq, [.r 50, .k (.int .u8 57)], (some (49, true)), [50]⟩,
 ⟨some 52, .pick, [.r 49, .r 51, .k (.bool false)], none, [49, 51]⟩,
 ⟨some 12, .mov, [.r 46], none, [46]⟩,
 ⟨some 13, .mov, [.r 52], none, [52]⟩]) <|
.seq (.ops [⟨some 53, .mov, [.r 10], none, [10]⟩,
 ⟨some 54, .mov, [.r 7], none, []⟩,
 ⟨some 55, .bin .leq, [.r 54, .k (.int .i64 8)], none, [54]⟩,
 ⟨some 56, .eqv false .bool, [.r 53, .r 55], none, [53, 55]⟩,
 ⟨some 57, .mov, [.r 56], none, [56]⟩,
 ⟨some 58, .mov, [.r 8], (some (57, true)), [8]⟩,
 ⟨some 59, .strb, [.r 58], (some (57, true)), [58]⟩,
 ⟨some 60, .call 20, [.r 59], (some (57, true)), [59]⟩,
 ⟨some 61, .mov, [.r 7], (some (57, true)), [7]⟩,
 ⟨some 62, .bin .leq, [.r 61, .k (.int .i64 8)], (some (57, true)), [61]⟩,
 ⟨some 63, .mov, [.r 62], (some (57, true)), [62]⟩,
 ⟨some 64, .mov, [.r 12], (some (63, true)), [12]⟩,
 ⟨some 65, .mov, [.r 64], (some (63, true)), [64]⟩,
 ⟨some 66, .mov, [.r 13], (some (65, false)), [13]⟩,
 ⟨some 67, .mov, [.r 66], (some (65, false)), [66]⟩,
 ⟨some 68, .mov, [.r 11], (some (67, true)), [11]⟩,
 ⟨some 69, .bin .gtr, [.r 68, .k (.int .i64 0)], (some (67, true)), [68]⟩,
 ⟨some 70, .pick, [.r 67, .r 69, .k (.bool false)], (some (65, false)), [67, 69]⟩,
 ⟨some 71, .pick, [.r 65, .k (.bool true), .r 70], (some (63, true)), [65, 70]⟩,
 ⟨some 72, .pick, [.r 63, .r 71, .k (.bool false)], (some (57, true)), [63, 71]⟩,
 ⟨some 73, .eqv false .bool, [.r 60, .r 72], (some (57, true)), [60, 72]⟩,
 ⟨some 74, .pick, [.r 57, .r 73, .k (.bool false)], none, [57, 73]⟩,
 ⟨some 75, .mov, [.r 74], none, [74]⟩,
 ⟨some 76, .call 20, [.k (.string ⟨#[]⟩)], (some (75, true)), []⟩,
 ⟨some 77, .un .not, [.r 76], (some (75, true)), [76]⟩,
 ⟨some 78, .pick, [.r 75, .r 77, .k (.bool false)], none, [75, 77]⟩,
 ⟨some 6, .mov, [.r 78], none, [78]⟩]) <|
.ret⟩
theorem c6 : cFn Tryd.prog 6 = some m6.bare := by kernel_rfl

/-- 'swingbridge/swingbridgelaw7.WordsEmpty' -/
def m7_0 : MCode := .seq (.seq (.ops [⟨some 23, .mov, [.r 10], none, []⟩,
 ⟨some 24, .mov, [.r 1], none, []⟩,
 ⟨some 25, .bin .rem, [.r 24, .k (.int .u8 20)], none, [24]⟩,
 ⟨some 26, .conv .i64, [.r 25], none, [25]⟩,
 ⟨some 27, .bin .lss, [.r 23, .r 26], none, [23, 26]⟩]) <|
 .cond (.r 27)
 (.skip)
 (.exit 2)) <|
 .seq (.block 3 (.ops [⟨some 30, .mov, [.r 8], none, [8, 27]⟩,
 ⟨some 31, .bin .add, [.r 30, .k (.string ⟨#[10]⟩)], none, [30]⟩,
 ⟨some 8, .mov, [.r 31], none, [31]⟩])) <|
 .ops [⟨some 28, .mov, [.r 10], none, [10]⟩,
 ⟨some 29, .bin .add, [.r 28, .k (.int .i64 1)], none, [28]⟩,
 ⟨some 10, .mov, [.r 29], none, [29]⟩]
def m7_1 : MCode := .seq (.seq (.ops [⟨some 14, .mov, [.r 9], none, []⟩,
 ⟨some 15, .mov, [.r 0], none, []⟩,
 ⟨some 16, .bin .rem, [.r 15, .k (.int .u8 20)], none, [15]⟩,
 ⟨some 17, .conv .i64, [.r 16], none, [16]⟩,
 ⟨some 18, .bin .lss, [.r 14, .r 17], none, [14, 17]⟩]) <|
 .cond (.r 18)
 (.skip)
 (.exit 0)) <|
 .seq (.block 1 (.ops [⟨some 21, .mov, [.r 7], none, [7, 18]⟩,
 ⟨some 22, .bin .add, [.r 21, .k (.string ⟨#[32]⟩)], none, [21]⟩,
 ⟨some 7, .mov, [.r 22], none, [22]⟩])) <|
 .ops [⟨some 19, .mov, [.r 9], none, [9]⟩,
 ⟨some 20, .bin .add, [.r 19, .k (.int .i64 1)], none, [19]⟩,
 ⟨some 9, .mov, [.r 20], none, [20]⟩]
def m7 : MFn := ⟨[.tmp 6], .seq (.ops [⟨some 6, .mov, [.k (.bool false)], none, [6]⟩]) <|
.seq (.seq (.ops [⟨some 12, .call 12, [], none, []⟩,
 ⟨some 13, .un .not, [.r 12], none, [12]⟩]) <|
.cond (.r 13)
 (.seq (.ops [⟨some 6, .mov, [.k (.bool false)], none, [0, 1, 2, 13]⟩]) <|
 .ret)
 (.skip)) <|
.seq (.ops [⟨some 7, .mov, [.k (.string ⟨#[]⟩)], none, [13]⟩,
 ⟨some 8, .mov, [.k (.string ⟨#[]⟩)], none, []⟩]) <|
.seq (.seq (.ops [⟨some 9, .mov, [.k (.int .i64 0)], none, []⟩]) <|
.block 0 (.loop m7_1)) <|
.seq (.seq (.ops [⟨some 10, .mov, [.k (.int .i64 0)], none, [0, 9, 18]⟩]) <|
.block 2 (.loop m7_0)) <|
.seq (.ops [⟨some 32, .mov, [.r 7], none, [10, 27]⟩,
 ⟨some 11, .mov, [.r 32], none, [32]⟩]) <|
.seq (.seq (.ops [⟨some 33, .mov, [.r 2], none, [2]⟩]) <|
.cond (.r 33)
 (.ops [⟨some 34, .mov, [.r 7], none, [11, 33]⟩,
 ⟨some 35, .bin .add, [.r 34, .k (.string ⟨#[35, 119, 111, 114, 100, 115, 32, 98, 101, 104, 105, 110, 100, 32, 105, 116]⟩)], none, [34]⟩,
 ⟨some 11, .mov, [.r 35], none, [35]⟩])
 (.skip)) <|
.seq (.ops [⟨some 36, .mov, [.r 11], none, [11, 33]⟩,
 ⟨some 37, .call 18, [.r 36], none, [36]⟩,
 ⟨some 38, .len, [.r 37], none, [37]⟩,
 ⟨some 39, .bin .eql, [.r 38, .k (.int .i64 0)], none, [38]⟩,
 ⟨some 40, .mov, [.r 39], none, [39]⟩,
 ⟨some 41, .mov, [.r 8], (some (40, true)), []⟩,
 ⟨some 42, .call 16, [.r 41], (some (40, true)), [41]⟩,
 ⟨some 43, .len, [.r 42], (some (40, true)), [42]⟩,
 ⟨some 44, .mov, [.r 1], (some (40, true)), []⟩,
 ⟨some 45, .bin .rem, [.r 44, .k (.int .u8 20)], (some (40, true)), [44]⟩,
 ⟨some 46, .conv .i64, [.r 45], (some (40, true)), [45]⟩,
 ⟨some 47, .bin .eql, [.r 43, .r 46], (some (40, true)), [43, 46]⟩,
 ⟨some 48, .pick, [.r 40, .r 47, .k (.bool false)], none, [40, 47]⟩,
 ⟨some 49, .mov, [.r 48], none, [48]⟩,
 ⟨some 50, .mov, [.r 8], (some (49, true)), [8]⟩,
 ⟨some 51, .bin .add, [.r 50, .k (.string ⟨#[120]⟩)], (some (49, true)), [50]⟩,
 ⟨some 52, .call 16, [.r 51], (some (49, true)), [51]⟩,
 ⟨some 53, .len, [.r 52], (some (49, true)), [52]⟩,
 ⟨some 54, .mov, [.r 1], (some (49, true)), [1]⟩,
 ⟨some 55, .bin .rem, [.r 54, .k (.int .u8 20)], (some (49, true)), [54]⟩,
 ⟨some 56, .conv .i64, [.r 55], (some (49, true)), [55]⟩,
 ⟨some 57, .bin .add, [.r 56, .k (.int .i64 1)], (some (49, true)), [56]⟩,
 ⟨some 58, .bin .eql, [.r 53, .r 57], (some (49, true)), [53, 57]⟩,
 ⟨some 59, .pick, [.r 49, .r 58, .k (.bool false)], none, [49, 58]⟩,
 ⟨some 60, .mov, [.r 59], none, [59]⟩,
 ⟨some 61, .mov, [.r 7], (some (60, true)), []⟩,
 ⟨some 62, .bin .add, [.r 61, .k (.string ⟨#[120]⟩)], (some (60, true)), [61]⟩,
 ⟨some 63, .mov, [.r 7], (some (60, true)), [7]⟩,
 ⟨some 64, .bin .add, [.r 62, .r 63], (some (60, true)), [62, 63]⟩,
 ⟨some 65, .call 18, [.r 64], (some (60, true)), [64]⟩,
 ⟨some 66, .len, [.r 65], (some (60, true)), [65]⟩,
 ⟨some 67, .bin .eql, [.r 66, .k (.int .i64 1)], (some (60, true)), [66]⟩,
 ⟨some 68, .pick, [.r 60, .r 67, .k (.bool false)], none, [60, 67]⟩,
 ⟨some 6, .mov, [.r 68], none, [68]⟩]) <|
.ret⟩
theorem c7 : cFn Tryd.prog 7 = some m7.bare := by kernel_rfl

/-- 'swingbridge/swingbridgelaw7.known' -/
def m12 : MFn := ⟨[.tmp 0], .seq (.ops [⟨some 0, .mov, [.k (.bool false)], none, [0]⟩]) <|
.seq (.ops [⟨some 6, .call 13, [.k (.string ⟨#[49, 50, 48]⟩)], none, []⟩,
 ⟨some 5, .mov, [.r 6], none, [6]⟩,
 ⟨some 7, .extract 0, [.r 5], none, []⟩,
 ⟨some 8, .extract 1, [.r 5], none, [5]⟩,
 ⟨some 1, .mov, [.r 7], none, [7]⟩,
 ⟨some 2, .mov, [.r 8], none, [8]⟩]) <|
.seq (.ops [⟨some 10, .call 13, [.k (.string ⟨#[48, 49]⟩)], none, []⟩,
 ⟨some 9, .mov, [.r 10], none, [10]⟩,
 ⟨some 11, .extract 0, [.r 9], none, []⟩,
 ⟨some 12, .extract 1, [.r 9], none, [9]⟩,
 ⟨some 3, .mov, [.r 11], none, [3, 11]⟩,
 ⟨some 4, .mov, [.r 12], none, [12]⟩]) <|
.seq (.ops [⟨some 13, .call 18, [.k (.string ⟨#[97, 32, 32, 98, 32, 35, 32, 99]⟩)], none, []⟩,
 ⟨some 14, .bslice 1 2 [.string ⟨#[]⟩] [(0, 1), (1, 1)], [.k (.string ⟨#[97]⟩), .k (.string ⟨#[98]⟩)], none, []⟩,
 ⟨some 15, .call 15, [.r 13, .r 14], none, [13, 14]⟩,
 ⟨some 16, .mov, [.r 15], none, [15]⟩,
 ⟨some 17, .call 16, [.k (.string ⟨#[120, 10, 10, 121]⟩)], (some (16, true)), []⟩,
 ⟨some 18, .bslice 1 3 [.string ⟨#[]⟩] [(0, 1), (1, 1), (2, 1)], [.k (.string ⟨#[120]⟩), .k (.string ⟨#[]⟩), .k (.string ⟨#[121]⟩)], (some (16, true)), []⟩,
 ⟨some 19, .call 15, [.r 17, .r 18], (some (16, true)), [17, 18]⟩,
 ⟨some 20, .pick, [.r 16, .r 19, .k (.bool false)], none, [16, 19]⟩,
 ⟨some 21, .mov, [.r 20], none, [20]⟩,
 ⟨some 22, .mov, [.r 2], (some (21, true)), [2]⟩,
 ⟨some 23, .pick, [.r 21, .r 22, .k (.bool false)], none, [21, 22]⟩,
 ⟨some 24, .mov, [.r 23], none, [23]⟩,
 ⟨some 25, .mov, [.r 1], (some (24, true)), [1]⟩,
 ⟨some 26, .bin .eql, [.r 25, .k (.int .i64 120)], (some (24, true)), [25]⟩,
 ⟨some 27, .pick, [.r 24, .r 26, .k (.bool false)], none, [24, 26]⟩,
 ⟨some 28, .mov, [.r 27], none, [27]⟩,
 ⟨some 29, .mov, [.r 4], (some (28, true)), [4]⟩,
 ⟨some 30, .un .not, [.r 29], (some (28, true)), [29]⟩,
 ⟨some 31, .pick, [.r 28, .r 30, .k (.bool false)], none, [28, 30]⟩,
 ⟨some 32, .mov, [.r 31], none, [31]⟩,
 ⟨some 33, .call 20, [.k (.string ⟨#[97, 49]⟩)], (some (32, true)), []⟩,
 ⟨some 34, .pick, [.r 32, .r 33, .k (.bool false)], none, [32, 33]⟩,
 ⟨some 35, .mov, [.r 34], none, [34]⟩,
 ⟨some 36, .call 20, [.k (.string ⟨#[49, 97]⟩)], (some (35, true)), []⟩,
 ⟨some 37, .un .not, [.r 36], (some (35, true)), [36]⟩,
 ⟨some 38, .pick, [.r 35, .r 37, .k (.bool false)], none, [35, 37]⟩,
 ⟨some 39, .mov, [.r 38], none, [38]⟩,
 ⟨some 40, .call 22, [.k (.int .i64 120)], (some (39, true)), []⟩,
 ⟨some 41, .bin .eql, [.r 40, .k (.string ⟨#[49, 50, 48]⟩)], (some (39, true)), [40]⟩,
 ⟨some 42, .pick, [.r 39, .r 41, .k (.bool false)], none, [39, 41]⟩,
 ⟨some 43, .mov, [.r 42], none, [42]⟩,
 ⟨some 44, .call 22, [.k (.int .i64 (-1))], (some (43, true)), []⟩,
 ⟨some 45, .bin .eql, [.r 44, .k (.string ⟨#[]⟩)], (some (43, true)), [44]⟩,
 ⟨some 46, .pick, [.r 43, .r 45, .k (.bool false)], none, [43, 45]⟩,
 ⟨some 0, .mov, [.r 46], none, [46]⟩]) <|
.ret⟩
theorem c12 : cFn Tryd.prog 12 = some m12.bare := by kernel_rfl

/-- 'swingbridge/words.Num' -/
def m13 : MFn := ⟨[.tmp 2, .tmp 3], .seq (.ops [⟨some 2, .mov, [.k (.int .i64 0)], none, [2]⟩,
 ⟨some 3, .mov, [.k (.bool false)], none, [3]⟩]) <|
.seq (.ops [⟨some 7, .mov, [.r 0], none, []⟩,
 ⟨some 8, .call 30, [.r 7], none, [7]⟩,
 ⟨some 6, .mov, [.r 8], none, [8]⟩,
 ⟨some 9, .extract 0, [.r 6], none, []⟩,
 ⟨some 10, .extract 1, [.r 6], none, [6]⟩,
 ⟨some 4, .mov, [.r 9], none, [9]⟩,
 ⟨some 5, .mov, [.r 10], none, [10]⟩]) <|
.seq (.seq (.ops [⟨some 11, .mov, [.r 5], none, [5]⟩,
 ⟨some 12, .eqv true .ifc, [.r 11, .k (.nilIface)], none, [11]⟩,
 ⟨some 13, .mov, [.r 12], none, [12]⟩,
 ⟨some 14, .mov, [.r 0], (some (13, false)), []⟩,
 ⟨some 15, .lens, [.r 14], (some (13, false)), [14]⟩,
 ⟨some 16, .bin .gtr, [.r 15, .k (.int .i64 7)], (some (13, false)), [15]⟩,
 ⟨some 17, .pick, [.r 13, .k (.bool true), .r 16], none, [13, 16]⟩,
 ⟨some 18, .mov, [.r 17], none, [17]⟩,
 ⟨some 19, .mov, [.r 4], (some (18, false)), []⟩,
 ⟨some 20, .bin .lss, [.r 19, .k (.int .i64 0)], (some (18, false)), [19]⟩,
 ⟨some 21, .pick, [.r 18, .k (.bool true), .r 20], none, [18, 20]⟩,
 ⟨some 22, .mov, [.r 21], none, [21]⟩,
 ⟨some 23, .mov, [.r 4], (some (22, false)), []⟩,
 ⟨some 24, .call 31, [.r 23], (some (22, false)), [23]⟩,
 ⟨some 25, .mov, [.r 0], (some (22, false)), [0]⟩,
 ⟨some 26, .bin .neq, [.r 24, .r 25], (some (22, false)), [24, 25]⟩,
 ⟨some 27, .pick, [.r 22, .k (.bool true), .r 26], none, [22, 26]⟩]) <|
.cond (.r 27)
 (.seq (.ops [⟨some 2, .mov, [.k (.int .i64 0)], none, [4, 27]⟩,
 ⟨some 3, .mov, [.k (.bool false)], none, []⟩]) <|
 .ret)
 (.skip)) <|
.seq (.ops [⟨some 28, .mov, [.r 4], none, [4, 27]⟩,
 ⟨some 2, .mov, [.r 28], none, [28]⟩,
 ⟨some 3, .mov, [.k (.bool true)], none, []⟩]) <|
.ret⟩
theorem c13 : cFn Tryd.prog 13 = some m13.bare := by kernel_rfl

/-- 'swingbridge/swingbridgeref7.Num' -/
def m14_0 : MCode := .seq (.seq (.ops [⟨some 24, .mov, [.r 5], none, []⟩,
 ⟨some 25, .mov, [.r 0], none, []⟩,
 ⟨some 26, .lens, [.r 25], none, [25]⟩,
 ⟨some 27, .bin .lss, [.r 24, .r 26], none, [24, 26]⟩]) <|
 .cond (.r 27)
 (.skip)
 (.exit 0)) <|
 .seq (.block 1 (.seq (.seq (.ops [⟨some 30, .mov, [.r 0], none, [27]⟩,
 ⟨some 31, .mov, [.r 5], none, []⟩,
 ⟨some 32, .idxs, [.r 30, .r 31], none, [30, 31]⟩,
 ⟨some 33, .bin .lss, [.r 32, .k (.int .u8 48)], none, [32]⟩,
 ⟨some 34, .mov, [.r 33], none, [33]⟩,
 ⟨some 35, .mov, [.r 0], (some (34, false)), []⟩,
 ⟨some 36, .mov, [.r 5], (some (34, false)), []⟩,
 ⟨some 37, .idxs, [.r 35, .r 36], (some (34, false)), [35, 36]⟩,
 ⟨some 38, .bin .gtr, [.r 37, .k (.int .u8 57)], (some (34, false)), [37]⟩,
 ⟨some 39, .pick, [.r 34, .k (.bool true), .r 38], none, [34, 38]⟩]) <|
 .cond (.r 39)
 (.seq (.ops [⟨some 2, .mov, [.k (.int .i64 0)], none, [0, 4, 5, 39]⟩,
 ⟨some 3, .mov, [.k (.bool false)], none, []⟩]) <|
 .ret)
 (.skip)) <|
 .ops [⟨some 40, .mov, [.r 4], none, [4, 39]⟩,
 ⟨some 41, .bin .mul, [.k (.int .i64 10), .r 40], none, [40]⟩,
 ⟨some 42, .mov, [.r 0], none, []⟩,
 ⟨some 43, .mov, [.r 5], none, []⟩,
 ⟨some 44, .idxs, [.r 42, .r 43], none, [42, 43]⟩,
 ⟨some 45, .bin .sub, [.r 44, .k (.int .u8 48)], none, [44]⟩,
 ⟨some 46, .conv .i64, [.r 45], none, [45]⟩,
 ⟨some 47, .bin .add, [.r 41, .r 46], none, [41, 46]⟩,
 ⟨some 4, .mov, [.r 47], none, [47]⟩])) <|
 .ops [⟨some 28, .mov, [.r 5], none, [5]⟩,
 ⟨some 29, .bin .add, [.r 28, .k (.int .i64 1)], none, [28]⟩,
 ⟨some 5, .mov, [.r 29], none, [29]⟩]
def m14 : MFn := ⟨[.tmp 2, .tmp 3], .seq (.ops [⟨some 2, .mov, [.k (.int .i64 0)], none, [2]⟩,
 ⟨some 3, .mov, [.k (.bool false)], none, [3]⟩]) <|
.seq (.seq (.ops [⟨some 6, .mov, [.r 0], none, []⟩,
 ⟨some 7, .lens, [.r 6], none, [6]⟩,
 ⟨some 8, .bin .lss, [.r 7, .k (.int .i64 1)], none, [7]⟩,
 ⟨some 9, .mov, [.r 8], none, [8]⟩,
 ⟨some 10, .mov, [.r 0], (some (9, false)), []⟩,
 ⟨some 11, .lens, [.r 10], (some (9, false)), [10]⟩,
 ⟨some 12, .bin .gtr, [.r 11, .k (.int .i64 7)], (some (9, false)), [11]⟩,
 ⟨some 13, .pick, [.r 9, .k (.bool true), .r 12], none, [9, 12]⟩,
 ⟨some 14, .mov, [.r 13], none, [13]⟩,
 ⟨some 15, .mov, [.r 0], (some (14, false)), []⟩,
 ⟨some 16, .idxs, [.r 15, .k (.int .i64 0)], (some (14, false)), [15]⟩,
 ⟨some 17, .bin .eql, [.r 16, .k (.int .u8 48)], (some (14, false)), [16]⟩,
 ⟨some 18, .mov, [.r 17], (some (14, false)), [17]⟩,
 ⟨some 19, .mov, [.r 0], (some (18, true)), []⟩,
 ⟨some 20, .lens, [.r 19], (some (18, true)), [19]⟩,
 ⟨some 21, .bin .gtr, [.r 20, .k (.int .i64 1)], (some (18, true)), [20]⟩,
 ⟨some 22, .pick, [.r 18, .r 21, .k (.bool false)], (some (14, false)), [18, 21]⟩,
 ⟨some 23, .pick, [.r 14, .k (.bool true), .r 22], none, [14, 22]⟩]) <|
.cond (.r 23)
 (.seq (.ops [⟨some 2, .mov, [.k (.int .i64 0)], none, [0, 23]⟩,
 ⟨some 3, .mov, [.k (.bool false)], none, []⟩]) <|
 .ret)
 (.skip)) <|
.seq (.ops [⟨some 4, .mov, [.k (.int .i64 0)], none, [23]⟩]) <|
.seq (.seq (.ops [⟨some 5, .mov, [.k (.int .i64 0)], none, []⟩]) <|
.block 0 (.loop m14_0)) <|
.seq (.ops [⟨some 48, .mov, [.r 4], none, [0, 4, 5, 27]⟩,
 ⟨some 2, .mov, [.r 48], none, [48]⟩,
 ⟨some 3, .mov, [.k (.bool true)], none, []⟩]) <|
.ret⟩
theorem c14 : cFn Tryd.prog 14 = some m14.bare := by kernel_rfl

/-- 'swingbridge/swingbridgelaw7.same' -/
def m15_0 : MCode := .seq (.seq (.ops [⟨some 11, .mov, [.r 5], none, []⟩,
 ⟨some 12, .mov, [.r 0], none, []⟩,
 ⟨some 13, .len, [.r 12], none, [12]⟩,
 ⟨some 14, .bin .lss, [.r 11, .r 13], none, [11, 13]⟩]) <|
 .cond (.r 14)
 (.skip)
 (.exit 0)) <|
 .seq (.block 1 (.seq (.draw [⟨some 17, .mov, [.r 0], none, [14]⟩,
 ⟨some 18, .mov, [.r 5], none, []⟩,
 ⟨some 19, .ia 1, [.r 17, .r 18], none, [17, 18]⟩,
 ⟨some 20, .ld none, [.r 19], none, [19]⟩,
 ⟨some 21, .mov, [.r 1], none, []⟩,
 ⟨some 22, .mov, [.r 5], none, []⟩,
 ⟨some 23, .ia 1, [.r 21, .r 22], none, [21, 22]⟩,
 ⟨some 24, .ld none, [.r 23], none, [23]⟩,
 ⟨some 25, .bin .neq, [.r 20, .r 24], none, [20, 24]⟩] []) <|
 .cond (.r 25)
 (.seq (.ops [⟨some 4, .mov, [.k (.bool false)], none, [0, 1, 5, 25]⟩]) <|
 .ret)
 (.skip))) <|
 .ops [⟨some 15, .mov, [.r 5], none, [5, 25]⟩,
 ⟨some 16, .bin .add, [.r 15, .k (.int .i64 1)], none, [15]⟩,
 ⟨some 5, .mov, [.r 16], none, [16]⟩]
def m15 : MFn := ⟨[.tmp 4], .seq (.ops [⟨some 4, .mov, [.k (.bool false)], none, [4]⟩]) <|
.seq (.seq (.ops [⟨some 6, .mov, [.r 0], none, []⟩,
 ⟨some 7, .len, [.r 6], none, [6]⟩,
 ⟨some 8, .mov, [.r 1], none, []⟩,
 ⟨some 9, .len, [.r 8], none, [8]⟩,
 ⟨some 10, .bin .neq, [.r 7, .r 9], none, [7, 9]⟩]) <|
.cond (.r 10)
 (.seq (.ops [⟨some 4, .mov, [.k (.bool false)], none, [0, 1, 10]⟩]) <|
 .ret)
 (.skip)) <|
.seq (.seq (.ops [⟨some 5, .mov, [.k (.int .i64 0)], none, [10]⟩]) <|
.block 0 (.loop m15_0)) <|
.seq (.ops [⟨some 4, .mov, [.k (.bool true)], none, [0, 1, 5, 14]⟩]) <|
.ret⟩
theorem c15 : cFn Tryd.prog 15 = some m15.bare := by kernel_rfl

/-- 'swingbridge/words.Lines' -/
def m16 : MFn := ⟨[.tmp 2], .seq (.ops [⟨some 2, .mov, [.k (.slice none 0 0)], none, [2]⟩]) <|
.seq (.ops [⟨some 4, .mov, [.r 0], none, [0]⟩,
 ⟨some 5, .call 32, [.r 4, .k (.string ⟨#[10]⟩)], none, [4]⟩,
 ⟨some 3, .mov, [.r 5], none, [5]⟩]) <|
.seq (.seq (.ops [⟨some 6, .mov, [.r 3], none, []⟩,
 ⟨some 7, .mov, [.r 3], none, []⟩,
 ⟨some 8, .len, [.r 7], none, [7]⟩,
 ⟨some 9, .bin .sub, [.r 8, .k (.int .i64 1)], none, [8]⟩,
 ⟨some 10, .ia 1, [.r 6, .r 9], none, [6, 9]⟩,
 ⟨some 11, .ld none, [.r 10], none, [10]⟩,
 ⟨some 12, .bin .eql, [.r 11, .k (.string ⟨#[]⟩)], none, [11]⟩]) <|
.cond (.r 12)
 (.ops [⟨some 13, .mov, [.r 3], none, [12]⟩,
 ⟨some 14, .mov, [.r 3], none, [3]⟩,
 ⟨some 15, .len, [.r 14], none, [14]⟩,
 ⟨some 16, .bin .sub, [.r 15, .k (.int .i64 1)], none, [15]⟩,
 ⟨some 17, .sl 1 false true false, [.r 13, .r 16], none, [13, 16]⟩,
 ⟨some 3, .mov, [.r 17], none, [17]⟩])
 (.skip)) <|
.seq (.ops [⟨some 18, .mov, [.r 3], none, [3, 12]⟩,
 ⟨some 2, .mov, [.r 18], none, [18]⟩]) <|
.ret⟩
theorem c16 : cFn Tryd.prog 16 = some m16.bare := by kernel_rfl

/-- 'swingbridge/swingbridgeref7.Lines' -/
def m17 : MFn := ⟨[.tmp 2], .seq (.ops [⟨some 2, .mov, [.k (.slice none 0 0)], none, [2]⟩]) <|
.seq (.ops [⟨some 3, .mov, [.r 0], none, [0]⟩,
 ⟨some 4, .call 33, [.r 3, .k (.int .u8 10)], none, [3]⟩,
 ⟨some 2, .mov, [.r 4], none, [4]⟩]) <|
.ret⟩
theorem c17 : cFn Tryd.prog 17 = some m17.bare := by kernel_rfl

/-- 'swingbridge/words.Words' -/
def m18_0 : MCode := .seq (.ops [⟨some 16, .bin .lss, [.r 15, .r 14], none, []⟩]) <|
 .seq (.cond (.r 16)
 (.skip)
 (.exit 0)) <|
 .seq (.block 1 (.seq (.ops [⟨some 17, .ia 1, [.r 13, .r 15], none, [16]⟩,
 ⟨some 18, .ld none, [.r 17], none, [17]⟩,
 ⟨some 5, .mov, [.r 18], none, [18]⟩]) <|
 .seq (.seq (.ops [⟨some 19, .mov, [.r 5], none, []⟩,
 ⟨some 20, .bin .eql, [.r 19, .k (.string ⟨#[]⟩)], none, [19]⟩]) <|
 .cond (.r 20)
 (.exit 1)
 (.skip)) <|
 .ops [⟨some 21, .mov, [.r 3], none, [3, 20]⟩,
 ⟨some 22, .mov, [.r 5], none, [5]⟩,
 ⟨some 23, .bslice 1 1 [.string ⟨#[]⟩] [(0, 1)], [.r 22], none, [22]⟩,
 ⟨some 24, .app 1 16, [.r 21, .r 23], none, [21, 23]⟩,
 ⟨some 3, .mov, [.r 24], none, [24]⟩])) <|
 .ops [⟨some 25, .bin .add, [.r 15, .k (.int .i64 1)], none, [5, 15, 20]⟩,
 ⟨some 15, .mov, [.r 25], none, [25]⟩]
def m18 : MFn := ⟨[.tmp 2], .seq (.ops [⟨some 2, .mov, [.k (.slice none 0 0)], none, [2]⟩]) <|
.seq (.ops [⟨some 7, .mov, [.r 0], none, [0]⟩,
 ⟨some 8, .call 34, [.r 7, .k (.string ⟨#[35]⟩)], none, [7]⟩,
 ⟨some 6, .mov, [.r 8], none, [8]⟩,
 ⟨some 9, .extract 0, [.r 6], none, []⟩,
 ⟨some 10, .extract 1, [.r 6], none, [10]⟩,
 ⟨some 11, .extract 2, [.r 6], none, [6, 11]⟩,
 ⟨some 0, .mov, [.r 9], none, [9]⟩]) <|
.seq (.ops [⟨some 3, .mov, [.k (.slice none 0 0)], none, []⟩]) <|
.seq (.skip) <|
.seq (.seq (.ops [⟨some 12, .mov, [.r 0], none, [0]⟩,
 ⟨some 13, .call 32, [.r 12, .k (.string ⟨#[32]⟩)], none, [12]⟩,
 ⟨some 14, .len, [.r 13], none, []⟩,
 ⟨some 15, .mov, [.k (.int .i64 0)], none, []⟩]) <|
.block 0 (.loop m18_0)) <|
.seq (.ops [⟨some 26, .mov, [.r 3], none, [3, 13, 14, 15, 16]⟩,
 ⟨some 2, .mov, [.r 26], none, [26]⟩]) <|
.ret⟩
theorem c18 : cFn Tryd.prog 18 = some m18.bare := by kernel_rfl

/-- 'swingbridge/swingbridgeref7.Words' -/
def m19_0 : MCode := .seq (.seq (.ops [⟨some 23, .mov, [.r 6], none, []⟩,
 ⟨some 24, .mov, [.r 4], none, []⟩,
 ⟨some 25, .len, [.r 24], none, [24]⟩,
 ⟨some 26, .bin .lss, [.r 23, .r 25], none, [23, 25]⟩]) <|
 .cond (.r 26)
 (.skip)
 (.exit 2)) <|
 .seq (.block 3 (.seq (.ops [⟨some 29, .mov, [.r 4], none, [26]⟩,
 ⟨some 30, .mov, [.r 6], none, []⟩,
 ⟨some 31, .ia 1, [.r 29, .r 30], none, [29, 30]⟩,
 ⟨some 32, .ld none, [.r 31], none, [31]⟩,
 ⟨some 33, .bin .neq, [.r 32, .k (.string ⟨#[]⟩)], none, [32]⟩]) <|
 .cond (.r 33)
 (.ops [⟨some 34, .mov, [.r 5], none, [5, 33]⟩,
 ⟨some 35, .mov, [.r 4], none, []⟩,
 ⟨some 36, .mov, [.r 6], none, []⟩,
 ⟨some 37, .ia 1, [.r 35, .r 36], none, [35, 36]⟩,
 ⟨some 38, .ld none, [.r 37], none, [37]⟩,
 ⟨some 39, .bslice 1 1 [.string ⟨#[]⟩] [(0, 1)], [.r 38], none, [38]⟩,
 ⟨some 40, .app 1 16, [.r 34, .r 39], none, [34, 39]⟩,
 ⟨some 5, .mov, [.r 40], none, [40]⟩])
 (.skip))) <|
 .ops [⟨some 27, .mov, [.r 6], none, [6, 33]⟩,
 ⟨some 28, .bin .add, [.r 27, .k (.int .i64 1)], none, [27]⟩,
 ⟨some 6, .mov, [.r 28], none, [28]⟩]
def m19_1 : MCode := .seq (.seq (.ops [⟨some 7, .mov, [.r 3], none, []⟩,
 ⟨some 8, .mov, [.r 0], none, []⟩,
 ⟨some 9, .lens, [.r 8], none, [8]⟩,
 ⟨some 10, .bin .lss, [.r 7, .r 9], none, [7, 9]⟩,
 ⟨some 11, .mov, [.r 10], none, [10]⟩,
 ⟨some 12, .mov, [.r 0], (some (11, true)), []⟩,
 ⟨some 13, .mov, [.r 3], (some (11, true)), []⟩,
 ⟨some 14, .idxs, [.r 12, .r 13], (some (11, true)), [12, 13]⟩,
 ⟨some 15, .bin .neq, [.r 14, .k (.int .u8 35)], (some (11, true)), [14]⟩,
 ⟨some 16, .pick, [.r 11, .r 15, .k (.bool false)], none, [11, 15]⟩]) <|
 .cond (.r 16)
 (.skip)
 (.exit 0)) <|
 .block 1 (.ops [⟨some 17, .mov, [.r 3], none, [3, 16]⟩,
 ⟨some 18, .bin .add, [.r 17, .k (.int .i64 1)], none, [17]⟩,
 ⟨some 3, .mov, [.r 18], none, [18]⟩])
def m19 : MFn := ⟨[.tmp 2], .seq (.ops [⟨some 2, .mov, [.k (.slice none 0 0)], none, [2]⟩]) <|
.seq (.ops [⟨some 3, .mov, [.k (.int .i64 0)], none, []⟩]) <|
.seq (.block 0 (.loop m19_1)) <|
.seq (.ops [⟨some 19, .mov, [.r 0], none, [0, 16]⟩,
 ⟨some 20, .mov, [.r 3], none, [3]⟩,
 ⟨some 21, .slstr false true, [.r 19, .r 20], none, [19, 20]⟩,
 ⟨some 22, .call 33, [.r 21, .k (.int .u8 32)], none, [21]⟩,
 ⟨some 4, .mov, [.r 22], none, [22]⟩]) <|
.seq (.ops [⟨some 5, .mov, [.k (.slice none 0 0)], none, []⟩]) <|
.seq (.seq (.ops [⟨some 6, .mov, [.k (.int .i64 0)], none, []⟩]) <|
.block 2 (.loop m19_0)) <|
.seq (.ops [⟨some 41, .mov, [.r 5], none, [4, 5, 6, 26]⟩,
 ⟨some 2, .mov, [.r 41], none, [41]⟩]) <|
.ret⟩
theorem c19 : cFn Tryd.prog 19 = some m19.bare := by kernel_rfl

/-- 'swingbridge/words.Name' -/
def m20_0 : MCode := .seq (.ops [⟨some 9, .bin .lss, [.r 8, .r 7], none, []⟩]) <|
 .seq (.cond (.r 9)
 (.skip)
 (.exit 0)) <|
 .seq (.block 1 (.seq (.ops [⟨some 10, .mov, [.r 8], none, [9]⟩,
 ⟨some 3, .mov, [.r 10], none, [10]⟩]) <|
 .seq (.ops [⟨some 11, .mov, [.r 0], none, []⟩,
 ⟨some 12, .mov, [.r 3], none, []⟩,
 ⟨some 13, .idxs, [.r 11, .r 12], none, [11, 12]⟩,
 ⟨some 4, .mov, [.r 13], none, [13]⟩]) <|
 .seq (.ops [⟨some 14, .mov, [.r 4], none, []⟩,
 ⟨some 15, .bin .geq, [.r 14, .k (.int .u8 48)], none, [14]⟩,
 ⟨some 16, .mov, [.r 15], none, [15]⟩,
 ⟨some 17, .mov, [.r 4], (some (16, true)), []⟩,
 ⟨some 18, .bin .leq, [.r 17, .k (.int .u8 57)], (some (16, true)), [17]⟩,
 ⟨some 19, .pick, [.r 16, .r 18, .k (.bool false)], none, [16, 18]⟩,
 ⟨some 5, .mov, [.r 19], none, [19]⟩]) <|
 .seq (.ops [⟨some 20, .mov, [.r 4], none, []⟩,
 ⟨some 21, .bin .lss, [.r 20, .k (.int .u8 97)], none, [20]⟩,
 ⟨some 22, .mov, [.r 21], none, [21]⟩,
 ⟨some 23, .mov, [.r 4], (some (22, false)), [4]⟩,
 ⟨some 24, .bin .gtr, [.r 23, .k (.int .u8 122)], (some (22, false)), [23]⟩,
 ⟨some 25, .pick, [.r 22, .k (.bool true), .r 24], none, [22, 24]⟩,
 ⟨some 26, .mov, [.r 25], none, [25]⟩,
 ⟨some 27, .mov, [.r 3], (some (26, true)), [3]⟩,
 ⟨some 28, .bin .eql, [.r 27, .k (.int .i64 0)], (some (26, true)), [27]⟩,
 ⟨some 29, .mov, [.r 28], (some (26, true)), [28]⟩,
 ⟨some 30, .mov, [.r 5], (some (29, false)), [5]⟩,
 ⟨some 31, .un .not, [.r 30], (some (29, false)), [30]⟩,
 ⟨some 32, .pick, [.r 29, .k (.bool true), .r 31], (some (26, true)), [29, 31]⟩,
 ⟨some 33, .pick, [.r 26, .r 32, .k (.bool false)], none, [26, 32]⟩]) <|
 .cond (.r 33)
 (.seq (.ops [⟨some 2, .mov, [.k (.bool false)], none, [0, 7, 8, 33]⟩]) <|
 .ret)
 (.skip))) <|
 .ops [⟨some 34, .bin .add, [.r 8, .k (.int .i64 1)], none, [8, 33]⟩,
 ⟨some 8, .mov, [.r 34], none, [34]⟩]
def m20 : MFn := ⟨[.tmp 2], .seq (.ops [⟨some 2, .mov, [.k (.bool false)], none, [2]⟩]) <|
.seq (.seq (.ops [⟨some 6, .mov, [.r 0], none, []⟩,
 ⟨some 7, .lens, [.r 6], none, [6]⟩,
 ⟨some 8, .mov, [.k (.int .i64 0)], none, []⟩]) <|
.block 0 (.loop m20_0)) <|
.seq (.ops [⟨some 35, .mov, [.r 0], none, [7, 8, 9]⟩,
 ⟨some 36, .bin .neq, [.r 35, .k (.string ⟨#[]⟩)], none, [35]⟩,
 ⟨some 37, .mov, [.r 36], none, [36]⟩,
 ⟨some 38, .mov, [.r 0], (some (37, true)), [0]⟩,
 ⟨some 39, .lens, [.r 38], (some (37, true)), [38]⟩,
 ⟨some 40, .bin .leq, [.r 39, .k (.int .i64 8)], (some (37, true)), [39]⟩,
 ⟨some 41, .pick, [.r 37, .r 40, .k (.bool false)], none, [37, 40]⟩,
 ⟨some 2, .mov, [.r 41], none, [41]⟩]) <|
.ret⟩
theorem c20 : cFn Tryd.prog 20 = some m20.bare := by kernel_rfl

/-- 'swingbridge/swingbridgeref7.Name' -/
def m21_0 : MCode := .seq (.seq (.ops [⟨some 5, .mov, [.r 3], none, []⟩,
 ⟨some 6, .mov, [.r 0], none, []⟩,
 ⟨some 7, .lens, [.r 6], none, [6]⟩,
 ⟨some 8, .bin .lss, [.r 5, .r 7], none, [5, 7]⟩]) <|
 .cond (.r 8)
 (.skip)
 (.exit 0)) <|
 .seq (.block 1 (.seq (.ops [⟨some 11, .mov, [.r 0], none, [8]⟩,
 ⟨some 12, .mov, [.r 3], none, []⟩,
 ⟨some 13, .idxs, [.r 11, .r 12], none, [11, 12]⟩,
 ⟨some 4, .mov, [.r 13], none, [13]⟩]) <|
 .seq (.ops [⟨some 14, .mov, [.r 4], none, []⟩,
 ⟨some 15, .bin .lss, [.r 14, .k (.int .u8 97)], none, [14]⟩,
 ⟨some 16, .mov, [.r 15], none, [15]⟩,
 ⟨some 17, .mov, [.r 4], (some (16, false)), []⟩,
 ⟨some 18, .bin .gtr, [.r 17, .k (.int .u8 122)], (some (16, false)), [17]⟩,
 ⟨some 19, .pick, [.r 16, .k (.bool true), .r 18], none, [16, 18]⟩,
 ⟨some 20, .mov, [.r 19], none, [19]⟩,
 ⟨some 21, .mov, [.r 4], (some (20, true)), []⟩,
 ⟨some 22, .bin .lss, [.r 21, .k (.int .u8 48)], (some (20, true)), [21]⟩,
 ⟨some 23, .mov, [.r 22], (some (20, true)), [22]⟩,
 ⟨some 24, .mov, [.r 4], (some (23, false)), [4]⟩,
 ⟨some 25, .bin .gtr, [.r 24, .k (.int .u8 57)], (some (23, false)), [24]⟩,
 ⟨some 26, .pick, [.r 23, .k (.bool true), .r 25], (some (20, true)), [23, 25]⟩,
 ⟨some 27, .mov, [.r 26], (some (20, true)), [26]⟩,
 ⟨some 28, .mov, [.r 3], (some (27, false)), []⟩,
 ⟨some 29, .bin .eql, [.r 28, .k (.int .i64 0)], (some (27, false)), [28]⟩,
 ⟨some 30, .pick, [.r 27, .k (.bool true), .r 29], (some (20, true)), [27, 29]⟩,
 ⟨some 31, .pick, [.r 20, .r 30, .k (.bool false)], none, [20, 30]⟩]) <|
 .cond (.r 31)
 (.seq (.ops [⟨some 2, .mov, [.k (.bool false)], none, [0, 3, 31]⟩]) <|
 .ret)
 (.skip))) <|
 .ops [⟨some 9, .mov, [.r 3], none, [3, 31]⟩,
 ⟨some 10, .bin .add, [.r 9, .k (.int .i64 1)], none, [9]⟩,
 ⟨some 3, .mov, [.r 10], none, [10]⟩]
def m21 : MFn := ⟨[.tmp 2], .seq (.ops [⟨some 2, .mov, [.k (.bool false)], none, [2]⟩]) <|
.seq (.seq (.ops [⟨some 3, .mov, [.k (.int .i64 0)], none, []⟩]) <|
.block 0 (.loop m21_0)) <|
.seq (.ops [⟨some 32, .mov, [.r 0], none, [3, 8]⟩,
 ⟨some 33, .lens, [.r 32], none, [32]⟩,
 ⟨some 34, .bin .geq, [.r 33, .k (.int .i64 1)], none, [33]⟩,
 ⟨some 35, .mov, [.r 34], none, [34]⟩,
 ⟨some 36, .mov, [.r 0], (some (35, true)), [0]⟩,
 ⟨some 37, .lens, [.r 36], (some (35, true)), [36]⟩,
 ⟨some 38, .bin .leq, [.r 37, .k (.int .i64 8)], (some (35, true)), [37]⟩,
 ⟨some 39, .pick, [.r 35, .r 38, .k (.bool false)], none, [35, 38]⟩,
 ⟨some 2, .mov, [.r 39], none, [39]⟩]) <|
.ret⟩
theorem c21 : cFn Tryd.prog 21 = some m21.bare := by kernel_rfl

/-- 'swingbridge/words.Text' -/
def m22 : MFn := ⟨[.tmp 2], .seq (.ops [⟨some 2, .mov, [.k (.string ⟨#[]⟩)], none, [2]⟩]) <|
.seq (.seq (.ops [⟨some 3, .mov, [.r 0], none, []⟩,
 ⟨some 4, .bin .lss, [.r 3, .k (.int .i64 0)], none, [3]⟩,
 ⟨some 5, .mov, [.r 4], none, [4]⟩,
 ⟨some 6, .mov, [.r 0], (some (5, false)), []⟩,
 ⟨some 7, .bin .gtr, [.r 6, .k (.int .i64 9999999)], (some (5, false)), [6]⟩,
 ⟨some 8, .pick, [.r 5, .k (.bool true), .r 7], none, [5, 7]⟩]) <|
.cond (.r 8)
 (.seq (.ops [⟨some 2, .mov, [.k (.string ⟨#[]⟩)], none, [0, 8]⟩]) <|
 .ret)
 (.skip)) <|
.seq (.ops [⟨some 9, .mov, [.r 0], none, [0, 8]⟩,
 ⟨some 10, .call 31, [.r 9], none, [9]⟩,
 ⟨some 2, .mov, [.r 10], none, [10]⟩]) <|
.ret⟩
theorem c22 : cFn Tryd.prog 22 = some m22.bare := by kernel_rfl

/-- 'swingbridge/swingbridgeref7.Text' -/
def m23 : MFn := ⟨[.tmp 2], .seq (.ops [⟨some 2, .mov, [.k (.string ⟨#[]⟩)], none, [2]⟩]) <|
.seq (.seq (.ops [⟨some 3, .mov, [.r 0], none, []⟩,
 ⟨some 4, .bin .lss, [.r 3, .k (.int .i64 0)], none, [3]⟩,
 ⟨some 5, .mov, [.r 4], none, [4]⟩,
 ⟨some 6, .mov, [.r 0], (some (5, false)), []⟩,
 ⟨some 7, .bin .gtr, [.r 6, .k (.int .i64 9999999)], (some (5, false)), [6]⟩,
 ⟨some 8, .pick, [.r 5, .k (.bool true), .r 7], none, [5, 7]⟩]) <|
.cond (.r 8)
 (.seq (.ops [⟨some 2, .mov, [.k (.string ⟨#[]⟩)], none, [0, 8]⟩]) <|
 .ret)
 (.skip)) <|
.seq (.seq (.ops [⟨some 9, .mov, [.r 0], none, [8]⟩,
 ⟨some 10, .bin .lss, [.r 9, .k (.int .i64 10)], none, [9]⟩]) <|
.cond (.r 10)
 (.seq (.ops [⟨some 11, .mov, [.r 0], none, [0, 10]⟩,
 ⟨some 12, .bin .add, [.k (.int .i64 48), .r 11], none, [11]⟩,
 ⟨some 13, .conv .u8, [.r 12], none, [12]⟩,
 ⟨some 14, .bslice 1 1 [.int .u8 0] [(0, 1)], [.r 13], none, [13]⟩,
 ⟨some 15, .strb, [.r 14], none, [14]⟩,
 ⟨some 2, .mov, [.r 15], none, [15]⟩]) <|
 .ret)
 (.skip)) <|
.seq (.draw [⟨some 16, .mov, [.r 0], none, [10]⟩,
 ⟨some 17, .bin .quo, [.r 16, .k (.int .i64 10)], none, [16]⟩,
 ⟨some 18, .call 23, [.r 17], none, [17]⟩,
 ⟨some 19, .mov, [.r 0], none, [0]⟩,
 ⟨some 20, .bin .rem, [.r 19, .k (.int .i64 10)], none, [19]⟩,
 ⟨some 21, .bin .add, [.k (.int .i64 48), .r 20], none, [20]⟩,
 ⟨some 22, .conv .u8, [.r 21], none, [21]⟩,
 ⟨some 23, .bslice 1 1 [.int .u8 0] [(0, 1)], [.r 22], none, [22]⟩,
 ⟨some 24, .strb, [.r 23], none, [23]⟩,
 ⟨some 25, .bin .add, [.r 18, .r 24], none, [18, 24]⟩,
 ⟨some 2, .mov, [.r 25], none, [25]⟩] [(7, 2), (8, 2)]) <|
.ret⟩
theorem c23 : cFn Tryd.prog 23 = some m23.bare := by kernel_rfl

/-- 'swingbridge/swingbridgeref7.cut' -/
def m33_0 : MCode := .seq (.seq (.ops [⟨some 8, .mov, [.r 7], none, []⟩,
 ⟨some 9, .mov, [.r 0], none, []⟩,
 ⟨some 10, .lens, [.r 9], none, [9]⟩,
 ⟨some 11, .bin .lss, [.r 8, .r 10], none, [8, 10]⟩]) <|
 .cond (.r 11)
 (.skip)
 (.exit 0)) <|
 .seq (.block 1 (.seq (.ops [⟨some 14, .mov, [.r 0], none, [11]⟩,
 ⟨some 15, .mov, [.r 7], none, []⟩,
 ⟨some 16, .idxs, [.r 14, .r 15], none, [14, 15]⟩,
 ⟨some 17, .mov, [.r 1], none, []⟩,
 ⟨some 18, .bin .eql, [.r 16, .r 17], none, [16, 17]⟩]) <|
 .cond (.r 18)
 (.seq (.ops [⟨some 19, .mov, [.r 5], none, [5, 18]⟩,
 ⟨some 20, .mov, [.r 0], none, []⟩,
 ⟨some 21, .mov, [.r 6], none, [6]⟩,
 ⟨some 22, .mov, [.r 7], none, []⟩,
 ⟨some 23, .slstr true true, [.r 20, .r 21, .r 22], none, [20, 21, 22]⟩,
 ⟨some 24, .bslice 1 1 [.string ⟨#[]⟩] [(0, 1)], [.r 23], none, [23]⟩,
 ⟨some 25, .app 1 16, [.r 19, .r 24], none, [19, 24]⟩,
 ⟨some 5, .mov, [.r 25], none, [25]⟩]) <|
 .ops [⟨some 26, .mov, [.r 7], none, []⟩,
 ⟨some 27, .bin .add, [.r 26, .k (.int .i64 1)], none, [26]⟩,
 ⟨some 6, .mov, [.r 27], none, [27]⟩])
 (.skip))) <|
 .ops [⟨some 12, .mov, [.r 7], none, [7, 18]⟩,
 ⟨some 13, .bin .add, [.r 12, .k (.int .i64 1)], none, [12]⟩,
 ⟨some 7, .mov, [.r 13], none, [13]⟩]
def m33 : MFn := ⟨[.tmp 4], .seq (.ops [⟨some 4, .mov, [.k (.slice none 0 0)], none, [4]⟩]) <|
.seq (.ops [⟨some 5, .mov, [.k (.slice none 0 0)], none, []⟩]) <|
.seq (.ops [⟨some 6, .mov, [.k (.int .i64 0)], none, []⟩]) <|
.seq (.seq (.ops [⟨some 7, .mov, [.k (.int .i64 0)], none, []⟩]) <|
.block 0 (.loop m33_0)) <|
.seq (.seq (.ops [⟨some 28, .mov, [.r 6], none, [1, 7, 11]⟩,
 ⟨some 29, .mov, [.r 0], none, []⟩,
 ⟨some 30, .lens, [.r 29], none, [29]⟩,
 ⟨some 31, .bin .lss, [.r 28, .r 30], none, [28, 30]⟩]) <|
.cond (.r 31)
 (.ops [⟨some 32, .mov, [.r 5], none, [5, 31]⟩,
 ⟨some 33, .mov, [.r 0], none, [0]⟩,
 ⟨some 34, .mov, [.r 6], none, [6]⟩,
 ⟨some 35, .slstr true false, [.r 33, .r 34], none, [33, 34]⟩,
 ⟨some 36, .bslice 1 1 [.string ⟨#[]⟩] [(0, 1)], [.r 35], none, [35]⟩,
 ⟨some 37, .app 1 16, [.r 32, .r 36], none, [32, 36]⟩,
 ⟨some 5, .mov, [.r 37], none, [37]⟩])
 (.skip)) <|
.seq (.ops [⟨some 38, .mov, [.r 5], none, [0, 5, 6, 31]⟩,
 ⟨some 4, .mov, [.r 38], none, [38]⟩]) <|
.ret⟩
theorem c33 : cFn Tryd.prog 33 = some m33.bare := by kernel_rfl

def mpWc (f : FuncId) : Option MDef := match f with
 | 3 => some (.code m3)
 | 4 => some (.code m4)
 | 5 => some (.code m5)
 | 6 => some (.code m6)
 | 7 => some (.code m7)
 | 12 => some (.code m12)
 | 13 => some (.code m13)
 | 14 => some (.code m14)
 | 15 => some (.code m15)
 | 16 => some (.code m16)
 | 17 => some (.code m17)
 | 18 => some (.code m18)
 | 19 => some (.code m19)
 | 20 => some (.code m20)
 | 21 => some (.code m21)
 | 22 => some (.code m22)
 | 23 => some (.code m23)
 | 33 => some (.code m33)
 | _ => none
theorem mpWc_code : ∀ f fn, mpWc f = some (.code fn) → cFn Tryd.prog f = some fn.bare := by
 intro f fn h
 unfold mpWc at h
 split at h
 · cases h; exact c3
 · cases h; exact c4
 · cases h; exact c5
 · cases h; exact c6
 · cases h; exact c7
 · cases h; exact c12
 · cases h; exact c13
 · cases h; exact c14
 · cases h; exact c15
 · cases h; exact c16
 · cases h; exact c17
 · cases h; exact c18
 · cases h; exact c19
 · cases h; exact c20
 · cases h; exact c21
 · cases h; exact c22
 · cases h; exact c23
 · cases h; exact c33
 · cases h
theorem mpWc_ok : MapOk Tryd.prog mpWc := ⟨by kernel_rfl, mpWc_code, fun f s h => by
 unfold mpWc at h
 split at h <;> cases h⟩
end Go.Mod

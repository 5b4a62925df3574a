/- The model's code of functions of the program, and that it is the program's. Printed by wip/tool. -/
import Derived.Test.YthpeamllfledkaaProg
import Derived.Test.YthpeamllfledkaaGrC

namespace Go.Mod
open Go.Proofs

/-- 'swingbridge/swingbridgelaw23.LockPlays' -/
def m3_0 : MCode := .seq (.seq (.ops [⟨some 24, .mov, [.r 7], none, []⟩,
 ⟨some 25, .mov, [.r 1], none, []⟩,
 ⟨some 26, .len, [.r 25], none, [25]⟩,
 ⟨some 27, .bin .lss, [.r 24, .r 26], none, [24, 26]⟩]) <|
 .cond (.r 27)
 (.skip)
 (.exit 0)) <|
 .seq (.block 1 (.seq (.ops [⟨some 8, .mov, [.k (.bool true)], none, [8, 27]⟩]) <|
 .seq (.seq (.ops [⟨some 30, .mov, [.r 1], none, []⟩,
 ⟨some 31, .mov, [.r 7], none, []⟩,
 ⟨some 32, .ia 3, [.r 30, .r 31], none, [30, 31]⟩,
 ⟨some 33, .ld (some 3), [.r 32], none, [32]⟩,
 ⟨some 9, .new 0 [.int .i64 0, .int .i64 0, .int .i64 0], [], none, []⟩,
 ⟨none, .st 3, [.r 9, .r 33], none, [33]⟩]) <|
 .block 2 (.seq (.ops [⟨some 44, .fa 0, [.r 9], none, []⟩,
 ⟨some 45, .ld none, [.r 44], none, [44]⟩,
 ⟨some 46, .bin .leq, [.r 45, .k (.int .i64 3)], none, [45]⟩,
 ⟨some 43, .mov, [.r 46], none, [46]⟩]) <|
 .cond (.r 43)
 (.draw [⟨some 47, .mov, [.r 5], none, [43]⟩,
 ⟨some 48, .fa 1, [.r 9], none, []⟩,
 ⟨some 49, .ld none, [.r 48], none, [48]⟩,
 ⟨some 50, .fa 2, [.r 9], none, []⟩,
 ⟨some 51, .ld none, [.r 50], none, [50]⟩,
 ⟨some 52, .call 12, [.r 47, .r 49, .r 51], none, [47, 49, 51]⟩,
 ⟨some 53, .mov, [.r 6], none, []⟩,
 ⟨some 54, .fa 1, [.r 9], none, []⟩,
 ⟨some 55, .ld none, [.r 54], none, [54]⟩,
 ⟨some 56, .fa 2, [.r 9], none, [9]⟩,
 ⟨some 57, .ld none, [.r 56], none, [56]⟩,
 ⟨some 58, .call 13, [.r 53, .r 55, .r 57], none, [53, 55, 57]⟩,
 ⟨some 59, .bin .eql, [.r 52, .r 58], none, [52, 58]⟩,
 ⟨some 8, .mov, [.r 59], none, [59]⟩] [(8, 5), (10, 5)])
 (.seq (.ops [⟨some 61, .fa 0, [.r 9], none, [43]⟩,
 ⟨some 62, .ld none, [.r 61], none, [61]⟩,
 ⟨some 63, .bin .leq, [.r 62, .k (.int .i64 6)], none, [62]⟩,
 ⟨some 60, .mov, [.r 63], none, [63]⟩]) <|
 .cond (.r 60)
 (.ops [⟨some 64, .mov, [.r 5], none, [9, 60]⟩,
 ⟨some 65, .call 15, [.r 64], none, [64]⟩,
 ⟨some 66, .mov, [.r 6], none, []⟩,
 ⟨some 67, .call 16, [.r 66], none, [66]⟩,
 ⟨some 68, .call 14, [.r 65, .r 67], none, [65, 67]⟩,
 ⟨some 8, .mov, [.r 68], none, [68]⟩])
 (.draw [⟨some 34, .mov, [.r 5], none, [60]⟩,
 ⟨some 35, .fa 1, [.r 9], none, []⟩,
 ⟨some 36, .ld none, [.r 35], none, [35]⟩,
 ⟨some 37, .call 17, [.r 34, .r 36], none, [34, 36]⟩,
 ⟨some 38, .mov, [.r 6], none, []⟩,
 ⟨some 39, .fa 1, [.r 9], none, [9]⟩,
 ⟨some 40, .ld none, [.r 39], none, [39]⟩,
 ⟨some 41, .call 18, [.r 38, .r 40], none, [38, 40]⟩,
 ⟨some 42, .bin .eql, [.r 37, .r 41], none, [37, 41]⟩,
 ⟨some 8, .mov, [.r 42], none, [42]⟩] [(6, 3)])))) <|
 .seq (.ops [⟨some 69, .mov, [.r 8], none, [8]⟩,
 ⟨some 70, .un .not, [.r 69], none, [69]⟩,
 ⟨some 71, .mov, [.r 70], none, [70]⟩,
 ⟨some 72, .mov, [.r 5], (some (71, false)), []⟩,
 ⟨some 73, .mov, [.r 6], (some (71, false)), []⟩,
 ⟨some 74, .call 19, [.r 72, .r 73], (some (71, false)), [72, 73]⟩,
 ⟨some 75, .un .not, [.r 74], (some (71, false)), [74]⟩,
 ⟨some 76, .pick, [.r 71, .k (.bool true), .r 75], none, [71, 75]⟩]) <|
 .cond (.r 76)
 (.seq (.ops [⟨some 4, .mov, [.k (.bool false)], none, [1, 5, 6, 7, 76]⟩]) <|
 .ret)
 (.skip))) <|
 .ops [⟨some 28, .mov, [.r 7], none, [7, 76]⟩,
 ⟨some 29, .bin .add, [.r 28, .k (.int .i64 1)], none, [28]⟩,
 ⟨some 7, .mov, [.r 29], none, [29]⟩]
def m3 : MFn := ⟨[.tmp 4], .seq (.ops [⟨some 2, .box, [.r 0], none, [0]⟩,
 ⟨some 4, .mov, [.k (.bool false)], none, [4]⟩]) <|
.seq (.seq (.ops [⟨some 10, .call 8, [], none, []⟩,
 ⟨some 11, .un .not, [.r 10], none, [10]⟩]) <|
.cond (.r 11)
 (.seq (.ops [⟨some 4, .mov, [.k (.bool false)], none, [1, 2, 11]⟩]) <|
 .ret)
 (.skip)) <|
.seq (.seq (.ops [⟨some 12, .ld (some 4), [.r 2], none, [11]⟩,
 ⟨some 13, .call 9, [.r 12], none, [12]⟩,
 ⟨some 14, .un .not, [.r 13], none, [13]⟩,
 ⟨some 15, .mov, [.r 14], none, [14]⟩,
 ⟨some 16, .mov, [.r 1], (some (15, false)), []⟩,
 ⟨some 17, .len, [.r 16], (some (15, false)), [16]⟩,
 ⟨some 18, .bin .gtr, [.r 17, .k (.int .i64 80)], (some (15, false)), [17]⟩,
 ⟨some 19, .pick, [.r 15, .k (.bool true), .r 18], none, [15, 18]⟩]) <|
.cond (.r 19)
 (.seq (.ops [⟨some 4, .mov, [.k (.bool true)], none, [1, 2, 19]⟩]) <|
 .ret)
 (.skip)) <|
.seq (.draw [⟨some 20, .ld (some 4), [.r 2], none, [19]⟩,
 ⟨some 21, .call 10, [.r 20], none, [20]⟩,
 ⟨some 22, .ld (some 4), [.r 2], none, [2]⟩,
 ⟨some 23, .call 11, [.r 22], none, [22]⟩,
 ⟨some 5, .mov, [.r 21], none, [21]⟩,
 ⟨some 6, .mov, [.r 23], none, [23]⟩] [(2, 1)]) <|
.seq (.seq (.ops [⟨some 7, .mov, [.k (.int .i64 0)], none, []⟩]) <|
.block 0 (.loop m3_0)) <|
.seq (.ops [⟨some 4, .mov, [.k (.bool true)], none, [1, 5, 6, 7, 27]⟩]) <|
.ret⟩
theorem c3 : cFn Try.prog 3 = some m3.bare := by kernel_rfl

/-- 'swingbridge/swingbridgelaw23.LockOne' -/
def m4_0 : MCode := .seq (.seq (.ops [⟨some 64, .mov, [.r 10], none, []⟩,
 ⟨some 65, .mov, [.r 9], none, []⟩,
 ⟨some 66, .len, [.r 65], none, [65]⟩,
 ⟨some 67, .bin .lss, [.r 64, .r 66], none, [64, 66]⟩]) <|
 .cond (.r 67)
 (.skip)
 (.exit 2)) <|
 .seq (.block 3 (.seq (.draw [⟨some 70, .mov, [.r 9], none, [67]⟩,
 ⟨some 71, .mov, [.r 10], none, []⟩,
 ⟨some 72, .ia 1, [.r 70, .r 71], none, [70, 71]⟩,
 ⟨some 73, .ld none, [.r 72], none, [72]⟩,
 ⟨some 74, .bin .lss, [.r 73, .k (.int .i64 0)], none, [73]⟩,
 ⟨some 75, .mov, [.r 74], none, [74]⟩,
 ⟨some 76, .mov, [.r 9], (some (75, false)), []⟩,
 ⟨some 77, .mov, [.r 10], (some (75, false)), []⟩,
 ⟨some 78, .ia 1, [.r 76, .r 77], (some (75, false)), [76, 77]⟩,
 ⟨some 79, .ld none, [.r 78], (some (75, false)), [78]⟩,
 ⟨some 80, .fa 3, [.r 2], (some (75, false)), []⟩,
 ⟨some 81, .ld none, [.r 80], (some (75, false)), [80]⟩,
 ⟨some 82, .len, [.r 81], (some (75, false)), [81]⟩,
 ⟨some 83, .bin .geq, [.r 79, .r 82], (some (75, false)), [79, 82]⟩,
 ⟨some 84, .pick, [.r 75, .k (.bool true), .r 83], none, [75, 83]⟩,
 ⟨some 85, .mov, [.r 84], none, [84]⟩,
 ⟨some 86, .mov, [.r 5], (some (85, false)), []⟩,
 ⟨some 87, .mov, [.r 9], (some (85, false)), []⟩,
 ⟨some 88, .mov, [.r 10], (some (85, false)), []⟩,
 ⟨some 89, .ia 1, [.r 87, .r 88], (some (85, false)), [87, 88]⟩,
 ⟨some 90, .ld none, [.r 89], (some (85, false)), [89]⟩,
 ⟨some 91, .call 21, [.r 86, .r 90], (some (85, false)), [86, 90]⟩,
 ⟨some 92, .un .not, [.r 91], (some (85, false)), [91]⟩,
 ⟨some 93, .pick, [.r 85, .k (.bool true), .r 92], none, [85, 92]⟩,
 ⟨some 94, .mov, [.r 93], none, [93]⟩,
 ⟨some 95, .mov, [.r 9], (some (94, false)), []⟩,
 ⟨some 96, .mov, [.r 10], (some (94, false)), []⟩,
 ⟨some 97, .ia 1, [.r 95, .r 96], (some (94, false)), [95, 96]⟩,
 ⟨some 98, .ld none, [.r 97], (some (94, false)), [97]⟩,
 ⟨some 99, .iarr 6 1, [.r 6, .r 98], (some (94, false)), [98]⟩,
 ⟨some 100, .ld none, [.r 99], (some (94, false)), [99]⟩,
 ⟨some 101, .bin .eql, [.r 100, .k (.int .i64 0)], (some (94, false)), [100]⟩,
 ⟨some 102, .pick, [.r 94, .k (.bool true), .r 101], none, [94, 101]⟩] []) <|
 .cond (.r 102)
 (.seq (.ops [⟨some 4, .mov, [.k (.bool false)], none, [1, 2, 5, 6, 7, 9, 10, 102]⟩]) <|
 .ret)
 (.skip))) <|
 .ops [⟨some 68, .mov, [.r 10], none, [10, 102]⟩,
 ⟨some 69, .bin .add, [.r 68, .k (.int .i64 1)], none, [68]⟩,
 ⟨some 10, .mov, [.r 69], none, [69]⟩]
def m4_1 : MCode := .seq (.seq (.ops [⟨some 28, .mov, [.r 7], none, []⟩,
 ⟨some 29, .mov, [.r 1], none, []⟩,
 ⟨some 30, .len, [.r 29], none, [29]⟩,
 ⟨some 31, .bin .lss, [.r 28, .r 30], none, [28, 30]⟩]) <|
 .cond (.r 31)
 (.skip)
 (.exit 0)) <|
 .seq (.block 1 (.seq (.ops [⟨some 34, .mov, [.r 1], none, [31]⟩,
 ⟨some 35, .mov, [.r 7], none, []⟩,
 ⟨some 36, .ia 3, [.r 34, .r 35], none, [34, 35]⟩,
 ⟨some 37, .ld (some 3), [.r 36], none, [36]⟩,
 ⟨some 8, .new 0 [.int .i64 0, .int .i64 0, .int .i64 0], [], none, []⟩,
 ⟨none, .st 3, [.r 8, .r 37], none, [37]⟩]) <|
 .seq (.seq (.ops [⟨some 38, .fa 0, [.r 8], none, []⟩,
 ⟨some 39, .ld none, [.r 38], none, [38]⟩,
 ⟨some 40, .bin .leq, [.r 39, .k (.int .i64 4)], none, [39]⟩]) <|
 .cond (.r 40)
 (.seq (.ops [⟨some 41, .mov, [.r 5], none, [40]⟩,
 ⟨some 42, .fa 1, [.r 8], none, []⟩,
 ⟨some 43, .ld none, [.r 42], none, [42]⟩,
 ⟨some 44, .fa 2, [.r 8], none, []⟩,
 ⟨some 45, .ld none, [.r 44], none, [44]⟩,
 ⟨some 46, .call 12, [.r 41, .r 43, .r 45], none, [41, 43, 45]⟩,
 ⟨some 47, .bin .eql, [.r 46, .k (.int .i64 0)], none, [46]⟩]) <|
 .cond (.r 47)
 (.ops [⟨some 48, .fa 1, [.r 8], none, [47]⟩,
 ⟨some 49, .ld none, [.r 48], none, [48]⟩,
 ⟨some 50, .fa 2, [.r 8], none, [8]⟩,
 ⟨some 51, .ld none, [.r 50], none, [50]⟩,
 ⟨some 52, .bin .add, [.r 51, .k (.int .i64 1)], none, [51]⟩,
 ⟨some 53, .iarr 6 1, [.r 6, .r 49], none, [49]⟩,
 ⟨none, .st 1, [.r 53, .r 52], none, [52, 53]⟩])
 (.skip))
 (.seq (.ops [⟨some 54, .mov, [.r 5], none, [40]⟩,
 ⟨some 55, .fa 1, [.r 8], none, []⟩,
 ⟨some 56, .ld none, [.r 55], none, [55]⟩,
 ⟨some 57, .call 17, [.r 54, .r 56], none, [54, 56]⟩,
 ⟨some 58, .bin .eql, [.r 57, .k (.int .i64 0)], none, [57]⟩]) <|
 .cond (.r 58)
 (.ops [⟨some 59, .fa 1, [.r 8], none, [8, 58]⟩,
 ⟨some 60, .ld none, [.r 59], none, [59]⟩,
 ⟨some 61, .iarr 6 1, [.r 6, .r 60], none, [60]⟩,
 ⟨none, .st 1, [.r 61, .k (.int .i64 0)], none, [61]⟩])
 (.skip))) <|
 .seq (.ops [⟨some 62, .mov, [.r 5], none, [8, 47, 58]⟩,
 ⟨some 63, .call 15, [.r 62], none, [62]⟩,
 ⟨some 9, .mov, [.r 63], none, [63]⟩]) <|
 .seq (.seq (.ops [⟨some 10, .mov, [.k (.int .i64 0)], none, []⟩]) <|
 .block 2 (.loop m4_0)) <|
 .seq (.ops [⟨some 103, .ld (some 4), [.r 2], none, [9, 10, 67]⟩,
 ⟨some 104, .mov, [.r 5], none, []⟩,
 ⟨some 105, .ld (some 6), [.r 6], none, []⟩,
 ⟨some 106, .call 22, [.r 103, .r 104, .r 105], none, [103, 104, 105]⟩,
 ⟨some 107, .un .not, [.r 106], none, [106]⟩]) <|
 .cond (.r 107)
 (.seq (.ops [⟨some 4, .mov, [.k (.bool false)], none, [1, 2, 5, 6, 7, 107]⟩]) <|
 .ret)
 (.skip))) <|
 .ops [⟨some 32, .mov, [.r 7], none, [7, 107]⟩,
 ⟨some 33, .bin .add, [.r 32, .k (.int .i64 1)], none, [32]⟩,
 ⟨some 7, .mov, [.r 33], none, [33]⟩]
def m4 : MFn := ⟨[.tmp 4], .seq (.ops [⟨some 2, .box, [.r 0], none, [0]⟩,
 ⟨some 4, .mov, [.k (.bool false)], none, [4]⟩]) <|
.seq (.seq (.ops [⟨some 11, .call 8, [], none, []⟩,
 ⟨some 12, .un .not, [.r 11], none, [11]⟩]) <|
.cond (.r 12)
 (.seq (.ops [⟨some 4, .mov, [.k (.bool false)], none, [1, 2, 12]⟩]) <|
 .ret)
 (.skip)) <|
.seq (.seq (.ops [⟨some 13, .ld (some 4), [.r 2], none, [12]⟩,
 ⟨some 14, .call 9, [.r 13], none, [13]⟩,
 ⟨some 15, .un .not, [.r 14], none, [14]⟩,
 ⟨some 16, .mov, [.r 15], none, [15]⟩,
 ⟨some 17, .ld (some 4), [.r 2], (some (16, false)), []⟩,
 ⟨some 18, .call 20, [.r 17], (some (16, false)), [17]⟩,
 ⟨some 19, .un .not, [.r 18], (some (16, false)), [18]⟩,
 ⟨some 20, .pick, [.r 16, .k (.bool true), .r 19], none, [16, 19]⟩,
 ⟨some 21, .mov, [.r 20], none, [20]⟩,
 ⟨some 22, .mov, [.r 1], (some (21, false)), []⟩,
 ⟨some 23, .len, [.r 22], (some (21, false)), [22]⟩,
 ⟨some 24, .bin .gtr, [.r 23, .k (.int .i64 60)], (some (21, false)), [23]⟩,
 ⟨some 25, .pick, [.r 21, .k (.bool true), .r 24], none, [21, 24]⟩]) <|
.cond (.r 25)
 (.seq (.ops [⟨some 4, .mov, [.k (.bool true)], none, [1, 2, 25]⟩]) <|
 .ret)
 (.skip)) <|
.seq (.ops [⟨some 26, .ld (some 4), [.r 2], none, [25]⟩,
 ⟨some 27, .call 10, [.r 26], none, [26]⟩,
 ⟨some 5, .mov, [.r 27], none, [27]⟩]) <|
.seq (.ops [⟨some 6, .new 1 [.int .i64 0, .int .i64 0, .int .i64 0, .int .i64 0, .int .i64 0, .int .i64 0], [], none, []⟩]) <|
.seq (.seq (.ops [⟨some 7, .mov, [.k (.int .i64 0)], none, []⟩]) <|
.block 0 (.loop m4_1)) <|
.seq (.ops [⟨some 4, .mov, [.k (.bool true)], none, [1, 2, 5, 6, 7, 31]⟩]) <|
.ret⟩
theorem c4 : cFn Try.prog 4 = some m4.bare := by kernel_rfl

/-- 'swingbridge/swingbridgelaw23.LockFair' -/
def m5_0 : MCode := .seq (.seq (.ops [⟨some 17, .mov, [.r 6], none, []⟩,
 ⟨some 18, .mov, [.r 0], none, []⟩,
 ⟨some 19, .len, [.r 18], none, [18]⟩,
 ⟨some 20, .bin .lss, [.r 17, .r 19], none, [17, 19]⟩]) <|
 .cond (.r 20)
 (.skip)
 (.exit 0)) <|
 .seq (.block 1 (.seq (.ops [⟨some 23, .mov, [.r 0], none, [20]⟩,
 ⟨some 24, .mov, [.r 6], none, []⟩,
 ⟨some 25, .ia 1, [.r 23, .r 24], none, [23, 24]⟩,
 ⟨some 26, .ld none, [.r 25], none, [25]⟩,
 ⟨some 27, .bin .rem, [.r 26, .k (.int .u8 6)], none, [26]⟩,
 ⟨some 28, .conv .i64, [.r 27], none, [27]⟩,
 ⟨some 7, .mov, [.r 28], none, [28]⟩]) <|
 .seq (.seq (.ops [⟨some 29, .mov, [.r 0], none, []⟩,
 ⟨some 30, .mov, [.r 6], none, []⟩,
 ⟨some 31, .ia 1, [.r 29, .r 30], none, [29, 30]⟩,
 ⟨some 32, .ld none, [.r 31], none, [31]⟩,
 ⟨some 33, .bin .rem, [.r 32, .k (.int .u8 7)], none, [32]⟩,
 ⟨some 34, .bin .eql, [.r 33, .k (.int .u8 0)], none, [33]⟩,
 ⟨some 35, .mov, [.r 34], none, [34]⟩,
 ⟨some 36, .mov, [.r 4], (some (35, true)), []⟩,
 ⟨some 37, .len, [.r 36], (some (35, true)), [36]⟩,
 ⟨some 38, .bin .gtr, [.r 37, .k (.int .i64 0)], (some (35, true)), [37]⟩,
 ⟨some 39, .pick, [.r 35, .r 38, .k (.bool false)], none, [35, 38]⟩]) <|
 .cond (.r 39)
 (.seq (.seq (.ops [⟨some 40, .mov, [.r 3], none, [7, 39]⟩,
 ⟨some 41, .mov, [.r 4], none, []⟩,
 ⟨some 42, .ia 1, [.r 41, .k (.int .i64 0)], none, [41]⟩,
 ⟨some 43, .ld none, [.r 42], none, [42]⟩,
 ⟨some 44, .call 17, [.r 40, .r 43], none, [40, 43]⟩,
 ⟨some 45, .bin .neq, [.r 44, .k (.int .i64 0)], none, [44]⟩]) <|
 .cond (.r 45)
 (.seq (.ops [⟨some 2, .mov, [.k (.bool false)], none, [0, 3, 4, 5, 6, 45]⟩]) <|
 .ret)
 (.skip)) <|
 .seq (.ops [⟨some 46, .mov, [.r 4], none, [45]⟩,
 ⟨some 47, .ia 1, [.r 46, .k (.int .i64 0)], none, [46]⟩,
 ⟨some 48, .ld none, [.r 47], none, [47]⟩,
 ⟨some 49, .iarr 6 1, [.r 5, .r 48], none, [48]⟩,
 ⟨none, .st 1, [.r 49, .k (.bool false)], none, [49]⟩]) <|
 .ops [⟨some 50, .mov, [.r 4], none, [4]⟩,
 ⟨some 51, .sl 1 true false false, [.r 50, .k (.int .i64 1)], none, [50]⟩,
 ⟨some 4, .mov, [.r 51], none, [51]⟩])
 (.seq (.draw [⟨some 52, .mov, [.r 3], none, [39]⟩,
 ⟨some 53, .mov, [.r 7], none, []⟩,
 ⟨some 54, .call 12, [.r 52, .r 53, .k (.int .i64 0)], none, [52, 53]⟩,
 ⟨some 55, .bin .eql, [.r 54, .k (.int .i64 0)], none, [54]⟩,
 ⟨some 56, .mov, [.r 7], none, []⟩,
 ⟨some 57, .iarr 6 1, [.r 5, .r 56], none, [56]⟩,
 ⟨some 58, .ld none, [.r 57], none, [57]⟩,
 ⟨some 59, .eqv false .bool, [.r 55, .r 58], none, [55, 58]⟩] [(6, 2)]) <|
 .cond (.r 59)
 (.seq (.ops [⟨some 2, .mov, [.k (.bool false)], none, [0, 3, 4, 5, 6, 7, 59]⟩]) <|
 .ret)
 (.seq (.ops [⟨some 60, .mov, [.r 7], none, [59]⟩,
 ⟨some 61, .iarr 6 1, [.r 5, .r 60], none, [60]⟩,
 ⟨some 62, .ld none, [.r 61], none, [61]⟩,
 ⟨some 63, .un .not, [.r 62], none, [62]⟩]) <|
 .cond (.r 63)
 (.seq (.ops [⟨some 64, .mov, [.r 7], none, [63]⟩,
 ⟨some 65, .iarr 6 1, [.r 5, .r 64], none, [64]⟩,
 ⟨none, .st 1, [.r 65, .k (.bool true)], none, [65]⟩]) <|
 .ops [⟨some 66, .mov, [.r 4], none, [4]⟩,
 ⟨some 67, .mov, [.r 7], none, [7]⟩,
 ⟨some 68, .bslice 1 1 [.int .i64 0] [(0, 1)], [.r 67], none, [67]⟩,
 ⟨some 69, .app 1 8, [.r 66, .r 68], none, [66, 68]⟩,
 ⟨some 4, .mov, [.r 69], none, [69]⟩])
 (.skip)))) <|
 .seq (.ops [⟨some 70, .mov, [.r 3], none, [7, 63]⟩,
 ⟨some 71, .call 15, [.r 70], none, [70, 71]⟩]) <|
 .seq (.ops [⟨some 73, .mov, [.r 3], none, []⟩,
 ⟨some 74, .call 24, [.r 73, .k (.int .i64 0)], none, [73]⟩,
 ⟨some 72, .mov, [.r 74], none, [74]⟩,
 ⟨some 75, .extract 0, [.r 72], none, []⟩,
 ⟨some 76, .extract 1, [.r 72], none, [72]⟩,
 ⟨some 8, .mov, [.r 75], none, [75]⟩,
 ⟨some 9, .mov, [.r 76], none, [76]⟩]) <|
 .seq (.ops [⟨some 77, .mov, [.r 9], none, []⟩,
 ⟨some 78, .mov, [.r 4], none, []⟩,
 ⟨some 79, .len, [.r 78], none, [78]⟩,
 ⟨some 80, .bin .gtr, [.r 79, .k (.int .i64 0)], none, [79]⟩,
 ⟨some 81, .eqv true .bool, [.r 77, .r 80], none, [77, 80]⟩,
 ⟨some 82, .mov, [.r 81], none, [81]⟩,
 ⟨some 83, .mov, [.r 9], (some (82, false)), [9]⟩,
 ⟨some 84, .mov, [.r 83], (some (82, false)), [83]⟩,
 ⟨some 85, .mov, [.r 8], (some (84, true)), [8]⟩,
 ⟨some 86, .mov, [.r 4], (some (84, true)), []⟩,
 ⟨some 87, .ia 1, [.r 86, .k (.int .i64 0)], (some (84, true)), [86]⟩,
 ⟨some 88, .ld none, [.r 87], (some (84, true)), [87]⟩,
 ⟨some 89, .bin .neq, [.r 85, .r 88], (some (84, true)), [85, 88]⟩,
 ⟨some 90, .pick, [.r 84, .r 89, .k (.bool false)], (some (82, false)), [84, 89]⟩,
 ⟨some 91, .pick, [.r 82, .k (.bool true), .r 90], none, [82, 90]⟩,
 ⟨some 92, .mov, [.r 91], none, [91]⟩,
 ⟨some 93, .mov, [.r 3], (some (92, false)), []⟩,
 ⟨some 94, .call 25, [.r 93], (some (92, false)), [93]⟩,
 ⟨some 95, .len, [.r 94], (some (92, false)), [94]⟩,
 ⟨some 96, .mov, [.r 4], (some (92, false)), []⟩,
 ⟨some 97, .len, [.r 96], (some (92, false)), [96]⟩,
 ⟨some 98, .bin .sub, [.r 97, .k (.int .i64 1)], (some (92, false)), [97]⟩,
 ⟨some 99, .minmax true, [.k (.int .i64 0), .r 98], (some (92, false)), [98]⟩,
 ⟨some 100, .bin .neq, [.r 95, .r 99], (some (92, false)), [95, 99]⟩,
 ⟨some 101, .pick, [.r 92, .k (.bool true), .r 100], none, [92, 100]⟩]) <|
 .cond (.r 101)
 (.seq (.ops [⟨some 2, .mov, [.k (.bool false)], none, [0, 3, 4, 5, 6, 101]⟩]) <|
 .ret)
 (.skip))) <|
 .ops [⟨some 21, .mov, [.r 6], none, [6, 101]⟩,
 ⟨some 22, .bin .add, [.r 21, .k (.int .i64 1)], none, [21]⟩,
 ⟨some 6, .mov, [.r 22], none, [22]⟩]
def m5 : MFn := ⟨[.tmp 2], .seq (.ops [⟨some 2, .mov, [.k (.bool false)], none, [2]⟩]) <|
.seq (.seq (.ops [⟨some 10, .call 8, [], none, []⟩,
 ⟨some 11, .un .not, [.r 10], none, [10]⟩]) <|
.cond (.r 11)
 (.seq (.ops [⟨some 2, .mov, [.k (.bool false)], none, [0, 11]⟩]) <|
 .ret)
 (.skip)) <|
.seq (.seq (.ops [⟨some 12, .mov, [.r 0], none, [11]⟩,
 ⟨some 13, .len, [.r 12], none, [12]⟩,
 ⟨some 14, .bin .gtr, [.r 13, .k (.int .i64 30)], none, [13]⟩]) <|
.cond (.r 14)
 (.seq (.ops [⟨some 2, .mov, [.k (.bool true)], none, [0, 14]⟩]) <|
 .ret)
 (.skip)) <|
.seq (.ops [⟨some 15, .call 23, [.k (.int .i64 1), .k (.int .i64 6), .k (.int .i64 1)], none, [14]⟩,
 ⟨some 16, .call 10, [.r 15], none, [15]⟩,
 ⟨some 3, .mov, [.r 16], none, [16]⟩]) <|
.seq (.ops [⟨some 4, .mov, [.k (.slice none 0 0)], none, []⟩]) <|
.seq (.ops [⟨some 5, .new 1 [.bool false, .bool false, .bool false, .bool false, .bool false, .bool false], [], none, []⟩]) <|
.seq (.seq (.ops [⟨some 6, .mov, [.k (.int .i64 0)], none, []⟩]) <|
.block 0 (.loop m5_0)) <|
.seq (.ops [⟨some 2, .mov, [.k (.bool true)], none, [0, 3, 4, 5, 6, 20]⟩]) <|
.ret⟩
theorem c5 : cFn Try.prog 5 = some m5.bare := by kernel_rfl

/-- 'swingbridge/swingbridgelaw23.LockAgents' -/
def m6_0 : MCode := .seq (.seq (.ops [⟨some 74, .mov, [.r 9], none, []⟩,
 ⟨some 75, .bin .lss, [.r 74, .k (.int .i64 6)], none, [74]⟩]) <|
 .cond (.r 75)
 (.skip)
 (.exit 4)) <|
 .seq (.block 5 (.seq (.ops [⟨some 78, .mov, [.r 3], none, [75]⟩,
 ⟨some 79, .mov, [.r 9], none, []⟩,
 ⟨some 80, .call 21, [.r 78, .r 79], none, [78, 79]⟩,
 ⟨some 81, .mov, [.r 9], none, []⟩,
 ⟨some 82, .mov, [.r 5], none, []⟩,
 ⟨some 83, .bin .eql, [.r 81, .r 82], none, [81, 82]⟩,
 ⟨some 84, .eqv true .bool, [.r 80, .r 83], none, [80, 83]⟩,
 ⟨some 85, .mov, [.r 84], none, [84]⟩,
 ⟨some 86, .mov, [.r 3], (some (85, false)), []⟩,
 ⟨some 87, .mov, [.r 9], (some (85, false)), []⟩,
 ⟨some 88, .call 26, [.r 86, .r 87], (some (85, false)), [86, 87]⟩,
 ⟨some 89, .bin .neq, [.r 88, .k (.int .i64 0)], (some (85, false)), [88]⟩,
 ⟨some 90, .mov, [.r 89], (some (85, false)), [89]⟩,
 ⟨some 91, .mov, [.r 9], (some (90, true)), []⟩,
 ⟨some 92, .mov, [.r 5], (some (90, true)), []⟩,
 ⟨some 93, .bin .neq, [.r 91, .r 92], (some (90, true)), [91, 92]⟩,
 ⟨some 94, .pick, [.r 90, .r 93, .k (.bool false)], (some (85, false)), [90, 93]⟩,
 ⟨some 95, .pick, [.r 85, .k (.bool true), .r 94], none, [85, 94]⟩]) <|
 .cond (.r 95)
 (.seq (.ops [⟨some 2, .mov, [.k (.bool false)], none, [0, 3, 4, 5, 6, 9, 95]⟩]) <|
 .ret)
 (.skip))) <|
 .ops [⟨some 76, .mov, [.r 9], none, [9, 95]⟩,
 ⟨some 77, .bin .add, [.r 76, .k (.int .i64 1)], none, [76]⟩,
 ⟨some 9, .mov, [.r 77], none, [77]⟩]
def m6_1 : MCode := .seq (.seq (.ops [⟨some 66, .mov, [.r 8], none, []⟩,
 ⟨some 67, .bin .lss, [.r 66, .k (.int .i64 6)], none, [66]⟩]) <|
 .cond (.r 67)
 (.skip)
 (.exit 2)) <|
 .seq (.block 3 (.seq (.ops [⟨some 70, .mov, [.r 8], none, [67]⟩,
 ⟨some 71, .iarr 6 1, [.r 4, .r 70], none, [70]⟩,
 ⟨some 72, .ld none, [.r 71], none, [71]⟩]) <|
 .cond (.r 72)
 (.ops [⟨some 73, .mov, [.r 8], none, [5, 72]⟩,
 ⟨some 5, .mov, [.r 73], none, [73]⟩])
 (.skip))) <|
 .ops [⟨some 68, .mov, [.r 8], none, [8, 72]⟩,
 ⟨some 69, .bin .add, [.r 68, .k (.int .i64 1)], none, [68]⟩,
 ⟨some 8, .mov, [.r 69], none, [69]⟩]
def m6_2 : MCode := .seq (.seq (.ops [⟨some 17, .mov, [.r 6], none, []⟩,
 ⟨some 18, .mov, [.r 0], none, []⟩,
 ⟨some 19, .len, [.r 18], none, [18]⟩,
 ⟨some 20, .bin .lss, [.r 17, .r 19], none, [17, 19]⟩]) <|
 .cond (.r 20)
 (.skip)
 (.exit 0)) <|
 .seq (.block 1 (.seq (.ops [⟨some 23, .mov, [.r 0], none, [20]⟩,
 ⟨some 24, .mov, [.r 6], none, []⟩,
 ⟨some 25, .ia 1, [.r 23, .r 24], none, [23, 24]⟩,
 ⟨some 26, .ld none, [.r 25], none, [25]⟩,
 ⟨some 27, .bin .rem, [.r 26, .k (.int .u8 6)], none, [26]⟩,
 ⟨some 28, .conv .i64, [.r 27], none, [27]⟩,
 ⟨some 7, .mov, [.r 28], none, [28]⟩]) <|
 .seq (.seq (.ops [⟨some 29, .mov, [.r 0], none, []⟩,
 ⟨some 30, .mov, [.r 6], none, []⟩,
 ⟨some 31, .ia 1, [.r 29, .r 30], none, [29, 30]⟩,
 ⟨some 32, .ld none, [.r 31], none, [31]⟩,
 ⟨some 33, .bin .rem, [.r 32, .k (.int .u8 5)], none, [32]⟩,
 ⟨some 34, .bin .eql, [.r 33, .k (.int .u8 0)], none, [33]⟩,
 ⟨some 35, .mov, [.r 34], none, [34]⟩,
 ⟨some 36, .mov, [.r 5], (some (35, true)), []⟩,
 ⟨some 37, .bin .geq, [.r 36, .k (.int .i64 0)], (some (35, true)), [36]⟩,
 ⟨some 38, .pick, [.r 35, .r 37, .k (.bool false)], none, [35, 37]⟩]) <|
 .cond (.r 38)
 (.seq (.seq (.ops [⟨some 39, .mov, [.r 3], none, [7, 38]⟩,
 ⟨some 40, .mov, [.r 5], none, []⟩,
 ⟨some 41, .call 17, [.r 39, .r 40], none, [39, 40]⟩,
 ⟨some 42, .bin .neq, [.r 41, .k (.int .i64 0)], none, [41]⟩]) <|
 .cond (.r 42)
 (.seq (.ops [⟨some 2, .mov, [.k (.bool false)], none, [0, 3, 4, 5, 6, 42]⟩]) <|
 .ret)
 (.skip)) <|
 .seq (.ops [⟨some 43, .mov, [.r 5], none, [5, 42]⟩,
 ⟨some 44, .iarr 6 1, [.r 4, .r 43], none, [43]⟩,
 ⟨none, .st 1, [.r 44, .k (.bool false)], none, [44]⟩]) <|
 .ops [⟨some 5, .mov, [.k (.int .i64 (-1))], none, []⟩])
 (.seq (.ops [⟨some 45, .mov, [.r 7], none, [38]⟩,
 ⟨some 46, .iarr 6 1, [.r 4, .r 45], none, [45]⟩,
 ⟨some 47, .ld none, [.r 46], none, [46]⟩,
 ⟨some 48, .un .not, [.r 47], none, [47]⟩]) <|
 .cond (.r 48)
 (.seq (.seq (.ops [⟨some 49, .mov, [.r 3], none, [48]⟩,
 ⟨some 50, .mov, [.r 7], none, []⟩,
 ⟨some 51, .mov, [.r 0], none, []⟩,
 ⟨some 52, .mov, [.r 6], none, []⟩,
 ⟨some 53, .ia 1, [.r 51, .r 52], none, [51, 52]⟩,
 ⟨some 54, .ld none, [.r 53], none, [53]⟩,
 ⟨some 55, .bin .quo, [.r 54, .k (.int .u8 6)], none, [54]⟩,
 ⟨some 56, .bin .rem, [.r 55, .k (.int .u8 2)], none, [55]⟩,
 ⟨some 57, .conv .i64, [.r 56], none, [56]⟩,
 ⟨some 58, .call 12, [.r 49, .r 50, .r 57], none, [49, 50, 57]⟩,
 ⟨some 59, .bin .neq, [.r 58, .k (.int .i64 0)], none, [58]⟩]) <|
 .cond (.r 59)
 (.seq (.ops [⟨some 2, .mov, [.k (.bool false)], none, [0, 3, 4, 5, 6, 7, 59]⟩]) <|
 .ret)
 (.skip)) <|
 .ops [⟨some 60, .mov, [.r 7], none, [7, 59]⟩,
 ⟨some 61, .iarr 6 1, [.r 4, .r 60], none, [60]⟩,
 ⟨none, .st 1, [.r 61, .k (.bool true)], none, [61]⟩])
 (.skip))) <|
 .seq (.ops [⟨some 62, .mov, [.r 3], none, [7, 48]⟩,
 ⟨some 63, .call 15, [.r 62], none, [62, 63]⟩]) <|
 .seq (.seq (.ops [⟨some 64, .mov, [.r 5], none, []⟩,
 ⟨some 65, .bin .lss, [.r 64, .k (.int .i64 0)], none, [64]⟩]) <|
 .cond (.r 65)
 (.seq (.ops [⟨some 8, .mov, [.k (.int .i64 0)], none, [65]⟩]) <|
 .block 2 (.loop m6_1))
 (.skip)) <|
 .seq (.ops [⟨some 9, .mov, [.k (.int .i64 0)], none, [8, 65, 67]⟩]) <|
 .block 4 (.loop m6_0))) <|
 .ops [⟨some 21, .mov, [.r 6], none, [6, 9, 75]⟩,
 ⟨some 22, .bin .add, [.r 21, .k (.int .i64 1)], none, [21]⟩,
 ⟨some 6, .mov, [.r 22], none, [22]⟩]
def m6 : MFn := ⟨[.tmp 2], .seq (.ops [⟨some 2, .mov, [.k (.bool false)], none, [2]⟩]) <|
.seq (.seq (.ops [⟨some 10, .call 8, [], none, []⟩,
 ⟨some 11, .un .not, [.r 10], none, [10]⟩]) <|
.cond (.r 11)
 (.seq (.ops [⟨some 2, .mov, [.k (.bool false)], none, [0, 11]⟩]) <|
 .ret)
 (.skip)) <|
.seq (.seq (.ops [⟨some 12, .mov, [.r 0], none, [11]⟩,
 ⟨some 13, .len, [.r 12], none, [12]⟩,
 ⟨some 14, .bin .gtr, [.r 13, .k (.int .i64 30)], none, [13]⟩]) <|
.cond (.r 14)
 (.seq (.ops [⟨some 2, .mov, [.k (.bool true)], none, [0, 14]⟩]) <|
 .ret)
 (.skip)) <|
.seq (.ops [⟨some 15, .call 23, [.k (.int .i64 2), .k (.int .i64 6), .k (.int .i64 1)], none, [14]⟩,
 ⟨some 16, .call 10, [.r 15], none, [15]⟩,
 ⟨some 3, .mov, [.r 16], none, [16]⟩]) <|
.seq (.ops [⟨some 4, .new 1 [.bool false, .bool false, .bool false, .bool false, .bool false, .bool false], [], none, []⟩]) <|
.seq (.ops [⟨some 5, .mov, [.k (.int .i64 (-1))], none, []⟩]) <|
.seq (.seq (.ops [⟨some 6, .mov, [.k (.int .i64 0)], none, []⟩]) <|
.block 0 (.loop m6_2)) <|
.seq (.ops [⟨some 2, .mov, [.k (.bool true)], none, [0, 3, 4, 5, 6, 20]⟩]) <|
.ret⟩
theorem c6 : cFn Try.prog 6 = some m6.bare := by kernel_rfl

/-- 'swingbridge/swingbridgelaw23.LockGates' -/
def m7_0 : MCode := .seq (.seq (.ops [⟨some 95, .mov, [.r 14], none, []⟩,
 ⟨some 96, .mov, [.r 7], none, []⟩,
 ⟨some 97, .len, [.r 96], none, [96]⟩,
 ⟨some 98, .bin .lss, [.r 95, .r 97], none, [95, 97]⟩]) <|
 .cond (.r 98)
 (.skip)
 (.exit 2)) <|
 .seq (.block 3 (.seq (.ops [⟨some 101, .mov, [.r 6], none, [98]⟩,
 ⟨some 102, .mov, [.r 7], none, []⟩,
 ⟨some 103, .mov, [.r 14], none, []⟩,
 ⟨some 104, .ia 1, [.r 102, .r 103], none, [102, 103]⟩,
 ⟨some 105, .ld none, [.r 104], none, [104]⟩,
 ⟨some 106, .call 21, [.r 101, .r 105], none, [101, 105]⟩]) <|
 .cond (.r 106)
 (.seq (.ops [⟨some 107, .mov, [.r 13], none, [13, 106]⟩,
 ⟨some 108, .bin .add, [.r 107, .k (.int .i64 1)], none, [107]⟩,
 ⟨some 13, .mov, [.r 108], none, [108]⟩]) <|
 .seq (.seq (.ops [⟨some 109, .mov, [.r 14], none, []⟩,
 ⟨some 110, .mov, [.r 5], none, []⟩,
 ⟨some 111, .bin .geq, [.r 109, .r 110], none, [109, 110]⟩]) <|
 .cond (.r 111)
 (.seq (.ops [⟨some 4, .mov, [.k (.bool false)], none, [0, 5, 6, 7, 8, 9, 13, 14, 111]⟩]) <|
 .ret)
 (.skip)) <|
 .ops [⟨some 112, .mov, [.r 8], none, [8, 111]⟩,
 ⟨some 113, .mov, [.r 6], none, []⟩,
 ⟨some 114, .mov, [.r 7], none, []⟩,
 ⟨some 115, .mov, [.r 14], none, []⟩,
 ⟨some 116, .ia 1, [.r 114, .r 115], none, [114, 115]⟩,
 ⟨some 117, .ld none, [.r 116], none, [116]⟩,
 ⟨some 118, .call 26, [.r 113, .r 117], none, [113, 117]⟩,
 ⟨some 119, .minmax true, [.r 112, .r 118], none, [112, 118]⟩,
 ⟨some 8, .mov, [.r 119], none, [119]⟩])
 (.skip))) <|
 .ops [⟨some 99, .mov, [.r 14], none, [14, 106]⟩,
 ⟨some 100, .bin .add, [.r 99, .k (.int .i64 1)], none, [99]⟩,
 ⟨some 14, .mov, [.r 100], none, [100]⟩]
def m7_1 : MCode := .seq (.seq (.ops [⟨some 27, .mov, [.r 9], none, []⟩,
 ⟨some 28, .mov, [.r 0], none, []⟩,
 ⟨some 29, .len, [.r 28], none, [28]⟩,
 ⟨some 30, .bin .lss, [.r 27, .r 29], none, [27, 29]⟩]) <|
 .cond (.r 30)
 (.skip)
 (.exit 0)) <|
 .seq (.block 1 (.seq (.ops [⟨some 33, .mov, [.r 0], none, [30]⟩,
 ⟨some 34, .mov, [.r 9], none, []⟩,
 ⟨some 35, .ia 1, [.r 33, .r 34], none, [33, 34]⟩,
 ⟨some 36, .ld none, [.r 35], none, [35]⟩,
 ⟨some 37, .bin .rem, [.r 36, .k (.int .u8 6)], none, [36]⟩,
 ⟨some 38, .conv .i64, [.r 37], none, [37]⟩,
 ⟨some 10, .mov, [.r 38], none, [38]⟩]) <|
 .seq (.seq (.ops [⟨some 39, .mov, [.r 0], none, []⟩,
 ⟨some 40, .mov, [.r 9], none, []⟩,
 ⟨some 41, .ia 1, [.r 39, .r 40], none, [39, 40]⟩,
 ⟨some 42, .ld none, [.r 41], none, [41]⟩,
 ⟨some 43, .bin .rem, [.r 42, .k (.int .u8 4)], none, [42]⟩,
 ⟨some 44, .bin .eql, [.r 43, .k (.int .u8 0)], none, [43]⟩,
 ⟨some 45, .mov, [.r 44], none, [44]⟩,
 ⟨some 46, .mov, [.r 7], (some (45, true)), []⟩,
 ⟨some 47, .len, [.r 46], (some (45, true)), [46]⟩,
 ⟨some 48, .bin .gtr, [.r 47, .k (.int .i64 0)], (some (45, true)), [47]⟩,
 ⟨some 49, .pick, [.r 45, .r 48, .k (.bool false)], none, [45, 48]⟩]) <|
 .cond (.r 49)
 (.seq (.ops [⟨some 50, .mov, [.r 0], none, [10, 49]⟩,
 ⟨some 51, .mov, [.r 9], none, []⟩,
 ⟨some 52, .ia 1, [.r 50, .r 51], none, [50, 51]⟩,
 ⟨some 53, .ld none, [.r 52], none, [52]⟩,
 ⟨some 54, .bin .quo, [.r 53, .k (.int .u8 4)], none, [53]⟩,
 ⟨some 55, .conv .i64, [.r 54], none, [54]⟩,
 ⟨some 56, .mov, [.r 7], none, []⟩,
 ⟨some 57, .len, [.r 56], none, [56]⟩,
 ⟨some 58, .mov, [.r 5], none, []⟩,
 ⟨some 59, .minmax false, [.r 57, .r 58], none, [57, 58]⟩,
 ⟨some 60, .bin .rem, [.r 55, .r 59], none, [55, 59]⟩,
 ⟨some 11, .mov, [.r 60], none, [60]⟩]) <|
 .seq (.ops [⟨some 61, .mov, [.r 7], none, []⟩,
 ⟨some 62, .mov, [.r 11], none, []⟩,
 ⟨some 63, .ia 1, [.r 61, .r 62], none, [61, 62]⟩,
 ⟨some 64, .ld none, [.r 63], none, [63]⟩,
 ⟨some 12, .mov, [.r 64], none, [64]⟩]) <|
 .seq (.seq (.ops [⟨some 65, .mov, [.r 6], none, []⟩,
 ⟨some 66, .mov, [.r 12], none, [12]⟩,
 ⟨some 67, .call 17, [.r 65, .r 66], none, [65, 66]⟩,
 ⟨some 68, .bin .neq, [.r 67, .k (.int .i64 0)], none, [67]⟩]) <|
 .cond (.r 68)
 (.seq (.ops [⟨some 4, .mov, [.k (.bool false)], none, [0, 5, 6, 7, 8, 9, 11, 68]⟩]) <|
 .ret)
 (.skip)) <|
 .draw [⟨some 69, .mov, [.r 7], none, [68]⟩,
 ⟨some 70, .mov, [.r 11], none, []⟩,
 ⟨some 71, .sl 1 false true false, [.r 69, .r 70], none, [69, 70]⟩,
 ⟨some 72, .app 1 8, [.k (.slice none 0 0), .r 71], none, [71]⟩,
 ⟨some 73, .mov, [.r 7], none, [7]⟩,
 ⟨some 74, .mov, [.r 11], none, [11]⟩,
 ⟨some 75, .bin .add, [.r 74, .k (.int .i64 1)], none, [74]⟩,
 ⟨some 76, .sl 1 true false false, [.r 73, .r 75], none, [73, 75]⟩,
 ⟨some 77, .app 1 8, [.r 72, .r 76], none, [72, 76]⟩,
 ⟨some 7, .mov, [.r 77], none, [77]⟩] [(7, 3)])
 (.seq (.ops [⟨some 78, .mov, [.r 6], none, [49]⟩,
 ⟨some 79, .mov, [.r 10], none, []⟩,
 ⟨some 80, .mov, [.r 0], none, []⟩,
 ⟨some 81, .mov, [.r 9], none, []⟩,
 ⟨some 82, .ia 1, [.r 80, .r 81], none, [80, 81]⟩,
 ⟨some 83, .ld none, [.r 82], none, [82]⟩,
 ⟨some 84, .bin .quo, [.r 83, .k (.int .u8 6)], none, [83]⟩,
 ⟨some 85, .bin .rem, [.r 84, .k (.int .u8 2)], none, [84]⟩,
 ⟨some 86, .conv .i64, [.r 85], none, [85]⟩,
 ⟨some 87, .call 12, [.r 78, .r 79, .r 86], none, [78, 79, 86]⟩,
 ⟨some 88, .bin .eql, [.r 87, .k (.int .i64 0)], none, [87]⟩]) <|
 .cond (.r 88)
 (.ops [⟨some 89, .mov, [.r 7], none, [7, 88]⟩,
 ⟨some 90, .mov, [.r 10], none, [10]⟩,
 ⟨some 91, .bslice 1 1 [.int .i64 0] [(0, 1)], [.r 90], none, [90]⟩,
 ⟨some 92, .app 1 8, [.r 89, .r 91], none, [89, 91]⟩,
 ⟨some 7, .mov, [.r 92], none, [92]⟩])
 (.skip))) <|
 .seq (.ops [⟨some 93, .mov, [.r 6], none, [10, 88]⟩,
 ⟨some 94, .call 15, [.r 93], none, [93, 94]⟩]) <|
 .seq (.ops [⟨some 13, .mov, [.k (.int .i64 0)], none, []⟩]) <|
 .seq (.seq (.ops [⟨some 14, .mov, [.k (.int .i64 0)], none, []⟩]) <|
 .block 2 (.loop m7_0)) <|
 .seq (.ops [⟨some 120, .mov, [.r 7], none, [14, 98]⟩,
 ⟨some 121, .len, [.r 120], none, [120]⟩,
 ⟨some 122, .bin .gtr, [.r 121, .k (.int .i64 0)], none, [121]⟩,
 ⟨some 123, .mov, [.r 122], none, [122]⟩,
 ⟨some 124, .mov, [.r 13], (some (123, true)), []⟩,
 ⟨some 125, .bin .eql, [.r 124, .k (.int .i64 0)], (some (123, true)), [124]⟩,
 ⟨some 126, .mov, [.r 125], (some (123, true)), [125]⟩,
 ⟨some 127, .mov, [.r 6], (some (126, false)), []⟩,
 ⟨some 128, .mov, [.r 7], (some (126, false)), []⟩,
 ⟨some 129, .ia 1, [.r 128, .k (.int .i64 0)], (some (126, false)), [128]⟩,
 ⟨some 130, .ld none, [.r 129], (some (126, false)), [129]⟩,
 ⟨some 131, .call 21, [.r 127, .r 130], (some (126, false)), [127, 130]⟩,
 ⟨some 132, .un .not, [.r 131], (some (126, false)), [131]⟩,
 ⟨some 133, .pick, [.r 126, .k (.bool true), .r 132], (some (123, true)), [126, 132]⟩,
 ⟨some 134, .pick, [.r 123, .r 133, .k (.bool false)], none, [123, 133]⟩,
 ⟨some 135, .mov, [.r 134], none, [134]⟩,
 ⟨some 136, .mov, [.r 13], (some (135, false)), [13]⟩,
 ⟨some 137, .mov, [.r 5], (some (135, false)), []⟩,
 ⟨some 138, .minmax false, [.r 137, .k (.int .i64 2)], (some (135, false)), [137]⟩,
 ⟨some 139, .bin .gtr, [.r 136, .r 138], (some (135, false)), [136, 138]⟩,
 ⟨some 140, .pick, [.r 135, .k (.bool true), .r 139], none, [135, 139]⟩,
 ⟨some 141, .mov, [.r 140], none, [140]⟩,
 ⟨some 142, .mov, [.r 8], (some (141, false)), []⟩,
 ⟨some 143, .mov, [.r 0], (some (141, false)), []⟩,
 ⟨some 144, .len, [.r 143], (some (141, false)), [143]⟩,
 ⟨some 145, .bin .gtr, [.r 142, .r 144], (some (141, false)), [142, 144]⟩,
 ⟨some 146, .pick, [.r 141, .k (.bool true), .r 145], none, [141, 145]⟩]) <|
 .cond (.r 146)
 (.seq (.ops [⟨some 4, .mov, [.k (.bool false)], none, [0, 5, 6, 7, 8, 9, 146]⟩]) <|
 .ret)
 (.skip))) <|
 .ops [⟨some 31, .mov, [.r 9], none, [9, 146]⟩,
 ⟨some 32, .bin .add, [.r 31, .k (.int .i64 1)], none, [31]⟩,
 ⟨some 9, .mov, [.r 32], none, [32]⟩]
def m7 : MFn := ⟨[.tmp 4], .seq (.ops [⟨some 4, .mov, [.k (.bool false)], none, [4]⟩]) <|
.seq (.seq (.ops [⟨some 15, .call 8, [], none, []⟩,
 ⟨some 16, .un .not, [.r 15], none, [15]⟩]) <|
.cond (.r 16)
 (.seq (.ops [⟨some 4, .mov, [.k (.bool false)], none, [0, 1, 16]⟩]) <|
 .ret)
 (.skip)) <|
.seq (.seq (.ops [⟨some 17, .mov, [.r 0], none, [16]⟩,
 ⟨some 18, .len, [.r 17], none, [17]⟩,
 ⟨some 19, .bin .gtr, [.r 18, .k (.int .i64 30)], none, [18]⟩]) <|
.cond (.r 19)
 (.seq (.ops [⟨some 4, .mov, [.k (.bool true)], none, [0, 1, 19]⟩]) <|
 .ret)
 (.skip)) <|
.seq (.ops [⟨some 20, .mov, [.r 1], none, [1, 19]⟩,
 ⟨some 21, .bin .rem, [.r 20, .k (.int .u8 3)], none, [20]⟩,
 ⟨some 22, .conv .i64, [.r 21], none, [21]⟩,
 ⟨some 23, .bin .add, [.r 22, .k (.int .i64 1)], none, [22]⟩,
 ⟨some 5, .mov, [.r 23], none, [23]⟩]) <|
.seq (.ops [⟨some 24, .mov, [.r 5], none, []⟩,
 ⟨some 25, .call 23, [.k (.int .i64 3), .k (.int .i64 6), .r 24], none, [24]⟩,
 ⟨some 26, .call 10, [.r 25], none, [25]⟩,
 ⟨some 6, .mov, [.r 26], none, [26]⟩]) <|
.seq (.ops [⟨some 7, .mov, [.k (.slice none 0 0)], none, []⟩]) <|
.seq (.ops [⟨some 8, .mov, [.k (.int .i64 0)], none, []⟩]) <|
.seq (.seq (.ops [⟨some 9, .mov, [.k (.int .i64 0)], none, []⟩]) <|
.block 0 (.loop m7_1)) <|
.seq (.ops [⟨some 4, .mov, [.k (.bool true)], none, [0, 5, 6, 7, 8, 9, 30]⟩]) <|
.ret⟩
theorem c7 : cFn Try.prog 7 = some m7.bare := by kernel_rfl

/-- 'swingbridge/swingbridgelaw23.known' -/
def m8 : MFn := ⟨[.tmp 0], .seq (.ops [⟨some 0, .mov, [.k (.bool false)], none, [0]⟩]) <|
.seq (.ops [⟨some 12, .call 27, [.k (.int .i64 1), .k (.int .i64 1), .k (.int .i64 1), .k (.int .i64 1), .k (.int .i64 1)], none, []⟩,
 ⟨some 13, .call 10, [.r 12], none, [12]⟩,
 ⟨some 1, .mov, [.r 13], none, [13]⟩]) <|
.seq (.seq (.ops [⟨some 14, .mov, [.r 1], none, []⟩,
 ⟨some 15, .eqv false .ptr, [.r 14, .k (.pointer none)], none, [14]⟩]) <|
.cond (.r 15)
 (.seq (.ops [⟨some 0, .mov, [.k (.bool false)], none, [1, 15]⟩]) <|
 .ret)
 (.skip)) <|
.seq (.ops [⟨some 16, .mov, [.r 1], none, [15]⟩,
 ⟨some 17, .call 12, [.r 16, .k (.int .i64 1), .k (.int .i64 0)], none, [16]⟩,
 ⟨some 18, .mov, [.r 1], none, []⟩,
 ⟨some 19, .call 12, [.r 18, .k (.int .i64 0), .k (.int .i64 0)], none, [18]⟩,
 ⟨some 20, .mov, [.r 1], none, []⟩,
 ⟨some 21, .call 12, [.r 20, .k (.int .i64 0), .k (.int .i64 0)], none, [20]⟩,
 ⟨some 2, .mov, [.r 17], none, [17]⟩,
 ⟨some 3, .mov, [.r 19], none, [19]⟩,
 ⟨some 4, .mov, [.r 21], none, [21]⟩]) <|
.seq (.ops [⟨some 22, .mov, [.r 1], none, []⟩,
 ⟨some 23, .call 15, [.r 22], none, [22]⟩,
 ⟨some 5, .mov, [.r 23], none, [23]⟩]) <|
.seq (.ops [⟨some 25, .mov, [.r 1], none, []⟩,
 ⟨some 26, .call 24, [.r 25, .k (.int .i64 0)], none, [25]⟩,
 ⟨some 24, .mov, [.r 26], none, [26]⟩,
 ⟨some 27, .extract 0, [.r 24], none, []⟩,
 ⟨some 28, .extract 1, [.r 24], none, [24]⟩,
 ⟨some 6, .mov, [.r 27], none, [27]⟩,
 ⟨some 7, .mov, [.r 28], none, [28]⟩]) <|
.seq (.ops [⟨some 29, .mov, [.r 1], none, []⟩,
 ⟨some 30, .call 25, [.r 29], none, [29]⟩,
 ⟨some 8, .mov, [.r 30], none, [30]⟩]) <|
.seq (.ops [⟨some 31, .mov, [.r 1], none, []⟩,
 ⟨some 32, .call 17, [.r 31, .k (.int .i64 1)], none, [31]⟩,
 ⟨some 33, .mov, [.r 1], none, []⟩,
 ⟨some 34, .call 17, [.r 33, .k (.int .i64 1)], none, [33]⟩,
 ⟨some 9, .mov, [.r 32], none, [32]⟩,
 ⟨some 10, .mov, [.r 34], none, [34]⟩]) <|
.seq (.ops [⟨some 35, .mov, [.r 1], none, []⟩,
 ⟨some 36, .call 15, [.r 35], none, [35]⟩,
 ⟨some 11, .mov, [.r 36], none, [36]⟩]) <|
.seq (.ops [⟨some 37, .mov, [.r 2], none, [2]⟩,
 ⟨some 38, .bin .eql, [.r 37, .k (.int .i64 0)], none, [37]⟩,
 ⟨some 39, .mov, [.r 38], none, [38]⟩,
 ⟨some 40, .mov, [.r 3], (some (39, true)), [3]⟩,
 ⟨some 41, .bin .eql, [.r 40, .k (.int .i64 0)], (some (39, true)), [40]⟩,
 ⟨some 42, .pick, [.r 39, .r 41, .k (.bool false)], none, [39, 41]⟩,
 ⟨some 43, .mov, [.r 42], none, [42]⟩,
 ⟨some 44, .mov, [.r 4], (some (43, true)), [4]⟩,
 ⟨some 45, .bin .eql, [.r 44, .k (.int .i64 17)], (some (43, true)), [44]⟩,
 ⟨some 46, .pick, [.r 43, .r 45, .k (.bool false)], none, [43, 45]⟩,
 ⟨some 47, .mov, [.r 46], none, [46]⟩,
 ⟨some 48, .mov, [.r 5], (some (47, true)), []⟩,
 ⟨some 49, .len, [.r 48], (some (47, true)), [48]⟩,
 ⟨some 50, .bin .eql, [.r 49, .k (.int .i64 1)], (some (47, true)), [49]⟩,
 ⟨some 51, .pick, [.r 47, .r 50, .k (.bool false)], none, [47, 50]⟩,
 ⟨some 52, .mov, [.r 51], none, [51]⟩,
 ⟨some 53, .mov, [.r 5], (some (52, true)), [5]⟩,
 ⟨some 54, .ia 1, [.r 53, .k (.int .i64 0)], (some (52, true)), [53]⟩,
 ⟨some 55, .ld none, [.r 54], (some (52, true)), [54]⟩,
 ⟨some 56, .bin .eql, [.r 55, .k (.int .i64 1)], (some (52, true)), [55]⟩,
 ⟨some 57, .pick, [.r 52, .r 56, .k (.bool false)], none, [52, 56]⟩,
 ⟨some 58, .mov, [.r 57], none, [57]⟩,
 ⟨some 59, .mov, [.r 7], (some (58, true)), [7]⟩,
 ⟨some 60, .pick, [.r 58, .r 59, .k (.bool false)], none, [58, 59]⟩,
 ⟨some 61, .mov, [.r 60], none, [60]⟩,
 ⟨some 62, .mov, [.r 6], (some (61, true)), [6]⟩,
 ⟨some 63, .bin .eql, [.r 62, .k (.int .i64 1)], (some (61, true)), [62]⟩,
 ⟨some 64, .pick, [.r 61, .r 63, .k (.bool false)], none, [61, 63]⟩,
 ⟨some 65, .mov, [.r 64], none, [64]⟩,
 ⟨some 66, .mov, [.r 8], (some (65, true)), []⟩,
 ⟨some 67, .len, [.r 66], (some (65, true)), [66]⟩,
 ⟨some 68, .bin .eql, [.r 67, .k (.int .i64 1)], (some (65, true)), [67]⟩,
 ⟨some 69, .pick, [.r 65, .r 68, .k (.bool false)], none, [65, 68]⟩,
 ⟨some 70, .mov, [.r 69], none, [69]⟩,
 ⟨some 71, .mov, [.r 8], (some (70, true)), [8]⟩,
 ⟨some 72, .ia 1, [.r 71, .k (.int .i64 0)], (some (70, true)), [71]⟩,
 ⟨some 73, .ld none, [.r 72], (some (70, true)), [72]⟩,
 ⟨some 74, .bin .eql, [.r 73, .k (.int .i64 0)], (some (70, true)), [73]⟩,
 ⟨some 75, .pick, [.r 70, .r 74, .k (.bool false)], none, [70, 74]⟩,
 ⟨some 76, .mov, [.r 75], none, [75]⟩,
 ⟨some 77, .mov, [.r 9], (some (76, true)), [9]⟩,
 ⟨some 78, .bin .eql, [.r 77, .k (.int .i64 0)], (some (76, true)), [77]⟩,
 ⟨some 79, .pick, [.r 76, .r 78, .k (.bool false)], none, [76, 78]⟩,
 ⟨some 80, .mov, [.r 79], none, [79]⟩,
 ⟨some 81, .mov, [.r 10], (some (80, true)), [10]⟩,
 ⟨some 82, .bin .eql, [.r 81, .k (.int .i64 13)], (some (80, true)), [81]⟩,
 ⟨some 83, .pick, [.r 80, .r 82, .k (.bool false)], none, [80, 82]⟩,
 ⟨some 84, .mov, [.r 83], none, [83]⟩,
 ⟨some 85, .mov, [.r 11], (some (84, true)), []⟩,
 ⟨some 86, .len, [.r 85], (some (84, true)), [85]⟩,
 ⟨some 87, .bin .eql, [.r 86, .k (.int .i64 1)], (some (84, true)), [86]⟩,
 ⟨some 88, .pick, [.r 84, .r 87, .k (.bool false)], none, [84, 87]⟩,
 ⟨some 89, .mov, [.r 88], none, [88]⟩,
 ⟨some 90, .mov, [.r 11], (some (89, true)), [11]⟩,
 ⟨some 91, .ia 1, [.r 90, .k (.int .i64 0)], (some (89, true)), [90]⟩,
 ⟨some 92, .ld none, [.r 91], (some (89, true)), [91]⟩,
 ⟨some 93, .bin .eql, [.r 92, .k (.int .i64 0)], (some (89, true)), [92]⟩,
 ⟨some 94, .pick, [.r 89, .r 93, .k (.bool false)], none, [89, 93]⟩,
 ⟨some 95, .mov, [.r 94], none, [94]⟩,
 ⟨some 96, .mov, [.r 1], (some (95, true)), []⟩,
 ⟨some 97, .call 21, [.r 96, .k (.int .i64 0)], (some (95, true)), [96]⟩,
 ⟨some 98, .pick, [.r 95, .r 97, .k (.bool false)], none, [95, 97]⟩,
 ⟨some 99, .mov, [.r 98], none, [98]⟩,
 ⟨some 100, .mov, [.r 1], (some (99, true)), []⟩,
 ⟨some 101, .call 26, [.r 100, .k (.int .i64 0)], (some (99, true)), [100]⟩,
 ⟨some 102, .bin .eql, [.r 101, .k (.int .i64 2)], (some (99, true)), [101]⟩,
 ⟨some 103, .pick, [.r 99, .r 102, .k (.bool false)], none, [99, 102]⟩,
 ⟨some 104, .mov, [.r 103], none, [103]⟩,
 ⟨some 105, .mov, [.r 1], (some (104, true)), []⟩,
 ⟨some 106, .call 26, [.r 105, .k (.int .i64 1)], (some (104, true)), [105]⟩,
 ⟨some 107, .bin .eql, [.r 106, .k (.int .i64 0)], (some (104, true)), [106]⟩,
 ⟨some 108, .pick, [.r 104, .r 107, .k (.bool false)], none, [104, 107]⟩,
 ⟨some 109, .mov, [.r 108], none, [108]⟩,
 ⟨some 110, .mov, [.r 1], (some (109, true)), []⟩,
 ⟨some 111, .call 12, [.r 110, .k (.int .i64 5), .k (.int .i64 0)], (some (109, true)), [110]⟩,
 ⟨some 112, .bin .eql, [.r 111, .k (.int .i64 14)], (some (109, true)), [111]⟩,
 ⟨some 113, .pick, [.r 109, .r 112, .k (.bool false)], none, [109, 112]⟩,
 ⟨some 114, .mov, [.r 113], none, [113]⟩,
 ⟨some 115, .mov, [.r 1], (some (114, true)), [1]⟩,
 ⟨some 116, .call 12, [.r 115, .k (.int .i64 1), .k (.int .i64 3)], (some (114, true)), [115]⟩,
 ⟨some 117, .bin .eql, [.r 116, .k (.int .i64 16)], (some (114, true)), [116]⟩,
 ⟨some 118, .pick, [.r 114, .r 117, .k (.bool false)], none, [114, 117]⟩,
 ⟨some 0, .mov, [.r 118], none, [118]⟩]) <|
.ret⟩
theorem c8 : cFn Try.prog 8 = some m8.bare := by kernel_rfl

/-- 'swingbridge/swingbridgelaw23.few' -/
def m9_0 : MCode := .seq (.seq (.ops [⟨some 20, .mov, [.r 3], none, []⟩,
 ⟨some 21, .fa 3, [.r 1], none, []⟩,
 ⟨some 22, .ld none, [.r 21], none, [21]⟩,
 ⟨some 23, .len, [.r 22], none, [22]⟩,
 ⟨some 24, .bin .lss, [.r 20, .r 23], none, [20, 23]⟩]) <|
 .cond (.r 24)
 (.skip)
 (.exit 0)) <|
 .seq (.block 1 (.seq (.ops [⟨some 27, .fa 3, [.r 1], none, [24]⟩,
 ⟨some 28, .ld none, [.r 27], none, [27]⟩,
 ⟨some 29, .mov, [.r 3], none, []⟩,
 ⟨some 30, .ia 6, [.r 28, .r 29], none, [28, 29]⟩,
 ⟨some 31, .fa 0, [.r 30], none, [30]⟩,
 ⟨some 32, .ld none, [.r 31], none, [31]⟩,
 ⟨some 33, .lens, [.r 32], none, [32]⟩,
 ⟨some 34, .bin .gtr, [.r 33, .k (.int .i64 20)], none, [33]⟩,
 ⟨some 35, .mov, [.r 34], none, [34]⟩,
 ⟨some 36, .fa 3, [.r 1], (some (35, false)), []⟩,
 ⟨some 37, .ld none, [.r 36], (some (35, false)), [36]⟩,
 ⟨some 38, .mov, [.r 3], (some (35, false)), []⟩,
 ⟨some 39, .ia 6, [.r 37, .r 38], (some (35, false)), [37, 38]⟩,
 ⟨some 40, .fa 5, [.r 39], (some (35, false)), [39]⟩,
 ⟨some 41, .ld none, [.r 40], (some (35, false)), [40]⟩,
 ⟨some 42, .len, [.r 41], (some (35, false)), [41]⟩,
 ⟨some 43, .bin .gtr, [.r 42, .k (.int .i64 10)], (some (35, false)), [42]⟩,
 ⟨some 44, .pick, [.r 35, .k (.bool true), .r 43], none, [35, 43]⟩]) <|
 .cond (.r 44)
 (.seq (.ops [⟨some 2, .mov, [.k (.bool false)], none, [1, 3, 44]⟩]) <|
 .ret)
 (.skip))) <|
 .ops [⟨some 25, .mov, [.r 3], none, [3, 44]⟩,
 ⟨some 26, .bin .add, [.r 25, .k (.int .i64 1)], none, [25]⟩,
 ⟨some 3, .mov, [.r 26], none, [26]⟩]
def m9 : MFn := ⟨[.tmp 2], .seq (.ops [⟨some 1, .box, [.r 0], none, [0]⟩,
 ⟨some 2, .mov, [.k (.bool false)], none, [2]⟩]) <|
.seq (.seq (.ops [⟨some 4, .fa 1, [.r 1], none, []⟩,
 ⟨some 5, .ld none, [.r 4], none, [4]⟩,
 ⟨some 6, .len, [.r 5], none, [5]⟩,
 ⟨some 7, .bin .gtr, [.r 6, .k (.int .i64 8)], none, [6]⟩,
 ⟨some 8, .mov, [.r 7], none, [7]⟩,
 ⟨some 9, .fa 2, [.r 1], (some (8, false)), []⟩,
 ⟨some 10, .ld none, [.r 9], (some (8, false)), [9]⟩,
 ⟨some 11, .len, [.r 10], (some (8, false)), [10]⟩,
 ⟨some 12, .bin .gtr, [.r 11, .k (.int .i64 10)], (some (8, false)), [11]⟩,
 ⟨some 13, .pick, [.r 8, .k (.bool true), .r 12], none, [8, 12]⟩,
 ⟨some 14, .mov, [.r 13], none, [13]⟩,
 ⟨some 15, .fa 3, [.r 1], (some (14, false)), []⟩,
 ⟨some 16, .ld none, [.r 15], (some (14, false)), [15]⟩,
 ⟨some 17, .len, [.r 16], (some (14, false)), [16]⟩,
 ⟨some 18, .bin .gtr, [.r 17, .k (.int .i64 9)], (some (14, false)), [17]⟩,
 ⟨some 19, .pick, [.r 14, .k (.bool true), .r 18], none, [14, 18]⟩]) <|
.cond (.r 19)
 (.seq (.ops [⟨some 2, .mov, [.k (.bool false)], none, [1, 19]⟩]) <|
 .ret)
 (.skip)) <|
.seq (.seq (.ops [⟨some 3, .mov, [.k (.int .i64 0)], none, [19]⟩]) <|
.block 0 (.loop m9_0)) <|
.seq (.ops [⟨some 2, .mov, [.k (.bool true)], none, [1, 3, 24]⟩]) <|
.ret⟩
theorem c9 : cFn Try.prog 9 = some m9.bare := by kernel_rfl

/-- 'swingbridge/lock.New' -/
def m10_0 : MCode := .seq (.ops [⟨some 29, .bin .lss, [.r 28, .r 27], none, []⟩]) <|
 .seq (.cond (.r 29)
 (.skip)
 (.exit 0)) <|
 .seq (.block 1 (.seq (.ops [⟨some 30, .ia 1, [.r 26, .r 28], none, [29]⟩,
 ⟨some 31, .ld none, [.r 30], none, [30]⟩,
 ⟨some 7, .mov, [.r 31], none, [31]⟩]) <|
 .draw [⟨some 32, .mov, [.r 3], none, []⟩,
 ⟨some 33, .mov, [.r 3], none, []⟩,
 ⟨some 34, .nilck, [.r 33], none, [33]⟩,
 ⟨some 35, .fa 6, [.r 34], none, [34]⟩,
 ⟨some 36, .ld none, [.r 35], none, [35]⟩,
 ⟨some 37, .mov, [.r 7], none, [7]⟩,
 ⟨some 38, .mkchan 0, [.r 37], none, [37]⟩,
 ⟨some 39, .bslice 1 1 [.chan none] [(0, 1)], [.r 38], none, [38]⟩,
 ⟨some 40, .app 1 8, [.r 36, .r 39], none, [36, 39]⟩,
 ⟨some 41, .nilck, [.r 32], none, [32]⟩,
 ⟨some 42, .fa 6, [.r 41], none, [41]⟩,
 ⟨none, .st 1, [.r 42, .r 40], none, [40, 42]⟩] [])) <|
 .ops [⟨some 43, .bin .add, [.r 28, .k (.int .i64 1)], none, [28]⟩,
 ⟨some 28, .mov, [.r 43], none, [43]⟩]
def m10 : MFn := ⟨[.tmp 2], .seq (.ops [⟨some 1, .box, [.r 0], none, [0]⟩,
 ⟨some 2, .mov, [.k (.pointer none)], none, [2]⟩]) <|
.seq (.ops [⟨some 8, .mkmap, [], none, []⟩,
 ⟨some 9, .call 28, [.k (.int .i64 64)], none, []⟩,
 ⟨some 10, .build [.int .i64 0, .slice none 0 0, .slice none 0 0, .slice none 0 0, .map none, .pointer none, .slice none 0 0, .int .i64 0] [(4, 1), (5, 1)], [.r 8, .r 9], none, [8, 9]⟩,
 ⟨some 11, .box, [.r 10], none, [10]⟩,
 ⟨some 3, .mov, [.r 11], none, [11]⟩]) <|
.seq (.seq (.ops [⟨some 13, .ld (some 4), [.r 1], none, []⟩,
 ⟨some 14, .call 29, [.r 13], none, [13]⟩,
 ⟨some 12, .mov, [.r 14], none, [14]⟩,
 ⟨some 15, .extract 0, [.r 12], none, []⟩,
 ⟨some 16, .extract 1, [.r 12], none, [12]⟩,
 ⟨some 4, .mov, [.r 15], none, [4, 15]⟩,
 ⟨some 5, .mov, [.r 16], none, [16]⟩]) <|
.seq (.ops [⟨some 17, .mov, [.r 5], none, [5]⟩,
 ⟨some 18, .bin .neq, [.r 17, .k (.int .i64 0)], none, [17]⟩]) <|
.cond (.r 18)
 (.seq (.ops [⟨some 19, .mov, [.r 3], none, [1, 3, 18]⟩,
 ⟨some 2, .mov, [.r 19], none, [19]⟩]) <|
 .ret)
 (.skip)) <|
.seq (.ops [⟨some 20, .mov, [.r 3], none, [18]⟩,
 ⟨some 21, .ld (some 4), [.r 1], none, []⟩,
 ⟨some 22, .call 30, [.r 21], none, [21]⟩,
 ⟨some 23, .nilck, [.r 20], none, [20]⟩,
 ⟨some 24, .fa 0, [.r 23], none, [23]⟩,
 ⟨none, .st 4, [.r 24, .r 22], none, [22, 24]⟩]) <|
.seq (.seq (.ops [⟨some 25, .fa 1, [.r 1], none, [1]⟩,
 ⟨some 26, .ld none, [.r 25], none, [25]⟩,
 ⟨some 27, .len, [.r 26], none, []⟩,
 ⟨some 28, .mov, [.k (.int .i64 0)], none, []⟩]) <|
.block 0 (.loop m10_0)) <|
.seq (.ops [⟨some 44, .mov, [.r 3], none, [3, 26, 27, 28, 29]⟩,
 ⟨some 2, .mov, [.r 44], none, [44]⟩]) <|
.ret⟩
theorem c10 : cFn Try.prog 10 = some m10.bare := by kernel_rfl

/-- 'swingbridge/swingbridgeref23.NewLocks' -/
def m11 : MFn := ⟨[.tmp 2], .seq (.ops [⟨some 1, .box, [.r 0], none, [0]⟩,
 ⟨some 2, .mov, [.k (.pointer none)], none, [2]⟩]) <|
.seq (.seq (.ops [⟨some 3, .ld (some 4), [.r 1], none, []⟩,
 ⟨some 4, .call 20, [.r 3], none, [3]⟩,
 ⟨some 5, .un .not, [.r 4], none, [4]⟩]) <|
.cond (.r 5)
 (.seq (.ops [⟨some 6, .build [.int .i64 0, .slice none 0 0, .slice none 0 0, .slice none 0 0, .slice none 0 0, .int .i64 0] [], [], none, [1, 5]⟩,
 ⟨some 7, .box, [.r 6], none, [6]⟩,
 ⟨some 2, .mov, [.r 7], none, [7]⟩]) <|
 .ret)
 (.skip)) <|
.seq (.ops [⟨some 8, .ld (some 4), [.r 1], none, [1, 5]⟩,
 ⟨some 9, .build [.int .i64 0, .slice none 0 0, .slice none 0 0, .slice none 0 0, .slice none 0 0, .int .i64 0] [(0, 4)], [.r 8], none, [8]⟩,
 ⟨some 10, .box, [.r 9], none, [9]⟩,
 ⟨some 2, .mov, [.r 10], none, [10]⟩]) <|
.ret⟩
theorem c11 : cFn Try.prog 11 = some m11.bare := by kernel_rfl

/-- '(*swingbridge/lock.Locks).Ask' -/
def m12 : MFn := ⟨[.tmp 6], .seq (.ops [⟨some 6, .mov, [.k (.int .i64 0)], none, [6]⟩]) <|
.seq (.block 0 (.seq (.ops [⟨some 9, .mov, [.r 1], none, []⟩,
 ⟨some 10, .bin .lss, [.r 9, .k (.int .i64 0)], none, [9]⟩,
 ⟨some 11, .mov, [.r 10], none, [10]⟩,
 ⟨some 12, .mov, [.r 1], (some (11, false)), []⟩,
 ⟨some 13, .mov, [.r 0], (some (11, false)), []⟩,
 ⟨some 14, .nilck, [.r 13], (some (11, false)), [13]⟩,
 ⟨some 15, .fa 0, [.r 14], (some (11, false)), [14]⟩,
 ⟨some 16, .fa 3, [.r 15], (some (11, false)), [15]⟩,
 ⟨some 17, .ld none, [.r 16], (some (11, false)), [16]⟩,
 ⟨some 18, .len, [.r 17], (some (11, false)), [17]⟩,
 ⟨some 19, .bin .geq, [.r 12, .r 18], (some (11, false)), [12, 18]⟩,
 ⟨some 20, .pick, [.r 11, .k (.bool true), .r 19], none, [11, 19]⟩,
 ⟨some 8, .mov, [.r 20], none, [20]⟩]) <|
 .cond (.r 8)
 (.seq (.ops [⟨some 6, .mov, [.k (.int .i64 14)], none, [0, 1, 2, 8]⟩]) <|
 .ret)
 (.seq (.ops [⟨some 22, .mov, [.r 2], none, [8]⟩,
 ⟨some 23, .bin .lss, [.r 22, .k (.int .i64 0)], none, [22]⟩,
 ⟨some 24, .mov, [.r 23], none, [23]⟩,
 ⟨some 25, .mov, [.r 2], (some (24, false)), []⟩,
 ⟨some 26, .mov, [.r 0], (some (24, false)), []⟩,
 ⟨some 27, .nilck, [.r 26], (some (24, false)), [26]⟩,
 ⟨some 28, .fa 0, [.r 27], (some (24, false)), [27]⟩,
 ⟨some 29, .fa 2, [.r 28], (some (24, false)), [28]⟩,
 ⟨some 30, .ld none, [.r 29], (some (24, false)), [29]⟩,
 ⟨some 31, .len, [.r 30], (some (24, false)), [30]⟩,
 ⟨some 32, .bin .geq, [.r 25, .r 31], (some (24, false)), [25, 31]⟩,
 ⟨some 33, .pick, [.r 24, .k (.bool true), .r 32], none, [24, 32]⟩,
 ⟨some 21, .mov, [.r 33], none, [33]⟩]) <|
 .cond (.r 21)
 (.seq (.ops [⟨some 6, .mov, [.k (.int .i64 16)], none, [0, 1, 2, 21]⟩]) <|
 .ret)
 (.seq (.ops [⟨some 35, .mov, [.r 0], none, [21]⟩,
 ⟨some 36, .nilck, [.r 35], none, [35]⟩,
 ⟨some 37, .fa 4, [.r 36], none, [36]⟩,
 ⟨some 38, .ld none, [.r 37], none, [37]⟩,
 ⟨some 39, .mov, [.r 1], none, []⟩,
 ⟨some 40, .look (.pointer none) false, [.r 38, .r 39], none, [38, 39]⟩,
 ⟨some 41, .eqv true .ptr, [.r 40, .k (.pointer none)], none, [40]⟩,
 ⟨some 34, .mov, [.r 41], none, [41]⟩]) <|
 .cond (.r 34)
 (.seq (.ops [⟨some 6, .mov, [.k (.int .i64 17)], none, [0, 1, 2, 34]⟩]) <|
 .ret)
 (.skip))))) <|
.seq (.ops [⟨some 42, .mov, [.r 2], none, [2, 34]⟩,
 ⟨some 43, .build [.int .i64 0, .int .i64 0, .bool false, .bool false, .bool false] [(0, 1)], [.r 42], none, [42]⟩,
 ⟨some 44, .box, [.r 43], none, [43]⟩,
 ⟨some 7, .mov, [.r 44], none, [44]⟩]) <|
.seq (.seq (.ops [⟨some 45, .mov, [.r 0], none, []⟩,
 ⟨some 46, .nilck, [.r 45], none, [45]⟩,
 ⟨some 47, .fa 0, [.r 46], none, [46]⟩,
 ⟨some 48, .fa 0, [.r 47], none, [47]⟩,
 ⟨some 49, .ld none, [.r 48], none, [48]⟩,
 ⟨some 50, .bin .neq, [.r 49, .k (.int .i64 3)], none, [49]⟩]) <|
.cond (.r 50)
 (.seq (.ops [⟨some 51, .mov, [.r 0], none, [50]⟩,
 ⟨some 52, .nilck, [.r 51], none, []⟩,
 ⟨some 53, .fa 7, [.r 52], none, [52]⟩,
 ⟨some 54, .ld none, [.r 53], none, [53]⟩,
 ⟨some 55, .bin .add, [.r 54, .k (.int .i64 1)], none, [54]⟩,
 ⟨some 56, .nilck, [.r 51], none, [51]⟩,
 ⟨some 57, .fa 7, [.r 56], none, [56]⟩,
 ⟨none, .st 1, [.r 57, .r 55], none, [55, 57]⟩]) <|
 .ops [⟨some 58, .mov, [.r 7], none, []⟩,
 ⟨some 59, .mov, [.r 7], none, []⟩,
 ⟨some 60, .mov, [.r 0], none, []⟩,
 ⟨some 61, .nilck, [.r 60], none, [60]⟩,
 ⟨some 62, .fa 7, [.r 61], none, [61]⟩,
 ⟨some 63, .ld none, [.r 62], none, [62]⟩,
 ⟨some 64, .nilck, [.r 58], none, [58]⟩,
 ⟨some 65, .fa 1, [.r 64], none, [64]⟩,
 ⟨none, .st 1, [.r 65, .r 63], none, [63, 65]⟩,
 ⟨some 66, .nilck, [.r 59], none, [59]⟩,
 ⟨some 67, .fa 2, [.r 66], none, [66]⟩,
 ⟨none, .st 1, [.r 67, .k (.bool true)], none, [67]⟩])
 (.skip)) <|
.seq (.ops [⟨some 68, .mov, [.r 0], none, [50]⟩,
 ⟨some 69, .nilck, [.r 68], none, [68]⟩,
 ⟨some 70, .fa 4, [.r 69], none, [69]⟩,
 ⟨some 71, .ld none, [.r 70], none, [70]⟩,
 ⟨some 72, .mov, [.r 1], none, []⟩,
 ⟨some 73, .mov, [.r 7], none, [7]⟩,
 ⟨none, .mset, [.r 71, .r 72, .r 73], none, [71, 72, 73]⟩]) <|
.seq (.ops [⟨some 74, .mov, [.r 0], none, [0]⟩,
 ⟨some 75, .nilck, [.r 74], none, [74]⟩,
 ⟨some 76, .fa 5, [.r 75], none, [75]⟩,
 ⟨some 77, .ld none, [.r 76], none, [76]⟩,
 ⟨some 78, .mov, [.r 1], none, [1]⟩,
 ⟨some 79, .call 31, [.r 77, .r 78], none, [77, 78]⟩,
 ⟨some 6, .mov, [.r 79], none, [79]⟩]) <|
.ret⟩
theorem c12 : cFn Try.prog 12 = some m12.bare := by kernel_rfl

/-- '(*swingbridge/swingbridgeref23.Locks).Ask' -/
def m13 : MFn := ⟨[.tmp 6], .seq (.ops [⟨some 6, .mov, [.k (.int .i64 0)], none, [6]⟩]) <|
.seq (.block 0 (.seq (.ops [⟨some 9, .mov, [.r 1], none, []⟩,
 ⟨some 10, .bin .lss, [.r 9, .k (.int .i64 0)], none, [9]⟩,
 ⟨some 11, .mov, [.r 10], none, [10]⟩,
 ⟨some 12, .mov, [.r 1], (some (11, false)), []⟩,
 ⟨some 13, .mov, [.r 0], (some (11, false)), []⟩,
 ⟨some 14, .nilck, [.r 13], (some (11, false)), [13]⟩,
 ⟨some 15, .fa 0, [.r 14], (some (11, false)), [14]⟩,
 ⟨some 16, .fa 3, [.r 15], (some (11, false)), [15]⟩,
 ⟨some 17, .ld none, [.r 16], (some (11, false)), [16]⟩,
 ⟨some 18, .len, [.r 17], (some (11, false)), [17]⟩,
 ⟨some 19, .bin .geq, [.r 12, .r 18], (some (11, false)), [12, 18]⟩,
 ⟨some 20, .pick, [.r 11, .k (.bool true), .r 19], none, [11, 19]⟩,
 ⟨some 8, .mov, [.r 20], none, [20]⟩]) <|
 .cond (.r 8)
 (.seq (.ops [⟨some 6, .mov, [.k (.int .i64 14)], none, [0, 1, 2, 8]⟩]) <|
 .ret)
 (.seq (.ops [⟨some 22, .mov, [.r 2], none, [8]⟩,
 ⟨some 23, .bin .lss, [.r 22, .k (.int .i64 0)], none, [22]⟩,
 ⟨some 24, .mov, [.r 23], none, [23]⟩,
 ⟨some 25, .mov, [.r 2], (some (24, false)), []⟩,
 ⟨some 26, .mov, [.r 0], (some (24, false)), []⟩,
 ⟨some 27, .nilck, [.r 26], (some (24, false)), [26]⟩,
 ⟨some 28, .fa 0, [.r 27], (some (24, false)), [27]⟩,
 ⟨some 29, .fa 2, [.r 28], (some (24, false)), [28]⟩,
 ⟨some 30, .ld none, [.r 29], (some (24, false)), [29]⟩,
 ⟨some 31, .len, [.r 30], (some (24, false)), [30]⟩,
 ⟨some 32, .bin .geq, [.r 25, .r 31], (some (24, false)), [25, 31]⟩,
 ⟨some 33, .pick, [.r 24, .k (.bool true), .r 32], none, [24, 32]⟩,
 ⟨some 21, .mov, [.r 33], none, [33]⟩]) <|
 .cond (.r 21)
 (.seq (.ops [⟨some 6, .mov, [.k (.int .i64 16)], none, [0, 1, 2, 21]⟩]) <|
 .ret)
 (.seq (.ops [⟨some 35, .mov, [.r 0], none, [21]⟩,
 ⟨some 36, .mov, [.r 1], none, []⟩,
 ⟨some 37, .call 32, [.r 35, .r 36], none, [35, 36]⟩,
 ⟨some 38, .bin .geq, [.r 37, .k (.int .i64 0)], none, [37]⟩,
 ⟨some 34, .mov, [.r 38], none, [38]⟩]) <|
 .cond (.r 34)
 (.seq (.ops [⟨some 6, .mov, [.k (.int .i64 17)], none, [0, 1, 2, 34]⟩]) <|
 .ret)
 (.skip))))) <|
.seq (.ops [⟨some 39, .mov, [.r 1], none, [1, 34]⟩,
 ⟨some 40, .mov, [.r 2], none, [2]⟩,
 ⟨some 41, .build [.int .i64 0, .int .i64 0, .int .i64 0, .bool false] [(0, 1), (1, 1)], [.r 39, .r 40], none, [39, 40]⟩,
 ⟨some 7, .new 0 [.int .i64 0, .int .i64 0, .int .i64 0, .bool false], [], none, []⟩,
 ⟨none, .st 4, [.r 7, .r 41], none, [41]⟩]) <|
.seq (.seq (.ops [⟨some 42, .mov, [.r 0], none, []⟩,
 ⟨some 43, .nilck, [.r 42], none, [42]⟩,
 ⟨some 44, .fa 0, [.r 43], none, [43]⟩,
 ⟨some 45, .fa 0, [.r 44], none, [44]⟩,
 ⟨some 46, .ld none, [.r 45], none, [45]⟩,
 ⟨some 47, .bin .neq, [.r 46, .k (.int .i64 3)], none, [46]⟩]) <|
.cond (.r 47)
 (.seq (.ops [⟨some 48, .mov, [.r 0], none, [47]⟩,
 ⟨some 49, .mov, [.r 0], none, []⟩,
 ⟨some 50, .nilck, [.r 49], none, [49]⟩,
 ⟨some 51, .fa 5, [.r 50], none, [50]⟩,
 ⟨some 52, .ld none, [.r 51], none, [51]⟩,
 ⟨some 53, .bin .add, [.r 52, .k (.int .i64 1)], none, [52]⟩,
 ⟨some 54, .nilck, [.r 48], none, [48]⟩,
 ⟨some 55, .fa 5, [.r 54], none, [54]⟩,
 ⟨none, .st 1, [.r 55, .r 53], none, [53, 55]⟩]) <|
 .ops [⟨some 56, .mov, [.r 0], none, []⟩,
 ⟨some 57, .nilck, [.r 56], none, [56]⟩,
 ⟨some 58, .fa 5, [.r 57], none, [57]⟩,
 ⟨some 59, .ld none, [.r 58], none, [58]⟩,
 ⟨some 60, .fa 2, [.r 7], none, []⟩,
 ⟨none, .st 1, [.r 60, .r 59], none, [59, 60]⟩])
 (.skip)) <|
.seq (.draw [⟨some 61, .mov, [.r 0], none, [47]⟩,
 ⟨some 62, .mov, [.r 0], none, [0]⟩,
 ⟨some 63, .nilck, [.r 62], none, [62]⟩,
 ⟨some 64, .fa 4, [.r 63], none, [63]⟩,
 ⟨some 65, .ld none, [.r 64], none, [64]⟩,
 ⟨some 66, .app 4 32, [.k (.slice none 0 0), .r 65], none, [65]⟩,
 ⟨some 67, .ld (some 4), [.r 7], none, [7]⟩,
 ⟨some 68, .bslice 4 1 [.int .i64 0, .int .i64 0, .int .i64 0, .bool false] [(0, 4)], [.r 67], none, [67]⟩,
 ⟨some 69, .app 4 32, [.r 66, .r 68], none, [66, 68]⟩,
 ⟨some 70, .nilck, [.r 61], none, [61]⟩,
 ⟨some 71, .fa 4, [.r 70], none, [70]⟩,
 ⟨none, .st 1, [.r 71, .r 69], none, [69, 71]⟩] [(6, 5), (7, 5)]) <|
.seq (.ops [⟨some 6, .mov, [.k (.int .i64 0)], none, []⟩]) <|
.ret⟩
theorem c13 : cFn Try.prog 13 = some m13.bare := by kernel_rfl

/-- 'swingbridge/swingbridgeref2.SameInts' -/
def m14_0 : MCode := .seq (.seq (.ops [⟨some 11, .mov, [.r 5], none, []⟩,
 ⟨some 12, .mov, [.r 0], none, []⟩,
 ⟨some 13, .len, [.r 12], none, [12]⟩,
 ⟨some 14, .bin .lss, [.r 11, .r 13], none, [11, 13]⟩]) <|
 .cond (.r 14)
 (.skip)
 (.exit 0)) <|
 .seq (.block 1 (.seq (.draw [⟨some 17, .mov, [.r 0], none, [14]⟩,
 ⟨some 18, .mov, [.r 5], none, []⟩,
 ⟨some 19, .ia 1, [.r 17, .r 18], none, [17, 18]⟩,
 ⟨some 20, .ld none, [.r 19], none, [19]⟩,
 ⟨some 21, .mov, [.r 1], none, []⟩,
 ⟨some 22, .mov, [.r 5], none, []⟩,
 ⟨some 23, .ia 1, [.r 21, .r 22], none, [21, 22]⟩,
 ⟨some 24, .ld none, [.r 23], none, [23]⟩,
 ⟨some 25, .bin .neq, [.r 20, .r 24], none, [20, 24]⟩] []) <|
 .cond (.r 25)
 (.seq (.ops [⟨some 4, .mov, [.k (.bool false)], none, [0, 1, 5, 25]⟩]) <|
 .ret)
 (.skip))) <|
 .ops [⟨some 15, .mov, [.r 5], none, [5, 25]⟩,
 ⟨some 16, .bin .add, [.r 15, .k (.int .i64 1)], none, [15]⟩,
 ⟨some 5, .mov, [.r 16], none, [16]⟩]
def m14 : MFn := ⟨[.tmp 4], .seq (.ops [⟨some 4, .mov, [.k (.bool false)], none, [4]⟩]) <|
.seq (.seq (.ops [⟨some 6, .mov, [.r 0], none, []⟩,
 ⟨some 7, .len, [.r 6], none, [6]⟩,
 ⟨some 8, .mov, [.r 1], none, []⟩,
 ⟨some 9, .len, [.r 8], none, [8]⟩,
 ⟨some 10, .bin .neq, [.r 7, .r 9], none, [7, 9]⟩]) <|
.cond (.r 10)
 (.seq (.ops [⟨some 4, .mov, [.k (.bool false)], none, [0, 1, 10]⟩]) <|
 .ret)
 (.skip)) <|
.seq (.seq (.ops [⟨some 5, .mov, [.k (.int .i64 0)], none, [10]⟩]) <|
.block 0 (.loop m14_0)) <|
.seq (.ops [⟨some 4, .mov, [.k (.bool true)], none, [0, 1, 5, 14]⟩]) <|
.ret⟩
theorem c14 : cFn Try.prog 14 = some m14.bare := by kernel_rfl

/-- '(*swingbridge/lock.Locks).Grant' -/
def m15_0 : MCode := .seq (.ops [⟨some 34, .bin .lss, [.r 33, .r 32], none, []⟩]) <|
 .seq (.cond (.r 34)
 (.skip)
 (.exit 1)) <|
 .seq (.block 2 (.seq (.ops [⟨some 35, .mov, [.r 33], none, [34]⟩,
 ⟨some 6, .mov, [.r 35], none, [35]⟩]) <|
 .seq (.ops [⟨some 36, .ld none, [.r 1], none, []⟩,
 ⟨some 37, .nilck, [.r 36], none, [36]⟩,
 ⟨some 38, .fa 4, [.r 37], none, [37]⟩,
 ⟨some 39, .ld none, [.r 38], none, [38]⟩,
 ⟨some 40, .mov, [.r 6], none, []⟩,
 ⟨some 41, .look (.pointer none) false, [.r 39, .r 40], none, [39, 40]⟩,
 ⟨some 7, .mov, [.r 41], none, [41]⟩]) <|
 .seq (.ops [⟨some 42, .mov, [.r 7], none, []⟩,
 ⟨some 43, .eqv true .ptr, [.r 42, .k (.pointer none)], none, [42]⟩,
 ⟨some 44, .mov, [.r 43], none, [43]⟩,
 ⟨some 45, .mov, [.r 7], (some (44, true)), []⟩,
 ⟨some 46, .nilck, [.r 45], (some (44, true)), [45]⟩,
 ⟨some 47, .fa 3, [.r 46], (some (44, true)), [46]⟩,
 ⟨some 48, .ld none, [.r 47], (some (44, true)), [47]⟩,
 ⟨some 49, .pick, [.r 44, .r 48, .k (.bool false)], none, [44, 48]⟩,
 ⟨some 50, .mov, [.r 49], none, [49]⟩,
 ⟨some 51, .mov, [.r 7], (some (50, true)), []⟩,
 ⟨some 52, .nilck, [.r 51], (some (50, true)), [51]⟩,
 ⟨some 53, .fa 4, [.r 52], (some (50, true)), [52]⟩,
 ⟨some 54, .ld none, [.r 53], (some (50, true)), [53]⟩,
 ⟨some 55, .un .not, [.r 54], (some (50, true)), [54]⟩,
 ⟨some 56, .pick, [.r 50, .r 55, .k (.bool false)], none, [50, 55]⟩]) <|
 .cond (.r 56)
 (.seq (.ops [⟨some 57, .mov, [.r 7], none, [7, 56]⟩,
 ⟨some 58, .nilck, [.r 57], none, [57]⟩,
 ⟨some 59, .fa 4, [.r 58], none, [58]⟩,
 ⟨none, .st 1, [.r 59, .k (.bool true)], none, [59]⟩]) <|
 .ops [⟨some 60, .mov, [.r 5], none, [5]⟩,
 ⟨some 61, .mov, [.r 6], none, [6]⟩,
 ⟨some 62, .bslice 1 1 [.int .i64 0] [(0, 1)], [.r 61], none, [61]⟩,
 ⟨some 63, .app 1 8, [.r 60, .r 62], none, [60, 62]⟩,
 ⟨some 5, .mov, [.r 63], none, [63]⟩])
 (.skip))) <|
 .ops [⟨some 64, .bin .add, [.r 33, .k (.int .i64 1)], none, [6, 7, 33, 56]⟩,
 ⟨some 33, .mov, [.r 64], none, [64]⟩]
def m15 : MFn := ⟨[.tmp 2], .seq (.ops [⟨some 1, .box, [.r 0], none, [0]⟩,
 ⟨some 2, .mov, [.k (.slice none 0 0)], none, [2]⟩]) <|
.seq (.ops [⟨some 8, .mkfunc 33, [.r 1], none, []⟩,
 ⟨some 3, .mov, [.r 8], none, [8]⟩]) <|
.seq (.ops [⟨some 9, .mkfunc 34, [.r 1], none, []⟩,
 ⟨some 4, .mov, [.r 9], none, [9]⟩]) <|
.seq (.seq (.ops [⟨some 10, .ld none, [.r 1], none, []⟩,
 ⟨some 11, .nilck, [.r 10], none, [10]⟩,
 ⟨some 12, .fa 0, [.r 11], none, [11]⟩,
 ⟨some 13, .fa 0, [.r 12], none, [12]⟩,
 ⟨some 14, .ld none, [.r 13], none, [13]⟩]) <|
.block 0 (.seq (.ops [⟨some 22, .bin .eql, [.r 14, .k (.int .i64 2)], none, [14]⟩,
 ⟨some 21, .mov, [.r 22], none, [22]⟩]) <|
 .cond (.r 21)
 (.ops [⟨some 23, .ld none, [.r 1], none, [3, 21]⟩,
 ⟨some 24, .mov, [.r 4], none, [4]⟩,
 ⟨some 25, .mkfunc 36, [.r 1], none, []⟩,
 ⟨some 26, .call 35, [.r 23, .r 24, .r 25], none, [23, 24, 25, 26]⟩])
 (.seq (.ops [⟨some 15, .ld none, [.r 1], none, [4, 21]⟩,
 ⟨some 16, .call 38, [.r 15], none, [15, 16]⟩]) <|
 .ops [⟨some 17, .ld none, [.r 1], none, []⟩,
 ⟨some 18, .mov, [.r 3], none, [3]⟩,
 ⟨some 19, .mkfunc 39, [.r 1], none, []⟩,
 ⟨some 20, .call 35, [.r 17, .r 18, .r 19], none, [17, 18, 19, 20]⟩]))) <|
.seq (.ops [⟨some 5, .mov, [.k (.slice none 0 0)], none, []⟩]) <|
.seq (.seq (.ops [⟨some 27, .ld none, [.r 1], none, []⟩,
 ⟨some 28, .nilck, [.r 27], none, [27]⟩,
 ⟨some 29, .fa 0, [.r 28], none, [28]⟩,
 ⟨some 30, .fa 3, [.r 29], none, [29]⟩,
 ⟨some 31, .ld none, [.r 30], none, [30]⟩,
 ⟨some 32, .len, [.r 31], none, [31]⟩,
 ⟨some 33, .mov, [.k (.int .i64 0)], none, []⟩]) <|
.block 1 (.loop m15_0)) <|
.seq (.ops [⟨some 65, .mov, [.r 5], none, [1, 5, 32, 33, 34]⟩,
 ⟨some 2, .mov, [.r 65], none, [65]⟩]) <|
.ret⟩
theorem c15 : cFn Try.prog 15 = some m15.bare := by kernel_rfl

/-- '(*swingbridge/swingbridgeref23.Locks).Grant' -/
def m16_0 : MCode := .seq (.seq (.ops [⟨some 45, .mov, [.r 6], none, []⟩,
 ⟨some 46, .bin .lss, [.r 45, .k (.int .i64 6)], none, [45]⟩]) <|
 .cond (.r 46)
 (.skip)
 (.exit 2)) <|
 .seq (.block 3 (.seq (.ops [⟨some 49, .mov, [.r 6], none, [46]⟩,
 ⟨some 50, .iarr 6 1, [.r 3, .r 49], none, [49]⟩,
 ⟨some 51, .ld none, [.r 50], none, [50]⟩]) <|
 .cond (.r 51)
 (.ops [⟨some 52, .mov, [.r 5], none, [5, 51]⟩,
 ⟨some 53, .mov, [.r 6], none, []⟩,
 ⟨some 54, .bslice 1 1 [.int .i64 0] [(0, 1)], [.r 53], none, [53]⟩,
 ⟨some 55, .app 1 8, [.r 52, .r 54], none, [52, 54]⟩,
 ⟨some 5, .mov, [.r 55], none, [55]⟩])
 (.skip))) <|
 .ops [⟨some 47, .mov, [.r 6], none, [6, 51]⟩,
 ⟨some 48, .bin .add, [.r 47, .k (.int .i64 1)], none, [47]⟩,
 ⟨some 6, .mov, [.r 48], none, [48]⟩]
def m16_1 : MCode := .seq (.seq (.ops [⟨some 25, .mov, [.r 4], none, []⟩,
 ⟨some 26, .bin .geq, [.r 25, .k (.int .i64 0)], none, [25]⟩]) <|
 .cond (.r 26)
 (.skip)
 (.exit 0)) <|
 .seq (.block 1 (.seq (.ops [⟨some 29, .mov, [.r 0], none, [26]⟩,
 ⟨some 30, .nilck, [.r 29], none, [29]⟩,
 ⟨some 31, .fa 4, [.r 30], none, [30]⟩,
 ⟨some 32, .ld none, [.r 31], none, [31]⟩,
 ⟨some 33, .mov, [.r 4], none, []⟩,
 ⟨some 34, .ia 4, [.r 32, .r 33], none, [32, 33]⟩,
 ⟨some 35, .fa 3, [.r 34], none, [34]⟩,
 ⟨none, .st 1, [.r 35, .k (.bool true)], none, [35]⟩]) <|
 .ops [⟨some 36, .mov, [.r 0], none, []⟩,
 ⟨some 37, .nilck, [.r 36], none, [36]⟩,
 ⟨some 38, .fa 4, [.r 37], none, [37]⟩,
 ⟨some 39, .ld none, [.r 38], none, [38]⟩,
 ⟨some 40, .mov, [.r 4], none, [4]⟩,
 ⟨some 41, .ia 4, [.r 39, .r 40], none, [39, 40]⟩,
 ⟨some 42, .fa 0, [.r 41], none, [41]⟩,
 ⟨some 43, .ld none, [.r 42], none, [42]⟩,
 ⟨some 44, .iarr 6 1, [.r 3, .r 43], none, [43]⟩,
 ⟨none, .st 1, [.r 44, .k (.bool true)], none, [44]⟩])) <|
 .ops [⟨some 27, .mov, [.r 0], none, []⟩,
 ⟨some 28, .call 41, [.r 27], none, [27]⟩,
 ⟨some 4, .mov, [.r 28], none, [28]⟩]
def m16 : MFn := ⟨[.tmp 2], .seq (.ops [⟨some 2, .mov, [.k (.slice none 0 0)], none, [2]⟩]) <|
.seq (.ops [⟨some 7, .mov, [.r 0], none, []⟩,
 ⟨some 8, .mov, [.r 0], none, []⟩,
 ⟨some 9, .nilck, [.r 8], none, [8]⟩,
 ⟨some 10, .fa 4, [.r 9], none, [9]⟩,
 ⟨some 11, .ld none, [.r 10], none, [10]⟩,
 ⟨some 12, .app 4 32, [.k (.slice none 0 0), .r 11], none, [11]⟩,
 ⟨some 13, .nilck, [.r 7], none, [7]⟩,
 ⟨some 14, .fa 4, [.r 13], none, [13]⟩,
 ⟨none, .st 1, [.r 14, .r 12], none, [12, 14]⟩]) <|
.seq (.seq (.ops [⟨some 15, .mov, [.r 0], none, []⟩,
 ⟨some 16, .nilck, [.r 15], none, [15]⟩,
 ⟨some 17, .fa 0, [.r 16], none, [16]⟩,
 ⟨some 18, .fa 0, [.r 17], none, [17]⟩,
 ⟨some 19, .ld none, [.r 18], none, [18]⟩,
 ⟨some 20, .bin .eql, [.r 19, .k (.int .i64 3)], none, [19]⟩]) <|
.cond (.r 20)
 (.ops [⟨some 21, .mov, [.r 0], none, [20]⟩,
 ⟨some 22, .call 40, [.r 21], none, [21, 22]⟩])
 (.skip)) <|
.seq (.ops [⟨some 3, .new 1 [.bool false, .bool false, .bool false, .bool false, .bool false, .bool false], [], none, [20]⟩]) <|
.seq (.seq (.ops [⟨some 23, .mov, [.r 0], none, []⟩,
 ⟨some 24, .call 41, [.r 23], none, [23]⟩,
 ⟨some 4, .mov, [.r 24], none, [24]⟩]) <|
.block 0 (.loop m16_1)) <|
.seq (.ops [⟨some 5, .mov, [.k (.slice none 0 0)], none, [0, 4, 26]⟩]) <|
.seq (.seq (.ops [⟨some 6, .mov, [.k (.int .i64 0)], none, []⟩]) <|
.block 2 (.loop m16_0)) <|
.seq (.ops [⟨some 56, .mov, [.r 5], none, [3, 5, 6, 46]⟩,
 ⟨some 2, .mov, [.r 56], none, [56]⟩]) <|
.ret⟩
theorem c16 : cFn Try.prog 16 = some m16.bare := by kernel_rfl

/-- '(*swingbridge/lock.Locks).Leave' -/
def m17 : MFn := ⟨[.tmp 4], .seq (.ops [⟨some 4, .mov, [.k (.int .i64 0)], none, [4]⟩]) <|
.seq (.ops [⟨some 6, .mov, [.r 0], none, []⟩,
 ⟨some 7, .nilck, [.r 6], none, [6]⟩,
 ⟨some 8, .fa 4, [.r 7], none, [7]⟩,
 ⟨some 9, .ld none, [.r 8], none, [8]⟩,
 ⟨some 10, .mov, [.r 1], none, []⟩,
 ⟨some 11, .look (.pointer none) false, [.r 9, .r 10], none, [9, 10]⟩,
 ⟨some 5, .mov, [.r 11], none, [11]⟩]) <|
.seq (.seq (.ops [⟨some 12, .mov, [.r 5], none, []⟩,
 ⟨some 13, .eqv false .ptr, [.r 12, .k (.pointer none)], none, [12]⟩]) <|
.cond (.r 13)
 (.seq (.ops [⟨some 4, .mov, [.k (.int .i64 13)], none, [0, 1, 5, 13]⟩]) <|
 .ret)
 (.skip)) <|
.seq (.ops [⟨some 14, .mov, [.r 0], none, [13]⟩,
 ⟨some 15, .nilck, [.r 14], none, [14]⟩,
 ⟨some 16, .fa 5, [.r 15], none, [15]⟩,
 ⟨some 17, .ld none, [.r 16], none, [16]⟩,
 ⟨some 18, .mov, [.r 1], none, []⟩,
 ⟨some 19, .call 42, [.r 17, .r 18], none, [17, 18, 19]⟩]) <|
.seq (.ops [⟨some 20, .mov, [.r 0], none, []⟩,
 ⟨some 21, .nilck, [.r 20], none, [20]⟩,
 ⟨some 22, .fa 4, [.r 21], none, [21]⟩,
 ⟨some 23, .ld none, [.r 22], none, [22]⟩,
 ⟨some 24, .mov, [.r 1], none, []⟩,
 ⟨none, .mdel, [.r 23, .r 24], none, [23, 24]⟩]) <|
.seq (.seq (.ops [⟨some 25, .mov, [.r 0], none, []⟩,
 ⟨some 26, .nilck, [.r 25], none, [25]⟩,
 ⟨some 27, .fa 0, [.r 26], none, [26]⟩,
 ⟨some 28, .fa 0, [.r 27], none, [27]⟩,
 ⟨some 29, .ld none, [.r 28], none, [28]⟩,
 ⟨some 30, .bin .eql, [.r 29, .k (.int .i64 3)], none, [29]⟩,
 ⟨some 31, .mov, [.r 30], none, [30]⟩,
 ⟨some 32, .mov, [.r 5], (some (31, true)), [5]⟩,
 ⟨some 33, .nilck, [.r 32], (some (31, true)), [32]⟩,
 ⟨some 34, .fa 2, [.r 33], (some (31, true)), [33]⟩,
 ⟨some 35, .ld none, [.r 34], (some (31, true)), [34]⟩,
 ⟨some 36, .pick, [.r 31, .r 35, .k (.bool false)], none, [31, 35]⟩]) <|
.cond (.r 36)
 (.draw [⟨some 37, .mov, [.r 0], none, [36]⟩,
 ⟨some 38, .nilck, [.r 37], none, [37]⟩,
 ⟨some 39, .fa 6, [.r 38], none, [38]⟩,
 ⟨some 40, .ld none, [.r 39], none, [39]⟩,
 ⟨some 41, .mov, [.r 0], none, [0]⟩,
 ⟨some 42, .nilck, [.r 41], none, [41]⟩,
 ⟨some 43, .fa 0, [.r 42], none, [42]⟩,
 ⟨some 44, .fa 3, [.r 43], none, [43]⟩,
 ⟨some 45, .ld none, [.r 44], none, [44]⟩,
 ⟨some 46, .mov, [.r 1], none, [1]⟩,
 ⟨some 47, .ia 6, [.r 45, .r 46], none, [45, 46]⟩,
 ⟨some 48, .fa 4, [.r 47], none, [47]⟩,
 ⟨some 49, .ld none, [.r 48], none, [48]⟩,
 ⟨some 50, .ia 1, [.r 40, .r 49], none, [40, 49]⟩,
 ⟨some 51, .ld none, [.r 50], none, [50]⟩,
 ⟨some 52, .rcv (.agg #[]) false, [.r 51], none, [51, 52]⟩] [])
 (.skip)) <|
.seq (.ops [⟨some 4, .mov, [.k (.int .i64 0)], none, [0, 1, 36]⟩]) <|
.ret⟩
theorem c17 : cFn Try.prog 17 = some m17.bare := by kernel_rfl

/-- '(*swingbridge/swingbridgeref23.Locks).Leave' -/
def m18 : MFn := ⟨[.tmp 4], .seq (.ops [⟨some 4, .mov, [.k (.int .i64 0)], none, [4]⟩]) <|
.seq (.ops [⟨some 6, .mov, [.r 0], none, []⟩,
 ⟨some 7, .mov, [.r 1], none, [1]⟩,
 ⟨some 8, .call 32, [.r 6, .r 7], none, [6, 7]⟩,
 ⟨some 5, .mov, [.r 8], none, [8]⟩]) <|
.seq (.seq (.ops [⟨some 9, .mov, [.r 5], none, []⟩,
 ⟨some 10, .bin .lss, [.r 9, .k (.int .i64 0)], none, [9]⟩]) <|
.cond (.r 10)
 (.seq (.ops [⟨some 4, .mov, [.k (.int .i64 13)], none, [0, 5, 10]⟩]) <|
 .ret)
 (.skip)) <|
.seq (.draw [⟨some 11, .mov, [.r 0], none, [10]⟩,
 ⟨some 12, .mov, [.r 0], none, []⟩,
 ⟨some 13, .nilck, [.r 12], none, [12]⟩,
 ⟨some 14, .fa 4, [.r 13], none, [13]⟩,
 ⟨some 15, .ld none, [.r 14], none, [14]⟩,
 ⟨some 16, .mov, [.r 5], none, []⟩,
 ⟨some 17, .sl 4 false true false, [.r 15, .r 16], none, [15, 16]⟩,
 ⟨some 18, .app 4 32, [.k (.slice none 0 0), .r 17], none, [17]⟩,
 ⟨some 19, .mov, [.r 0], none, [0]⟩,
 ⟨some 20, .nilck, [.r 19], none, [19]⟩,
 ⟨some 21, .fa 4, [.r 20], none, [20]⟩,
 ⟨some 22, .ld none, [.r 21], none, [21]⟩,
 ⟨some 23, .mov, [.r 5], none, [5]⟩,
 ⟨some 24, .bin .add, [.r 23, .k (.int .i64 1)], none, [23]⟩,
 ⟨some 25, .sl 4 true false false, [.r 22, .r 24], none, [22, 24]⟩,
 ⟨some 26, .app 4 32, [.r 18, .r 25], none, [18, 25]⟩,
 ⟨some 27, .nilck, [.r 11], none, [11]⟩,
 ⟨some 28, .fa 4, [.r 27], none, [27]⟩,
 ⟨none, .st 1, [.r 28, .r 26], none, [26, 28]⟩] [(11, 7), (14, 7)]) <|
.seq (.ops [⟨some 4, .mov, [.k (.int .i64 0)], none, []⟩]) <|
.ret⟩
theorem c18 : cFn Try.prog 18 = some m18.bare := by kernel_rfl

/-- 'swingbridge/swingbridgelaw23.alike' -/
def m19_0 : MCode := .seq (.seq (.ops [⟨some 31, .mov, [.r 6], none, []⟩,
 ⟨some 32, .bin .leq, [.r 31, .k (.int .i64 4)], none, [31]⟩]) <|
 .cond (.r 32)
 (.skip)
 (.exit 2)) <|
 .seq (.block 3 (.seq (.ops [⟨some 36, .mov, [.r 0], none, [32]⟩,
 ⟨some 37, .mov, [.r 6], none, []⟩,
 ⟨some 38, .call 24, [.r 36, .r 37], none, [36, 37]⟩,
 ⟨some 35, .mov, [.r 38], none, [38]⟩,
 ⟨some 39, .extract 0, [.r 35], none, []⟩,
 ⟨some 40, .extract 1, [.r 35], none, [35]⟩,
 ⟨some 7, .mov, [.r 39], none, [39]⟩,
 ⟨some 8, .mov, [.r 40], none, [40]⟩]) <|
 .seq (.ops [⟨some 42, .mov, [.r 1], none, []⟩,
 ⟨some 43, .mov, [.r 6], none, []⟩,
 ⟨some 44, .call 45, [.r 42, .r 43], none, [42, 43]⟩,
 ⟨some 41, .mov, [.r 44], none, [44]⟩,
 ⟨some 45, .extract 0, [.r 41], none, []⟩,
 ⟨some 46, .extract 1, [.r 41], none, [41]⟩,
 ⟨some 9, .mov, [.r 45], none, [45]⟩,
 ⟨some 10, .mov, [.r 46], none, [46]⟩]) <|
 .seq (.ops [⟨some 47, .mov, [.r 7], none, [7]⟩,
 ⟨some 48, .mov, [.r 9], none, [9]⟩,
 ⟨some 49, .bin .neq, [.r 47, .r 48], none, [47, 48]⟩,
 ⟨some 50, .mov, [.r 49], none, [49]⟩,
 ⟨some 51, .mov, [.r 8], (some (50, false)), [8]⟩,
 ⟨some 52, .mov, [.r 10], (some (50, false)), [10]⟩,
 ⟨some 53, .eqv true .bool, [.r 51, .r 52], (some (50, false)), [51, 52]⟩,
 ⟨some 54, .pick, [.r 50, .k (.bool true), .r 53], none, [50, 53]⟩]) <|
 .cond (.r 54)
 (.seq (.ops [⟨some 4, .mov, [.k (.bool false)], none, [0, 1, 6, 54]⟩]) <|
 .ret)
 (.skip))) <|
 .ops [⟨some 33, .mov, [.r 6], none, [6, 54]⟩,
 ⟨some 34, .bin .add, [.r 33, .k (.int .i64 1)], none, [33]⟩,
 ⟨some 6, .mov, [.r 34], none, [34]⟩]
def m19_1 : MCode := .seq (.seq (.ops [⟨some 11, .mov, [.r 5], none, []⟩,
 ⟨some 12, .bin .leq, [.r 11, .k (.int .i64 6)], none, [11]⟩]) <|
 .cond (.r 12)
 (.skip)
 (.exit 0)) <|
 .seq (.block 1 (.seq (.ops [⟨some 15, .mov, [.r 0], none, [12]⟩,
 ⟨some 16, .mov, [.r 5], none, []⟩,
 ⟨some 17, .call 21, [.r 15, .r 16], none, [15, 16]⟩,
 ⟨some 18, .mov, [.r 1], none, []⟩,
 ⟨some 19, .mov, [.r 5], none, []⟩,
 ⟨some 20, .call 43, [.r 18, .r 19], none, [18, 19]⟩,
 ⟨some 21, .eqv true .bool, [.r 17, .r 20], none, [17, 20]⟩,
 ⟨some 22, .mov, [.r 21], none, [21]⟩,
 ⟨some 23, .mov, [.r 0], (some (22, false)), []⟩,
 ⟨some 24, .mov, [.r 5], (some (22, false)), []⟩,
 ⟨some 25, .call 26, [.r 23, .r 24], (some (22, false)), [23, 24]⟩,
 ⟨some 26, .mov, [.r 1], (some (22, false)), []⟩,
 ⟨some 27, .mov, [.r 5], (some (22, false)), []⟩,
 ⟨some 28, .call 44, [.r 26, .r 27], (some (22, false)), [26, 27]⟩,
 ⟨some 29, .bin .neq, [.r 25, .r 28], (some (22, false)), [25, 28]⟩,
 ⟨some 30, .pick, [.r 22, .k (.bool true), .r 29], none, [22, 29]⟩]) <|
 .cond (.r 30)
 (.seq (.ops [⟨some 4, .mov, [.k (.bool false)], none, [0, 1, 5, 30]⟩]) <|
 .ret)
 (.skip))) <|
 .ops [⟨some 13, .mov, [.r 5], none, [5, 30]⟩,
 ⟨some 14, .bin .add, [.r 13, .k (.int .i64 1)], none, [13]⟩,
 ⟨some 5, .mov, [.r 14], none, [14]⟩]
def m19 : MFn := ⟨[.tmp 4], .seq (.ops [⟨some 4, .mov, [.k (.bool false)], none, [4]⟩]) <|
.seq (.seq (.ops [⟨some 5, .mov, [.k (.int .i64 (-1))], none, []⟩]) <|
.block 0 (.loop m19_1)) <|
.seq (.seq (.ops [⟨some 6, .mov, [.k (.int .i64 (-1))], none, [5, 12]⟩]) <|
.block 2 (.loop m19_0)) <|
.seq (.ops [⟨some 55, .mov, [.r 0], none, [0, 6, 32]⟩,
 ⟨some 56, .call 25, [.r 55], none, [55]⟩,
 ⟨some 57, .mov, [.r 1], none, [1]⟩,
 ⟨some 58, .call 46, [.r 57], none, [57]⟩,
 ⟨some 59, .call 14, [.r 56, .r 58], none, [56, 58]⟩,
 ⟨some 4, .mov, [.r 59], none, [59]⟩]) <|
.ret⟩
theorem c19 : cFn Try.prog 19 = some m19.bare := by kernel_rfl

/-- 'swingbridge/swingbridgeref7.OK' -/
def m20 : MFn := ⟨[.tmp 2], .seq (.ops [⟨some 1, .box, [.r 0], none, [0]⟩,
 ⟨some 2, .mov, [.k (.bool false)], none, [2]⟩]) <|
.seq (.ops [⟨some 6, .ld (some 4), [.r 1], none, [1]⟩,
 ⟨some 7, .call 47, [.r 6], none, [6]⟩,
 ⟨some 5, .mov, [.r 7], none, [7]⟩,
 ⟨some 8, .extract 0, [.r 5], none, []⟩,
 ⟨some 9, .extract 1, [.r 5], none, [5]⟩,
 ⟨some 3, .mov, [.r 8], none, [3, 8]⟩,
 ⟨some 4, .mov, [.r 9], none, [9]⟩]) <|
.seq (.ops [⟨some 10, .mov, [.r 4], none, [4]⟩,
 ⟨some 11, .bin .eql, [.r 10, .k (.int .i64 0)], none, [10]⟩,
 ⟨some 2, .mov, [.r 11], none, [11]⟩]) <|
.ret⟩
theorem c20 : cFn Try.prog 20 = some m20.bare := by kernel_rfl

/-- '(*swingbridge/lock.Locks).Holds' -/
def m21 : MFn := ⟨[.tmp 4], .seq (.ops [⟨some 4, .mov, [.k (.bool false)], none, [4]⟩]) <|
.seq (.ops [⟨some 6, .mov, [.r 0], none, [0]⟩,
 ⟨some 7, .nilck, [.r 6], none, [6]⟩,
 ⟨some 8, .fa 4, [.r 7], none, [7]⟩,
 ⟨some 9, .ld none, [.r 8], none, [8]⟩,
 ⟨some 10, .mov, [.r 1], none, [1]⟩,
 ⟨some 11, .look (.pointer none) false, [.r 9, .r 10], none, [9, 10]⟩,
 ⟨some 5, .mov, [.r 11], none, [11]⟩]) <|
.seq (.ops [⟨some 12, .mov, [.r 5], none, []⟩,
 ⟨some 13, .eqv true .ptr, [.r 12, .k (.pointer none)], none, [12]⟩,
 ⟨some 14, .mov, [.r 13], none, [13]⟩,
 ⟨some 15, .mov, [.r 5], (some (14, true)), [5]⟩,
 ⟨some 16, .nilck, [.r 15], (some (14, true)), [15]⟩,
 ⟨some 17, .fa 3, [.r 16], (some (14, true)), [16]⟩,
 ⟨some 18, .ld none, [.r 17], (some (14, true)), [17]⟩,
 ⟨some 19, .pick, [.r 14, .r 18, .k (.bool false)], none, [14, 18]⟩,
 ⟨some 4, .mov, [.r 19], none, [19]⟩]) <|
.ret⟩
theorem c21 : cFn Try.prog 21 = some m21.bare := by kernel_rfl

/-- 'swingbridge/swingbridgelaw23.holders' -/
def m22_0 : MCode := .seq (.seq (.ops [⟨some 139, .mov, [.r 13], none, []⟩,
 ⟨some 140, .fa 1, [.r 3], none, []⟩,
 ⟨some 141, .ld none, [.r 140], none, [140]⟩,
 ⟨some 142, .len, [.r 141], none, [141]⟩,
 ⟨some 143, .bin .lss, [.r 139, .r 142], none, [139, 142]⟩]) <|
 .cond (.r 143)
 (.skip)
 (.exit 4)) <|
 .seq (.block 5 (.seq (.ops [⟨some 146, .fa 0, [.r 3], none, [143]⟩,
 ⟨some 147, .ld none, [.r 146], none, [146]⟩,
 ⟨some 148, .bin .eql, [.r 147, .k (.int .i64 2)], none, [147]⟩,
 ⟨some 149, .mov, [.r 148], none, [148]⟩,
 ⟨some 150, .mov, [.r 13], (some (149, true)), []⟩,
 ⟨some 151, .iarr 3 1, [.r 7, .r 150], (some (149, true)), [150]⟩,
 ⟨some 152, .ld none, [.r 151], (some (149, true)), [151]⟩,
 ⟨some 153, .bin .gtr, [.r 152, .k (.int .i64 1)], (some (149, true)), [152]⟩,
 ⟨some 154, .pick, [.r 149, .r 153, .k (.bool false)], none, [149, 153]⟩]) <|
 .cond (.r 154)
 (.seq (.ops [⟨some 6, .mov, [.k (.bool false)], none, [3, 7, 13, 154]⟩]) <|
 .ret)
 (.skip))) <|
 .ops [⟨some 144, .mov, [.r 13], none, [13, 154]⟩,
 ⟨some 145, .bin .add, [.r 144, .k (.int .i64 1)], none, [144]⟩,
 ⟨some 13, .mov, [.r 145], none, [145]⟩]
def m22_1 : MCode := .seq (.seq (.ops [⟨some 69, .mov, [.r 11], none, []⟩,
 ⟨some 70, .fa 3, [.r 3], none, []⟩,
 ⟨some 71, .ld none, [.r 70], none, [70]⟩,
 ⟨some 72, .len, [.r 71], none, [71]⟩,
 ⟨some 73, .bin .lss, [.r 69, .r 72], none, [69, 72]⟩]) <|
 .cond (.r 73)
 (.skip)
 (.exit 2)) <|
 .seq (.block 3 (.seq (.ops [⟨some 76, .mov, [.r 11], none, [73]⟩,
 ⟨some 77, .iarr 6 1, [.r 5, .r 76], none, [76]⟩,
 ⟨some 78, .ld none, [.r 77], none, [77]⟩,
 ⟨some 79, .mov, [.r 8], none, []⟩,
 ⟨some 80, .bin .add, [.r 79, .k (.int .i64 1)], none, [79]⟩,
 ⟨some 81, .bin .eql, [.r 78, .r 80], none, [78, 80]⟩,
 ⟨some 82, .mov, [.r 81], none, [81]⟩,
 ⟨some 83, .mov, [.r 1], (some (82, true)), []⟩,
 ⟨some 84, .mov, [.r 11], (some (82, true)), []⟩,
 ⟨some 85, .call 21, [.r 83, .r 84], (some (82, true)), [83, 84]⟩,
 ⟨some 86, .un .not, [.r 85], (some (82, true)), [85]⟩,
 ⟨some 87, .pick, [.r 82, .r 86, .k (.bool false)], none, [82, 86]⟩,
 ⟨some 12, .mov, [.r 87], none, [87]⟩]) <|
 .seq (.draw [⟨some 88, .mov, [.r 12], none, []⟩,
 ⟨some 89, .mov, [.r 88], none, [88]⟩,
 ⟨some 90, .mov, [.r 10], (some (89, true)), []⟩,
 ⟨some 91, .un .not, [.r 90], (some (89, true)), [90]⟩,
 ⟨some 92, .pick, [.r 89, .r 91, .k (.bool false)], none, [89, 91]⟩,
 ⟨some 93, .mov, [.r 92], none, [92]⟩,
 ⟨some 94, .fa 0, [.r 3], (some (93, true)), []⟩,
 ⟨some 95, .ld none, [.r 94], (some (93, true)), [94]⟩,
 ⟨some 96, .bin .eql, [.r 95, .k (.int .i64 1)], (some (93, true)), [95]⟩,
 ⟨some 97, .pick, [.r 93, .r 96, .k (.bool false)], none, [93, 96]⟩,
 ⟨some 98, .mov, [.r 97], none, [97]⟩,
 ⟨some 99, .mov, [.r 12], (some (98, false)), [12]⟩,
 ⟨some 100, .mov, [.r 99], (some (98, false)), [99]⟩,
 ⟨some 101, .fa 0, [.r 3], (some (100, true)), []⟩,
 ⟨some 102, .ld none, [.r 101], (some (100, true)), [101]⟩,
 ⟨some 103, .bin .eql, [.r 102, .k (.int .i64 2)], (some (100, true)), [102]⟩,
 ⟨some 104, .pick, [.r 100, .r 103, .k (.bool false)], (some (98, false)), [100, 103]⟩,
 ⟨some 105, .mov, [.r 104], (some (98, false)), [104]⟩,
 ⟨some 106, .ld (some 4), [.r 3], (some (105, true)), []⟩,
 ⟨some 107, .mov, [.r 1], (some (105, true)), []⟩,
 ⟨some 108, .fa 2, [.r 3], (some (105, true)), []⟩,
 ⟨some 109, .ld none, [.r 108], (some (105, true)), [108]⟩,
 ⟨some 110, .mov, [.r 8], (some (105, true)), []⟩,
 ⟨some 111, .ia 1, [.r 109, .r 110], (some (105, true)), [109, 110]⟩,
 ⟨some 112, .ld none, [.r 111], (some (105, true)), [111]⟩,
 ⟨some 113, .call 48, [.r 106, .r 107, .r 112], (some (105, true)), [106, 107, 112]⟩,
 ⟨some 114, .un .not, [.r 113], (some (105, true)), [113]⟩,
 ⟨some 115, .pick, [.r 105, .r 114, .k (.bool false)], (some (98, false)), [105, 114]⟩,
 ⟨some 116, .pick, [.r 98, .k (.bool true), .r 115], none, [98, 115]⟩,
 ⟨some 117, .mov, [.r 116], none, [116]⟩,
 ⟨some 118, .mov, [.r 1], (some (117, false)), []⟩,
 ⟨some 119, .mov, [.r 11], (some (117, false)), []⟩,
 ⟨some 120, .call 21, [.r 118, .r 119], (some (117, false)), [118, 119]⟩,
 ⟨some 121, .mov, [.r 120], (some (117, false)), [120]⟩,
 ⟨some 122, .mov, [.r 11], (some (121, true)), []⟩,
 ⟨some 123, .iarr 6 1, [.r 5, .r 122], (some (121, true)), [122]⟩,
 ⟨some 124, .ld none, [.r 123], (some (121, true)), [123]⟩,
 ⟨some 125, .mov, [.r 8], (some (121, true)), []⟩,
 ⟨some 126, .bin .add, [.r 125, .k (.int .i64 1)], (some (121, true)), [125]⟩,
 ⟨some 127, .bin .eql, [.r 124, .r 126], (some (121, true)), [124, 126]⟩,
 ⟨some 128, .pick, [.r 121, .r 127, .k (.bool false)], (some (117, false)), [121, 127]⟩,
 ⟨some 129, .mov, [.r 128], (some (117, false)), [128]⟩,
 ⟨some 130, .mov, [.r 10], (some (129, true)), []⟩,
 ⟨some 131, .un .not, [.r 130], (some (129, true)), [130]⟩,
 ⟨some 132, .mov, [.r 131], (some (129, true)), [131]⟩,
 ⟨some 133, .mov, [.r 9], (some (132, false)), []⟩,
 ⟨some 134, .mov, [.r 11], (some (132, false)), []⟩,
 ⟨some 135, .bin .neq, [.r 133, .r 134], (some (132, false)), [133, 134]⟩,
 ⟨some 136, .pick, [.r 132, .k (.bool true), .r 135], (some (129, true)), [132, 135]⟩,
 ⟨some 137, .pick, [.r 129, .r 136, .k (.bool false)], (some (117, false)), [129, 136]⟩,
 ⟨some 138, .pick, [.r 117, .k (.bool true), .r 137], none, [117, 137]⟩] []) <|
 .cond (.r 138)
 (.seq (.ops [⟨some 6, .mov, [.k (.bool false)], none, [1, 3, 5, 7, 8, 9, 10, 11, 138]⟩]) <|
 .ret)
 (.skip))) <|
 .ops [⟨some 74, .mov, [.r 11], none, [11, 138]⟩,
 ⟨some 75, .bin .add, [.r 74, .k (.int .i64 1)], none, [74]⟩,
 ⟨some 11, .mov, [.r 75], none, [75]⟩]
def m22_2 : MCode := .seq (.seq (.ops [⟨some 14, .mov, [.r 8], none, []⟩,
 ⟨some 15, .fa 2, [.r 3], none, []⟩,
 ⟨some 16, .ld none, [.r 15], none, [15]⟩,
 ⟨some 17, .len, [.r 16], none, [16]⟩,
 ⟨some 18, .bin .lss, [.r 14, .r 17], none, [14, 17]⟩]) <|
 .cond (.r 18)
 (.skip)
 (.exit 0)) <|
 .seq (.block 1 (.seq (.ops [⟨some 22, .mov, [.r 1], none, [18]⟩,
 ⟨some 23, .mov, [.r 8], none, []⟩,
 ⟨some 24, .call 24, [.r 22, .r 23], none, [22, 23]⟩,
 ⟨some 21, .mov, [.r 24], none, [24]⟩,
 ⟨some 25, .extract 0, [.r 21], none, []⟩,
 ⟨some 26, .extract 1, [.r 21], none, [21]⟩,
 ⟨some 9, .mov, [.r 25], none, [25]⟩,
 ⟨some 10, .mov, [.r 26], none, [26]⟩]) <|
 .seq (.seq (.ops [⟨some 27, .mov, [.r 10], none, []⟩,
 ⟨some 28, .mov, [.r 27], none, [27]⟩,
 ⟨some 29, .mov, [.r 9], (some (28, true)), []⟩,
 ⟨some 30, .bin .lss, [.r 29, .k (.int .i64 0)], (some (28, true)), [29]⟩,
 ⟨some 31, .mov, [.r 30], (some (28, true)), [30]⟩,
 ⟨some 32, .mov, [.r 9], (some (31, false)), []⟩,
 ⟨some 33, .fa 3, [.r 3], (some (31, false)), []⟩,
 ⟨some 34, .ld none, [.r 33], (some (31, false)), [33]⟩,
 ⟨some 35, .len, [.r 34], (some (31, false)), [34]⟩,
 ⟨some 36, .bin .geq, [.r 32, .r 35], (some (31, false)), [32, 35]⟩,
 ⟨some 37, .pick, [.r 31, .k (.bool true), .r 36], (some (28, true)), [31, 36]⟩,
 ⟨some 38, .mov, [.r 37], (some (28, true)), [37]⟩,
 ⟨some 39, .mov, [.r 9], (some (38, false)), []⟩,
 ⟨some 40, .iarr 6 1, [.r 5, .r 39], (some (38, false)), [39]⟩,
 ⟨some 41, .ld none, [.r 40], (some (38, false)), [40]⟩,
 ⟨some 42, .mov, [.r 8], (some (38, false)), []⟩,
 ⟨some 43, .bin .add, [.r 42, .k (.int .i64 1)], (some (38, false)), [42]⟩,
 ⟨some 44, .bin .neq, [.r 41, .r 43], (some (38, false)), [41, 43]⟩,
 ⟨some 45, .pick, [.r 38, .k (.bool true), .r 44], (some (28, true)), [38, 44]⟩,
 ⟨some 46, .mov, [.r 45], (some (28, true)), [45]⟩,
 ⟨some 47, .mov, [.r 1], (some (46, false)), []⟩,
 ⟨some 48, .mov, [.r 9], (some (46, false)), []⟩,
 ⟨some 49, .call 21, [.r 47, .r 48], (some (46, false)), [47, 48]⟩,
 ⟨some 50, .un .not, [.r 49], (some (46, false)), [49]⟩,
 ⟨some 51, .pick, [.r 46, .k (.bool true), .r 50], (some (28, true)), [46, 50]⟩,
 ⟨some 52, .mov, [.r 51], (some (28, true)), [51]⟩,
 ⟨some 53, .mov, [.r 1], (some (52, false)), []⟩,
 ⟨some 54, .mov, [.r 9], (some (52, false)), []⟩,
 ⟨some 55, .call 26, [.r 53, .r 54], (some (52, false)), [53, 54]⟩,
 ⟨some 56, .bin .lss, [.r 55, .k (.int .i64 1)], (some (52, false)), [55]⟩,
 ⟨some 57, .pick, [.r 52, .k (.bool true), .r 56], (some (28, true)), [52, 56]⟩,
 ⟨some 58, .pick, [.r 28, .r 57, .k (.bool false)], none, [28, 57]⟩]) <|
 .cond (.r 58)
 (.seq (.ops [⟨some 6, .mov, [.k (.bool false)], none, [1, 3, 5, 7, 8, 9, 10, 58]⟩]) <|
 .ret)
 (.skip)) <|
 .seq (.seq (.ops [⟨some 59, .mov, [.r 10], none, [58]⟩]) <|
 .cond (.r 59)
 (.ops [⟨some 60, .fa 2, [.r 3], none, [59]⟩,
 ⟨some 61, .ld none, [.r 60], none, [60]⟩,
 ⟨some 62, .mov, [.r 8], none, []⟩,
 ⟨some 63, .ia 1, [.r 61, .r 62], none, [61, 62]⟩,
 ⟨some 64, .ld none, [.r 63], none, [63]⟩,
 ⟨some 65, .iarr 3 1, [.r 7, .r 64], none, []⟩,
 ⟨some 66, .ld none, [.r 65], none, [65]⟩,
 ⟨some 67, .bin .add, [.r 66, .k (.int .i64 1)], none, [66]⟩,
 ⟨some 68, .iarr 3 1, [.r 7, .r 64], none, [64]⟩,
 ⟨none, .st 1, [.r 68, .r 67], none, [67, 68]⟩])
 (.skip)) <|
 .seq (.ops [⟨some 11, .mov, [.k (.int .i64 0)], none, [59]⟩]) <|
 .block 2 (.loop m22_1))) <|
 .ops [⟨some 19, .mov, [.r 8], none, [8, 9, 10, 11, 73]⟩,
 ⟨some 20, .bin .add, [.r 19, .k (.int .i64 1)], none, [19]⟩,
 ⟨some 8, .mov, [.r 20], none, [20]⟩]
def m22 : MFn := ⟨[.tmp 6], .seq (.ops [⟨some 3, .box, [.r 0], none, [0]⟩,
 ⟨some 5, .box, [.r 2], none, [2]⟩,
 ⟨some 6, .mov, [.k (.bool false)], none, [6]⟩]) <|
.seq (.ops [⟨some 7, .new 1 [.int .i64 0, .int .i64 0, .int .i64 0], [], none, []⟩]) <|
.seq (.seq (.ops [⟨some 8, .mov, [.k (.int .i64 0)], none, []⟩]) <|
.block 0 (.loop m22_2)) <|
.seq (.seq (.ops [⟨some 13, .mov, [.k (.int .i64 0)], none, [1, 5, 8, 18]⟩]) <|
.block 4 (.loop m22_0)) <|
.seq (.ops [⟨some 6, .mov, [.k (.bool true)], none, [3, 7, 13, 143]⟩]) <|
.ret⟩
theorem c22 : cFn Try.prog 22 = some m22.bare := by kernel_rfl

/-- 'swingbridge/swingbridgelaw23.crowd' -/
def m23_0 : MCode := .seq (.seq (.ops [⟨some 14, .mov, [.r 8], none, []⟩,
 ⟨some 15, .mov, [.r 1], none, []⟩,
 ⟨some 16, .bin .lss, [.r 14, .r 15], none, [14, 15]⟩]) <|
 .cond (.r 16)
 (.skip)
 (.exit 0)) <|
 .seq (.block 1 (.ops [⟨some 19, .fa 3, [.r 7], none, [16]⟩,
 ⟨some 20, .ld none, [.r 19], none, [19]⟩,
 ⟨some 21, .mov, [.r 8], none, []⟩,
 ⟨some 22, .bin .add, [.k (.int .i64 97), .r 21], none, [21]⟩,
 ⟨some 23, .conv .u8, [.r 22], none, [22]⟩,
 ⟨some 24, .bslice 1 1 [.int .u8 0] [(0, 1)], [.r 23], none, [23]⟩,
 ⟨some 25, .strb, [.r 24], none, [24]⟩,
 ⟨some 26, .mov, [.r 1], none, []⟩,
 ⟨some 27, .mov, [.r 8], none, []⟩,
 ⟨some 28, .bin .sub, [.r 26, .r 27], none, [26, 27]⟩,
 ⟨some 29, .build [.int .i64 0, .int .i64 0, .int .i64 0] [(0, 1), (1, 1)], [.k (.int .i64 3), .k (.int .i64 1)], none, []⟩,
 ⟨some 30, .bslice 3 1 [.int .i64 0, .int .i64 0, .int .i64 0] [(0, 3)], [.r 29], none, [29]⟩,
 ⟨some 31, .build [.string ⟨#[]⟩, .int .i64 0, .int .i64 0, .int .i64 0, .int .i64 0, .slice none 0 0] [(0, 1), (1, 1), (2, 1), (3, 1), (5, 1)], [.r 25, .k (.int .i64 100), .k (.int .i64 100), .r 28, .r 30], none, [25, 28, 30]⟩,
 ⟨some 32, .bslice 6 1 [.string ⟨#[]⟩, .int .i64 0, .int .i64 0, .int .i64 0, .int .i64 0, .slice none 0 0] [(0, 6)], [.r 31], none, [31]⟩,
 ⟨some 33, .app 6 72, [.r 20, .r 32], none, [20, 32]⟩,
 ⟨some 34, .fa 3, [.r 7], none, []⟩,
 ⟨none, .st 1, [.r 34, .r 33], none, [33, 34]⟩])) <|
 .ops [⟨some 17, .mov, [.r 8], none, [8]⟩,
 ⟨some 18, .bin .add, [.r 17, .k (.int .i64 1)], none, [17]⟩,
 ⟨some 8, .mov, [.r 18], none, [18]⟩]
def m23 : MFn := ⟨[.cell 6 (some 4)], .seq (.ops [⟨some 6, .new 0 [.int .i64 0, .slice none 0 0, .slice none 0 0, .slice none 0 0], [], none, []⟩]) <|
.seq (.ops [⟨some 9, .mov, [.r 0], none, [0]⟩,
 ⟨some 10, .mov, [.r 2], none, [2]⟩,
 ⟨some 11, .bslice 1 2 [.int .i64 0] [(0, 1), (1, 1)], [.r 10, .k (.int .i64 1)], none, [10]⟩,
 ⟨some 12, .bslice 1 2 [.int .i64 0] [(0, 1), (1, 1)], [.k (.int .i64 0), .k (.int .i64 0)], none, []⟩,
 ⟨some 13, .build [.int .i64 0, .slice none 0 0, .slice none 0 0, .slice none 0 0] [(0, 1), (1, 1), (2, 1)], [.r 9, .r 11, .r 12], none, [9, 11, 12]⟩,
 ⟨some 7, .new 0 [.int .i64 0, .slice none 0 0, .slice none 0 0, .slice none 0 0], [], none, []⟩,
 ⟨none, .st 4, [.r 7, .r 13], none, [13]⟩]) <|
.seq (.seq (.ops [⟨some 8, .mov, [.k (.int .i64 0)], none, []⟩]) <|
.block 0 (.loop m23_0)) <|
.seq (.ops [⟨some 35, .ld (some 4), [.r 7], none, [1, 7, 8, 16]⟩,
 ⟨none, .st 4, [.r 6, .r 35], none, [35]⟩]) <|
.ret⟩
theorem c23 : cFn Try.prog 23 = some m23.bare := by kernel_rfl

/-- '(*swingbridge/lock.Locks).Holder' -/
def m24_0 : MCode := .seq (.ops [⟨some 14, .bin .lss, [.r 13, .r 12], none, []⟩]) <|
 .seq (.cond (.r 14)
 (.skip)
 (.exit 0)) <|
 .seq (.block 1 (.seq (.ops [⟨some 15, .mov, [.r 13], none, [14]⟩,
 ⟨some 6, .mov, [.r 15], none, [15]⟩]) <|
 .seq (.ops [⟨some 16, .mov, [.r 0], none, []⟩,
 ⟨some 17, .mov, [.r 6], none, []⟩,
 ⟨some 18, .call 21, [.r 16, .r 17], none, [16, 17]⟩,
 ⟨some 19, .mov, [.r 18], none, [18]⟩,
 ⟨some 20, .mov, [.r 0], (some (19, true)), []⟩,
 ⟨some 21, .nilck, [.r 20], (some (19, true)), [20]⟩,
 ⟨some 22, .fa 4, [.r 21], (some (19, true)), [21]⟩,
 ⟨some 23, .ld none, [.r 22], (some (19, true)), [22]⟩,
 ⟨some 24, .mov, [.r 6], (some (19, true)), []⟩,
 ⟨some 25, .look (.pointer none) false, [.r 23, .r 24], (some (19, true)), [23, 24]⟩,
 ⟨some 26, .nilck, [.r 25], (some (19, true)), [25]⟩,
 ⟨some 27, .fa 0, [.r 26], (some (19, true)), [26]⟩,
 ⟨some 28, .ld none, [.r 27], (some (19, true)), [27]⟩,
 ⟨some 29, .mov, [.r 1], (some (19, true)), []⟩,
 ⟨some 30, .bin .eql, [.r 28, .r 29], (some (19, true)), [28, 29]⟩,
 ⟨some 31, .pick, [.r 19, .r 30, .k (.bool false)], none, [19, 30]⟩]) <|
 .cond (.r 31)
 (.seq (.ops [⟨some 32, .mov, [.r 6], none, [0, 1, 6, 12, 13, 31]⟩,
 ⟨some 4, .mov, [.r 32], none, [32]⟩,
 ⟨some 5, .mov, [.k (.bool true)], none, []⟩]) <|
 .ret)
 (.skip))) <|
 .ops [⟨some 33, .bin .add, [.r 13, .k (.int .i64 1)], none, [6, 13, 31]⟩,
 ⟨some 13, .mov, [.r 33], none, [33]⟩]
def m24 : MFn := ⟨[.tmp 4, .tmp 5], .seq (.ops [⟨some 4, .mov, [.k (.int .i64 0)], none, [4]⟩,
 ⟨some 5, .mov, [.k (.bool false)], none, [5]⟩]) <|
.seq (.seq (.ops [⟨some 7, .mov, [.r 0], none, []⟩,
 ⟨some 8, .nilck, [.r 7], none, [7]⟩,
 ⟨some 9, .fa 0, [.r 8], none, [8]⟩,
 ⟨some 10, .fa 3, [.r 9], none, [9]⟩,
 ⟨some 11, .ld none, [.r 10], none, [10]⟩,
 ⟨some 12, .len, [.r 11], none, [11]⟩,
 ⟨some 13, .mov, [.k (.int .i64 0)], none, []⟩]) <|
.block 0 (.loop m24_0)) <|
.seq (.ops [⟨some 4, .mov, [.k (.int .i64 0)], none, [0, 1, 12, 13, 14]⟩,
 ⟨some 5, .mov, [.k (.bool false)], none, []⟩]) <|
.ret⟩
theorem c24 : cFn Try.prog 24 = some m24.bare := by kernel_rfl

/-- '(*swingbridge/lock.Locks).Waiting' -/
def m25 : MFn := ⟨[.tmp 2], .seq (.ops [⟨some 2, .mov, [.k (.slice none 0 0)], none, [2]⟩]) <|
.seq (.ops [⟨some 4, .mov, [.r 0], none, [0]⟩,
 ⟨some 5, .nilck, [.r 4], none, [4]⟩,
 ⟨some 6, .fa 5, [.r 5], none, [5]⟩,
 ⟨some 7, .ld none, [.r 6], none, [6]⟩,
 ⟨some 8, .call 49, [.r 7], none, [7]⟩,
 ⟨some 3, .mov, [.r 8], none, [8]⟩]) <|
.seq (.ops [⟨some 9, .mov, [.r 3], none, []⟩,
 ⟨some 10, .call 50, [.r 9], none, [9, 10]⟩]) <|
.seq (.ops [⟨some 11, .mov, [.r 3], none, [3]⟩,
 ⟨some 2, .mov, [.r 11], none, [11]⟩]) <|
.ret⟩
theorem c25 : cFn Try.prog 25 = some m25.bare := by kernel_rfl

/-- '(*swingbridge/lock.Locks).Boost' -/
def m26 : MFn := ⟨[.tmp 4], .seq (.ops [⟨some 4, .mov, [.k (.int .i64 0)], none, [4]⟩]) <|
.seq (.block 0 (.seq (.ops [⟨some 6, .mov, [.r 0], none, []⟩,
 ⟨some 7, .mov, [.r 1], none, []⟩,
 ⟨some 8, .call 21, [.r 6, .r 7], none, [6, 7]⟩,
 ⟨some 9, .un .not, [.r 8], none, [8]⟩,
 ⟨some 5, .mov, [.r 9], none, [9]⟩]) <|
 .cond (.r 5)
 (.seq (.ops [⟨some 4, .mov, [.k (.int .i64 0)], none, [0, 1, 5]⟩]) <|
 .ret)
 (.seq (.ops [⟨some 11, .mov, [.r 0], none, [5]⟩,
 ⟨some 12, .nilck, [.r 11], none, [11]⟩,
 ⟨some 13, .fa 0, [.r 12], none, [12]⟩,
 ⟨some 14, .fa 0, [.r 13], none, [13]⟩,
 ⟨some 15, .ld none, [.r 14], none, [14]⟩,
 ⟨some 16, .bin .eql, [.r 15, .k (.int .i64 2)], none, [15]⟩,
 ⟨some 10, .mov, [.r 16], none, [16]⟩]) <|
 .cond (.r 10)
 (.seq (.ops [⟨some 4, .mov, [.k (.int .i64 1)], none, [0, 1, 10]⟩]) <|
 .ret)
 (.skip)))) <|
.seq (.ops [⟨some 17, .mov, [.r 0], none, [0, 10]⟩,
 ⟨some 18, .nilck, [.r 17], none, [17]⟩,
 ⟨some 19, .fa 4, [.r 18], none, [18]⟩,
 ⟨some 20, .ld none, [.r 19], none, [19]⟩,
 ⟨some 21, .mov, [.r 1], none, [1]⟩,
 ⟨some 22, .look (.pointer none) false, [.r 20, .r 21], none, [20, 21]⟩,
 ⟨some 23, .nilck, [.r 22], none, [22]⟩,
 ⟨some 24, .fa 1, [.r 23], none, [23]⟩,
 ⟨some 25, .ld none, [.r 24], none, [24]⟩,
 ⟨some 4, .mov, [.r 25], none, [25]⟩]) <|
.ret⟩
theorem c26 : cFn Try.prog 26 = some m26.bare := by kernel_rfl

/-- 'swingbridge/swingbridgelaw23.two' -/
def m27 : MFn := ⟨[.cell 10 (some 4)], .seq (.ops [⟨some 10, .new 0 [.int .i64 0, .slice none 0 0, .slice none 0 0, .slice none 0 0], [], none, []⟩]) <|
.seq (.ops [⟨some 12, .mov, [.r 0], none, [0]⟩,
 ⟨some 13, .mov, [.r 1], none, [1]⟩,
 ⟨some 14, .build [.int .i64 0, .int .i64 0, .int .i64 0] [(0, 1), (1, 1)], [.k (.int .i64 1), .r 13], none, [13]⟩,
 ⟨some 15, .mov, [.r 2], none, [2]⟩,
 ⟨some 16, .build [.int .i64 0, .int .i64 0, .int .i64 0] [(0, 1), (1, 1)], [.k (.int .i64 3), .r 15], none, [15]⟩,
 ⟨some 17, .bslice 3 2 [.int .i64 0, .int .i64 0, .int .i64 0] [(0, 3), (3, 3)], [.r 14, .r 16], none, [14, 16]⟩,
 ⟨some 18, .call 51, [.r 12, .r 17], none, [12, 17]⟩,
 ⟨some 11, .new 0 [.int .i64 0, .slice none 0 0, .slice none 0 0, .slice none 0 0], [], none, []⟩,
 ⟨none, .st 4, [.r 11, .r 18], none, [18]⟩]) <|
.seq (.ops [⟨some 19, .fa 3, [.r 11], none, []⟩,
 ⟨some 20, .ld none, [.r 19], none, [19]⟩,
 ⟨some 21, .mov, [.r 3], none, [3]⟩,
 ⟨some 22, .build [.int .i64 0, .int .i64 0, .int .i64 0] [(0, 1), (1, 1)], [.k (.int .i64 1), .r 21], none, [21]⟩,
 ⟨some 23, .mov, [.r 4], none, [4]⟩,
 ⟨some 24, .build [.int .i64 0, .int .i64 0, .int .i64 0] [(0, 1), (1, 1)], [.k (.int .i64 3), .r 23], none, [23]⟩,
 ⟨some 25, .bslice 3 2 [.int .i64 0, .int .i64 0, .int .i64 0] [(0, 3), (3, 3)], [.r 22, .r 24], none, [22, 24]⟩,
 ⟨some 26, .build [.string ⟨#[]⟩, .int .i64 0, .int .i64 0, .int .i64 0, .int .i64 0, .slice none 0 0] [(0, 1), (1, 1), (2, 1), (3, 1), (5, 1)], [.k (.string ⟨#[98]⟩), .k (.int .i64 200), .k (.int .i64 200), .k (.int .i64 2), .r 25], none, [25]⟩,
 ⟨some 27, .bslice 6 1 [.string ⟨#[]⟩, .int .i64 0, .int .i64 0, .int .i64 0, .int .i64 0, .slice none 0 0] [(0, 6)], [.r 26], none, [26]⟩,
 ⟨some 28, .app 6 72, [.r 20, .r 27], none, [20, 27]⟩,
 ⟨some 29, .fa 3, [.r 11], none, []⟩,
 ⟨none, .st 1, [.r 29, .r 28], none, [28, 29]⟩]) <|
.seq (.ops [⟨some 30, .ld (some 4), [.r 11], none, [11]⟩,
 ⟨none, .st 4, [.r 10, .r 30], none, [30]⟩]) <|
.ret⟩
theorem c27 : cFn Try.prog 27 = some m27.bare := by kernel_rfl

/-- 'swingbridge/line.New' -/
def m28 : MFn := ⟨[.tmp 2], .seq (.ops [⟨some 2, .mov, [.k (.pointer none)], none, [2]⟩]) <|
.seq (.ops [⟨some 3, .mov, [.r 0], none, [0]⟩,
 ⟨some 4, .minmax true, [.r 3, .k (.int .i64 0)], none, [3]⟩,
 ⟨some 5, .minmax false, [.r 4, .k (.int .i64 64)], none, [4]⟩,
 ⟨some 6, .build [.slice none 0 0, .int .i64 0] [(1, 1)], [.r 5], none, [5]⟩,
 ⟨some 7, .box, [.r 6], none, [6]⟩,
 ⟨some 2, .mov, [.r 7], none, [7]⟩]) <|
.ret⟩
theorem c28 : cFn Try.prog 28 = some m28.bare := by kernel_rfl

/-- 'swingbridge/task.Check' -/
def m29_0 : MCode := .seq (.ops [⟨some 29, .bin .lss, [.r 28, .r 27], none, []⟩]) <|
 .seq (.cond (.r 29)
 (.skip)
 (.exit 1)) <|
 .seq (.block 2 (.seq (.ops [⟨some 30, .mov, [.r 28], none, [29]⟩,
 ⟨some 4, .mov, [.r 30], none, [30]⟩]) <|
 .seq (.ops [⟨some 31, .ld (some 4), [.r 1], none, []⟩,
 ⟨some 32, .mov, [.r 4], none, []⟩,
 ⟨some 33, .call 54, [.r 31, .r 32], none, [31, 32]⟩,
 ⟨some 5, .mov, [.r 33], none, [33]⟩]) <|
 .seq (.ops [⟨some 34, .mov, [.r 5], none, []⟩,
 ⟨some 35, .bin .neq, [.r 34, .k (.int .i64 0)], none, [34]⟩]) <|
 .cond (.r 35)
 (.seq (.ops [⟨some 36, .mov, [.r 4], none, [1, 4, 27, 28, 35]⟩,
 ⟨some 37, .mov, [.r 5], none, [5]⟩,
 ⟨some 2, .mov, [.r 36], none, [36]⟩,
 ⟨some 3, .mov, [.r 37], none, [37]⟩]) <|
 .ret)
 (.skip))) <|
 .ops [⟨some 38, .bin .add, [.r 28, .k (.int .i64 1)], none, [4, 5, 28, 35]⟩,
 ⟨some 28, .mov, [.r 38], none, [38]⟩]
def m29 : MFn := ⟨[.tmp 2, .tmp 3], .seq (.ops [⟨some 1, .box, [.r 0], none, [0]⟩,
 ⟨some 2, .mov, [.k (.int .i64 0)], none, [2]⟩,
 ⟨some 3, .mov, [.k (.int .i64 0)], none, [3]⟩]) <|
.seq (.block 0 (.seq (.ops [⟨some 7, .fa 0, [.r 1], none, []⟩,
 ⟨some 8, .ld none, [.r 7], none, [7]⟩,
 ⟨some 9, .call 52, [.r 8, .k (.int .i64 1), .k (.int .i64 3)], none, [8]⟩,
 ⟨some 10, .un .not, [.r 9], none, [9]⟩,
 ⟨some 6, .mov, [.r 10], none, [10]⟩]) <|
 .cond (.r 6)
 (.seq (.ops [⟨some 2, .mov, [.k (.int .i64 (-1))], none, [1, 6]⟩,
 ⟨some 3, .mov, [.k (.int .i64 10)], none, []⟩]) <|
 .ret)
 (.seq (.ops [⟨some 12, .ld (some 4), [.r 1], none, [6]⟩,
 ⟨some 13, .call 53, [.r 12], none, [12]⟩,
 ⟨some 14, .un .not, [.r 13], none, [13]⟩,
 ⟨some 11, .mov, [.r 14], none, [14]⟩]) <|
 .cond (.r 11)
 (.seq (.ops [⟨some 2, .mov, [.k (.int .i64 (-1))], none, [1, 11]⟩,
 ⟨some 3, .mov, [.k (.int .i64 16)], none, []⟩]) <|
 .ret)
 (.seq (.ops [⟨some 16, .fa 3, [.r 1], none, [11]⟩,
 ⟨some 17, .ld none, [.r 16], none, [16]⟩,
 ⟨some 18, .len, [.r 17], none, [17]⟩,
 ⟨some 19, .bin .gtr, [.r 18, .k (.int .i64 6)], none, [18]⟩,
 ⟨some 15, .mov, [.r 19], none, [19]⟩]) <|
 .cond (.r 15)
 (.seq (.ops [⟨some 2, .mov, [.k (.int .i64 (-1))], none, [1, 15]⟩,
 ⟨some 3, .mov, [.k (.int .i64 11)], none, []⟩]) <|
 .ret)
 (.seq (.ops [⟨some 21, .fa 3, [.r 1], none, [15]⟩,
 ⟨some 22, .ld none, [.r 21], none, [21]⟩,
 ⟨some 23, .len, [.r 22], none, [22]⟩,
 ⟨some 24, .bin .eql, [.r 23, .k (.int .i64 0)], none, [23]⟩,
 ⟨some 20, .mov, [.r 24], none, [24]⟩]) <|
 .cond (.r 20)
 (.seq (.ops [⟨some 2, .mov, [.k (.int .i64 (-1))], none, [1, 20]⟩,
 ⟨some 3, .mov, [.k (.int .i64 14)], none, []⟩]) <|
 .ret)
 (.skip)))))) <|
.seq (.seq (.ops [⟨some 25, .fa 3, [.r 1], none, [20]⟩,
 ⟨some 26, .ld none, [.r 25], none, [25]⟩,
 ⟨some 27, .len, [.r 26], none, [26]⟩,
 ⟨some 28, .mov, [.k (.int .i64 0)], none, []⟩]) <|
.block 1 (.loop m29_0)) <|
.seq (.ops [⟨some 2, .mov, [.k (.int .i64 (-1))], none, [1, 27, 28, 29]⟩,
 ⟨some 3, .mov, [.k (.int .i64 0)], none, []⟩]) <|
.ret⟩
theorem c29 : cFn Try.prog 29 = some m29.bare := by kernel_rfl

/-- 'swingbridge/task.Copy' -/
def m30_0 : MCode := .seq (.ops [⟨some 21, .bin .lss, [.r 20, .r 19], none, []⟩]) <|
 .seq (.cond (.r 21)
 (.skip)
 (.exit 0)) <|
 .seq (.block 1 (.seq (.ops [⟨some 22, .mov, [.r 20], none, [21]⟩,
 ⟨some 23, .ia 6, [.r 18, .r 20], none, []⟩,
 ⟨some 24, .ld (some 6), [.r 23], none, [23]⟩,
 ⟨some 4, .new 0 [.string ⟨#[]⟩, .int .i64 0, .int .i64 0, .int .i64 0, .int .i64 0, .slice none 0 0], [], none, []⟩,
 ⟨some 3, .mov, [.r 22], none, [22]⟩,
 ⟨none, .st 6, [.r 4, .r 24], none, [24]⟩]) <|
 .draw [⟨some 25, .fa 3, [.r 1], none, []⟩,
 ⟨some 26, .ld none, [.r 25], none, [25]⟩,
 ⟨some 27, .mov, [.r 3], none, [3]⟩,
 ⟨some 28, .fa 5, [.r 4], none, [4]⟩,
 ⟨some 29, .ld none, [.r 28], none, [28]⟩,
 ⟨some 30, .call 57, [.r 29], none, [29]⟩,
 ⟨some 31, .ia 6, [.r 26, .r 27], none, [26, 27]⟩,
 ⟨some 32, .fa 5, [.r 31], none, [31]⟩,
 ⟨none, .st 1, [.r 32, .r 30], none, [30, 32]⟩] [(1, 5)])) <|
 .ops [⟨some 33, .bin .add, [.r 20, .k (.int .i64 1)], none, [20]⟩,
 ⟨some 20, .mov, [.r 33], none, [33]⟩]
def m30 : MFn := ⟨[.cell 2 (some 4)], .seq (.ops [⟨some 1, .box, [.r 0], none, [0]⟩,
 ⟨some 2, .new 0 [.int .i64 0, .slice none 0 0, .slice none 0 0, .slice none 0 0], [], none, []⟩]) <|
.seq (.draw [⟨some 5, .fa 1, [.r 1], none, []⟩,
 ⟨some 6, .ld none, [.r 5], none, [5]⟩,
 ⟨some 7, .call 55, [.r 6], none, [6]⟩,
 ⟨some 8, .fa 2, [.r 1], none, []⟩,
 ⟨some 9, .ld none, [.r 8], none, [8]⟩,
 ⟨some 10, .call 55, [.r 9], none, [9]⟩,
 ⟨some 11, .fa 3, [.r 1], none, []⟩,
 ⟨some 12, .ld none, [.r 11], none, [11]⟩,
 ⟨some 13, .call 56, [.r 12], none, [12]⟩,
 ⟨some 14, .fa 1, [.r 1], none, []⟩,
 ⟨none, .st 1, [.r 14, .r 7], none, [7, 14]⟩,
 ⟨some 15, .fa 2, [.r 1], none, []⟩,
 ⟨none, .st 1, [.r 15, .r 10], none, [10, 15]⟩,
 ⟨some 16, .fa 3, [.r 1], none, []⟩,
 ⟨none, .st 1, [.r 16, .r 13], none, [13, 16]⟩] [(4, 2), (7, 2), (7, 5)]) <|
.seq (.seq (.ops [⟨some 17, .fa 3, [.r 1], none, []⟩,
 ⟨some 18, .ld none, [.r 17], none, [17]⟩,
 ⟨some 19, .len, [.r 18], none, []⟩,
 ⟨some 20, .mov, [.k (.int .i64 0)], none, []⟩]) <|
.block 0 (.loop m30_0)) <|
.seq (.ops [⟨some 34, .ld (some 4), [.r 1], none, [1, 18, 19, 20, 21]⟩,
 ⟨none, .st 4, [.r 2, .r 34], none, [34]⟩]) <|
.ret⟩
theorem c30 : cFn Try.prog 30 = some m30.bare := by kernel_rfl

/-- '(*swingbridge/line.Line).Put' -/
def m31 : MFn := ⟨[.tmp 4], .seq (.ops [⟨some 4, .mov, [.k (.int .i64 0)], none, [4]⟩]) <|
.seq (.seq (.draw [⟨some 5, .mov, [.r 0], none, []⟩,
 ⟨some 6, .nilck, [.r 5], none, [5]⟩,
 ⟨some 7, .fa 0, [.r 6], none, [6]⟩,
 ⟨some 8, .ld none, [.r 7], none, [7]⟩,
 ⟨some 9, .len, [.r 8], none, [8]⟩,
 ⟨some 10, .mov, [.r 0], none, []⟩,
 ⟨some 11, .nilck, [.r 10], none, [10]⟩,
 ⟨some 12, .fa 1, [.r 11], none, [11]⟩,
 ⟨some 13, .ld none, [.r 12], none, [12]⟩,
 ⟨some 14, .bin .geq, [.r 9, .r 13], none, [9, 13]⟩] []) <|
.cond (.r 14)
 (.seq (.ops [⟨some 4, .mov, [.k (.int .i64 12)], none, [0, 1, 14]⟩]) <|
 .ret)
 (.skip)) <|
.seq (.ops [⟨some 15, .mov, [.r 0], none, [14]⟩,
 ⟨some 16, .mov, [.r 0], none, [0]⟩,
 ⟨some 17, .nilck, [.r 16], none, [16]⟩,
 ⟨some 18, .fa 0, [.r 17], none, [17]⟩,
 ⟨some 19, .ld none, [.r 18], none, [18]⟩,
 ⟨some 20, .mov, [.r 1], none, [1]⟩,
 ⟨some 21, .bslice 1 1 [.int .i64 0] [(0, 1)], [.r 20], none, [20]⟩,
 ⟨some 22, .app 1 8, [.r 19, .r 21], none, [19, 21]⟩,
 ⟨some 23, .nilck, [.r 15], none, [15]⟩,
 ⟨some 24, .fa 0, [.r 23], none, [23]⟩,
 ⟨none, .st 1, [.r 24, .r 22], none, [22, 24]⟩]) <|
.seq (.ops [⟨some 4, .mov, [.k (.int .i64 0)], none, []⟩]) <|
.ret⟩
theorem c31 : cFn Try.prog 31 = some m31.bare := by kernel_rfl

/-- '(*swingbridge/swingbridgeref23.Locks).at' -/
def m32_0 : MCode := .seq (.seq (.ops [⟨some 6, .mov, [.r 5], none, []⟩,
 ⟨some 7, .mov, [.r 0], none, []⟩,
 ⟨some 8, .nilck, [.r 7], none, [7]⟩,
 ⟨some 9, .fa 4, [.r 8], none, [8]⟩,
 ⟨some 10, .ld none, [.r 9], none, [9]⟩,
 ⟨some 11, .len, [.r 10], none, [10]⟩,
 ⟨some 12, .bin .lss, [.r 6, .r 11], none, [6, 11]⟩]) <|
 .cond (.r 12)
 (.skip)
 (.exit 0)) <|
 .seq (.block 1 (.seq (.ops [⟨some 15, .mov, [.r 0], none, [12]⟩,
 ⟨some 16, .nilck, [.r 15], none, [15]⟩,
 ⟨some 17, .fa 4, [.r 16], none, [16]⟩,
 ⟨some 18, .ld none, [.r 17], none, [17]⟩,
 ⟨some 19, .mov, [.r 5], none, []⟩,
 ⟨some 20, .ia 4, [.r 18, .r 19], none, [18, 19]⟩,
 ⟨some 21, .fa 0, [.r 20], none, [20]⟩,
 ⟨some 22, .ld none, [.r 21], none, [21]⟩,
 ⟨some 23, .mov, [.r 1], none, []⟩,
 ⟨some 24, .bin .eql, [.r 22, .r 23], none, [22, 23]⟩]) <|
 .cond (.r 24)
 (.seq (.ops [⟨some 25, .mov, [.r 5], none, [0, 1, 5, 24]⟩,
 ⟨some 4, .mov, [.r 25], none, [25]⟩]) <|
 .ret)
 (.skip))) <|
 .ops [⟨some 13, .mov, [.r 5], none, [5, 24]⟩,
 ⟨some 14, .bin .add, [.r 13, .k (.int .i64 1)], none, [13]⟩,
 ⟨some 5, .mov, [.r 14], none, [14]⟩]
def m32 : MFn := ⟨[.tmp 4], .seq (.ops [⟨some 4, .mov, [.k (.int .i64 0)], none, [4]⟩]) <|
.seq (.seq (.ops [⟨some 5, .mov, [.k (.int .i64 0)], none, []⟩]) <|
.block 0 (.loop m32_0)) <|
.seq (.ops [⟨some 4, .mov, [.k (.int .i64 (-1))], none, [0, 1, 5, 12]⟩]) <|
.ret⟩
theorem c32 : cFn Try.prog 32 = some m32.bare := by kernel_rfl

/-- '(*swingbridge/lock.Locks).Grant$1' -/
def m33 : MFn := ⟨[.tmp 3], .seq (.ops [⟨some 3, .mov, [.k (.int .i64 0)], none, [3]⟩]) <|
.seq (.ops [⟨some 4, .ld none, [.r 1], none, []⟩,
 ⟨some 5, .nilck, [.r 4], none, [4]⟩,
 ⟨some 6, .fa 4, [.r 5], none, [5]⟩,
 ⟨some 7, .ld none, [.r 6], none, [6]⟩,
 ⟨some 8, .mov, [.r 0], none, [0]⟩,
 ⟨some 9, .look (.pointer none) false, [.r 7, .r 8], none, [7, 8]⟩,
 ⟨some 10, .nilck, [.r 9], none, [9]⟩,
 ⟨some 11, .fa 1, [.r 10], none, [10]⟩,
 ⟨some 12, .ld none, [.r 11], none, [11]⟩,
 ⟨some 3, .mov, [.r 12], none, [12]⟩]) <|
.ret⟩
theorem c33 : cFn Try.prog 33 = some m33.bare := by kernel_rfl

/-- '(*swingbridge/lock.Locks).Grant$2' -/
def m34 : MFn := ⟨[.tmp 3], .seq (.ops [⟨some 3, .mov, [.k (.int .i64 0)], none, [3]⟩]) <|
.seq (.ops [⟨some 4, .ld none, [.r 1], none, []⟩,
 ⟨some 5, .nilck, [.r 4], none, [4]⟩,
 ⟨some 6, .fa 0, [.r 5], none, [5]⟩,
 ⟨some 7, .fa 3, [.r 6], none, [6]⟩,
 ⟨some 8, .ld none, [.r 7], none, [7]⟩,
 ⟨some 9, .mov, [.r 0], none, [0]⟩,
 ⟨some 10, .ia 6, [.r 8, .r 9], none, [8, 9]⟩,
 ⟨some 11, .fa 3, [.r 10], none, [10]⟩,
 ⟨some 12, .ld none, [.r 11], none, [11]⟩,
 ⟨some 3, .mov, [.r 12], none, [12]⟩]) <|
.ret⟩
theorem c34 : cFn Try.prog 34 = some m34.bare := by kernel_rfl

/-- '(*swingbridge/lock.Locks).gives' -/
def m35_0 : MCode := .seq (.ops [⟨some 44, .bin .lss, [.r 43, .r 42], none, []⟩]) <|
 .seq (.cond (.r 44)
 (.skip)
 (.exit 2)) <|
 .seq (.block 3 (.seq (.ops [⟨some 45, .ia 1, [.r 41, .r 43], none, [44]⟩,
 ⟨some 46, .ld none, [.r 45], none, [45]⟩,
 ⟨some 10, .mov, [.r 46], none, [46]⟩]) <|
 .seq (.ops [⟨some 47, .mov, [.r 0], none, []⟩,
 ⟨some 48, .nilck, [.r 47], none, [47]⟩,
 ⟨some 49, .fa 4, [.r 48], none, [48]⟩,
 ⟨some 50, .ld none, [.r 49], none, [49]⟩,
 ⟨some 51, .mov, [.r 10], none, []⟩,
 ⟨some 52, .look (.pointer none) false, [.r 50, .r 51], none, [50, 51]⟩,
 ⟨some 11, .mov, [.r 52], none, [52]⟩]) <|
 .seq (.ops [⟨some 53, .mov, [.r 2], none, []⟩,
 ⟨some 54, .mov, [.r 11], none, []⟩,
 ⟨some 55, .nilck, [.r 54], none, [54]⟩,
 ⟨some 56, .fa 0, [.r 55], none, [55]⟩,
 ⟨some 57, .ld none, [.r 56], none, [56]⟩,
 ⟨some 58, .callv, [.r 53, .r 57], none, [53, 57]⟩]) <|
 .cond (.r 58)
 (.seq (.ops [⟨some 59, .mov, [.r 11], none, [11, 58]⟩,
 ⟨some 60, .nilck, [.r 59], none, [59]⟩,
 ⟨some 61, .fa 3, [.r 60], none, [60]⟩,
 ⟨none, .st 1, [.r 61, .k (.bool true)], none, [61]⟩]) <|
 .ops [⟨some 62, .mov, [.r 0], none, []⟩,
 ⟨some 63, .nilck, [.r 62], none, [62]⟩,
 ⟨some 64, .fa 5, [.r 63], none, [63]⟩,
 ⟨some 65, .ld none, [.r 64], none, [64]⟩,
 ⟨some 66, .mov, [.r 10], none, [10]⟩,
 ⟨some 67, .call 42, [.r 65, .r 66], none, [65, 66, 67]⟩])
 (.skip))) <|
 .ops [⟨some 68, .bin .add, [.r 43, .k (.int .i64 1)], none, [10, 11, 43, 58]⟩,
 ⟨some 43, .mov, [.r 68], none, [68]⟩]
def m35_1 : MCode := .seq (.ops [⟨some 20, .bin .lss, [.r 19, .r 18], none, []⟩]) <|
 .seq (.cond (.r 20)
 (.skip)
 (.exit 0)) <|
 .seq (.block 1 (.seq (.ops [⟨some 21, .ia 1, [.r 17, .r 19], none, [20]⟩,
 ⟨some 22, .ld none, [.r 21], none, [21]⟩,
 ⟨some 8, .mov, [.r 22], none, [22]⟩]) <|
 .seq (.seq (.ops [⟨some 23, .mov, [.r 0], none, []⟩,
 ⟨some 24, .nilck, [.r 23], none, [23]⟩,
 ⟨some 25, .fa 4, [.r 24], none, [24]⟩,
 ⟨some 26, .ld none, [.r 25], none, [25]⟩,
 ⟨some 27, .mov, [.r 8], none, []⟩,
 ⟨some 28, .look (.pointer none) false, [.r 26, .r 27], none, [26, 27]⟩,
 ⟨some 29, .nilck, [.r 28], none, [28]⟩,
 ⟨some 30, .fa 2, [.r 29], none, [29]⟩,
 ⟨some 31, .ld none, [.r 30], none, [30]⟩,
 ⟨some 32, .un .not, [.r 31], none, [31]⟩]) <|
 .cond (.r 32)
 (.exit 1)
 (.skip)) <|
 .ops [⟨some 33, .mov, [.r 6], none, [32]⟩,
 ⟨some 34, .mov, [.r 1], none, []⟩,
 ⟨some 35, .mov, [.r 8], none, []⟩,
 ⟨some 36, .callv, [.r 34, .r 35], none, [34, 35]⟩,
 ⟨some 37, .mov, [.r 8], none, [8]⟩,
 ⟨some 38, .call 59, [.r 33, .r 36, .r 37], none, [33, 36, 37, 38]⟩])) <|
 .ops [⟨some 39, .bin .add, [.r 19, .k (.int .i64 1)], none, [8, 19, 32]⟩,
 ⟨some 19, .mov, [.r 39], none, [39]⟩]
def m35 : MFn := ⟨[], .seq (.ops [⟨some 12, .call 58, [.k (.int .i64 64)], none, []⟩,
 ⟨some 6, .mov, [.r 12], none, [12]⟩]) <|
.seq (.skip) <|
.seq (.seq (.ops [⟨some 13, .mov, [.r 0], none, []⟩,
 ⟨some 14, .nilck, [.r 13], none, [13]⟩,
 ⟨some 15, .fa 5, [.r 14], none, [14]⟩,
 ⟨some 16, .ld none, [.r 15], none, [15]⟩,
 ⟨some 17, .call 49, [.r 16], none, [16]⟩,
 ⟨some 18, .len, [.r 17], none, []⟩,
 ⟨some 19, .mov, [.k (.int .i64 0)], none, []⟩]) <|
.block 0 (.loop m35_1)) <|
.seq (.ops [⟨some 40, .mov, [.r 6], none, [1, 6, 17, 18, 19, 20]⟩,
 ⟨some 41, .call 60, [.r 40], none, [40]⟩,
 ⟨some 42, .len, [.r 41], none, []⟩,
 ⟨some 43, .mov, [.k (.int .i64 0)], none, []⟩]) <|
.block 2 (.loop m35_0)⟩
theorem c35 : cFn Try.prog 35 = some m35.bare := by kernel_rfl

/-- '(*swingbridge/lock.Locks).Grant$3' -/
def m36 : MFn := ⟨[.tmp 3], .seq (.ops [⟨some 3, .mov, [.k (.bool false)], none, [3]⟩]) <|
.seq (.draw [⟨some 4, .ld none, [.r 1], none, []⟩,
 ⟨some 5, .ld none, [.r 1], none, []⟩,
 ⟨some 6, .nilck, [.r 5], none, [5]⟩,
 ⟨some 7, .fa 0, [.r 6], none, [6]⟩,
 ⟨some 8, .fa 2, [.r 7], none, [7]⟩,
 ⟨some 9, .ld none, [.r 8], none, [8]⟩,
 ⟨some 10, .mov, [.r 0], none, [0]⟩,
 ⟨some 11, .ia 1, [.r 9, .r 10], none, [9, 10]⟩,
 ⟨some 12, .ld none, [.r 11], none, [11]⟩,
 ⟨some 13, .call 37, [.r 4, .r 12], none, [4, 12]⟩,
 ⟨some 14, .un .not, [.r 13], none, [13]⟩,
 ⟨some 3, .mov, [.r 14], none, [14]⟩] []) <|
.ret⟩
theorem c36 : cFn Try.prog 36 = some m36.bare := by kernel_rfl

/-- '(*swingbridge/lock.Locks).serves' -/
def m37_0 : MCode := .seq (.ops [⟨some 16, .bin .lss, [.r 15, .r 14], none, []⟩]) <|
 .seq (.cond (.r 16)
 (.skip)
 (.exit 0)) <|
 .seq (.block 1 (.seq (.ops [⟨some 17, .mov, [.r 15], none, [16]⟩,
 ⟨some 18, .ia 1, [.r 13, .r 15], none, []⟩,
 ⟨some 19, .ld none, [.r 18], none, [18]⟩,
 ⟨some 5, .mov, [.r 17], none, [17]⟩,
 ⟨some 6, .mov, [.r 19], none, [19]⟩]) <|
 .seq (.ops [⟨some 21, .mov, [.r 0], none, []⟩,
 ⟨some 22, .mov, [.r 5], none, [5]⟩,
 ⟨some 23, .call 24, [.r 21, .r 22], none, [21, 22]⟩,
 ⟨some 20, .mov, [.r 23], none, [23]⟩,
 ⟨some 24, .extract 0, [.r 20], none, []⟩,
 ⟨some 25, .extract 1, [.r 20], none, [20]⟩,
 ⟨some 7, .mov, [.r 24], none, [7, 24]⟩,
 ⟨some 8, .mov, [.r 25], none, [25]⟩]) <|
 .seq (.ops [⟨some 26, .mov, [.r 8], none, [8]⟩,
 ⟨some 27, .mov, [.r 26], none, [26]⟩,
 ⟨some 28, .mov, [.r 6], (some (27, true)), [6]⟩,
 ⟨some 29, .mov, [.r 1], (some (27, true)), []⟩,
 ⟨some 30, .bin .eql, [.r 28, .r 29], (some (27, true)), [28, 29]⟩,
 ⟨some 31, .pick, [.r 27, .r 30, .k (.bool false)], none, [27, 30]⟩]) <|
 .cond (.r 31)
 (.seq (.ops [⟨some 4, .mov, [.k (.bool true)], none, [0, 1, 13, 14, 15, 31]⟩]) <|
 .ret)
 (.skip))) <|
 .ops [⟨some 32, .bin .add, [.r 15, .k (.int .i64 1)], none, [15, 31]⟩,
 ⟨some 15, .mov, [.r 32], none, [32]⟩]
def m37 : MFn := ⟨[.tmp 4], .seq (.ops [⟨some 4, .mov, [.k (.bool false)], none, [4]⟩]) <|
.seq (.seq (.ops [⟨some 9, .mov, [.r 0], none, []⟩,
 ⟨some 10, .nilck, [.r 9], none, [9]⟩,
 ⟨some 11, .fa 0, [.r 10], none, [10]⟩,
 ⟨some 12, .fa 2, [.r 11], none, [11]⟩,
 ⟨some 13, .ld none, [.r 12], none, [12]⟩,
 ⟨some 14, .len, [.r 13], none, []⟩,
 ⟨some 15, .mov, [.k (.int .i64 0)], none, []⟩]) <|
.block 0 (.loop m37_0)) <|
.seq (.ops [⟨some 4, .mov, [.k (.bool false)], none, [0, 1, 13, 14, 15, 16]⟩]) <|
.ret⟩
theorem c37 : cFn Try.prog 37 = some m37.bare := by kernel_rfl

/-- '(*swingbridge/lock.Locks).lets' -/
def m38_0 : MCode := .seq (.ops [⟨some 55, .bin .lss, [.r 54, .r 53], none, []⟩]) <|
 .seq (.cond (.r 55)
 (.skip)
 (.exit 3)) <|
 .seq (.block 4 (.seq (.ops [⟨some 56, .ia 1, [.r 52, .r 54], none, [55]⟩,
 ⟨some 57, .ld none, [.r 56], none, [56]⟩,
 ⟨some 6, .mov, [.r 57], none, [57]⟩]) <|
 .seq (.ops [⟨some 58, .mov, [.r 0], none, []⟩,
 ⟨some 59, .nilck, [.r 58], none, []⟩,
 ⟨some 60, .fa 7, [.r 59], none, [59]⟩,
 ⟨some 61, .ld none, [.r 60], none, [60]⟩,
 ⟨some 62, .bin .add, [.r 61, .k (.int .i64 1)], none, [61]⟩,
 ⟨some 63, .nilck, [.r 58], none, [58]⟩,
 ⟨some 64, .fa 7, [.r 63], none, [63]⟩,
 ⟨none, .st 1, [.r 64, .r 62], none, [62, 64]⟩]) <|
 .draw [⟨some 65, .mov, [.r 0], none, []⟩,
 ⟨some 66, .nilck, [.r 65], none, [65]⟩,
 ⟨some 67, .fa 4, [.r 66], none, [66]⟩,
 ⟨some 68, .ld none, [.r 67], none, [67]⟩,
 ⟨some 69, .mov, [.r 6], none, []⟩,
 ⟨some 70, .look (.pointer none) false, [.r 68, .r 69], none, [68, 69]⟩,
 ⟨some 71, .mov, [.r 0], none, []⟩,
 ⟨some 72, .nilck, [.r 71], none, [71]⟩,
 ⟨some 73, .fa 4, [.r 72], none, [72]⟩,
 ⟨some 74, .ld none, [.r 73], none, [73]⟩,
 ⟨some 75, .mov, [.r 6], none, [6]⟩,
 ⟨some 76, .look (.pointer none) false, [.r 74, .r 75], none, [74, 75]⟩,
 ⟨some 77, .mov, [.r 0], none, []⟩,
 ⟨some 78, .nilck, [.r 77], none, [77]⟩,
 ⟨some 79, .fa 7, [.r 78], none, [78]⟩,
 ⟨some 80, .ld none, [.r 79], none, [79]⟩,
 ⟨some 81, .nilck, [.r 70], none, [70]⟩,
 ⟨some 82, .fa 1, [.r 81], none, [81]⟩,
 ⟨none, .st 1, [.r 82, .r 80], none, [80, 82]⟩,
 ⟨some 83, .nilck, [.r 76], none, [76]⟩,
 ⟨some 84, .fa 2, [.r 83], none, [83]⟩,
 ⟨none, .st 1, [.r 84, .k (.bool true)], none, [84]⟩] [])) <|
 .ops [⟨some 85, .bin .add, [.r 54, .k (.int .i64 1)], none, [54]⟩,
 ⟨some 54, .mov, [.r 85], none, [85]⟩]
def m38_1 : MCode := .seq (.ops [⟨some 14, .bin .lss, [.r 13, .r 12], none, []⟩]) <|
 .seq (.cond (.r 14)
 (.skip)
 (.exit 0)) <|
 .seq (.block 1 (.seq (.ops [⟨some 15, .ia 1, [.r 11, .r 13], none, [14]⟩,
 ⟨some 16, .ld none, [.r 15], none, [15]⟩,
 ⟨some 4, .mov, [.r 16], none, [16]⟩]) <|
 .seq (.seq (.ops [⟨some 17, .mov, [.r 0], none, []⟩,
 ⟨some 18, .nilck, [.r 17], none, [17]⟩,
 ⟨some 19, .fa 4, [.r 18], none, [18]⟩,
 ⟨some 20, .ld none, [.r 19], none, [19]⟩,
 ⟨some 21, .mov, [.r 4], none, []⟩,
 ⟨some 22, .look (.pointer none) false, [.r 20, .r 21], none, [20, 21]⟩,
 ⟨some 23, .nilck, [.r 22], none, [22]⟩,
 ⟨some 24, .fa 2, [.r 23], none, [23]⟩,
 ⟨some 25, .ld none, [.r 24], none, [24]⟩]) <|
 .cond (.r 25)
 (.exit 1)
 (.skip)) <|
 .seq (.seq (.draw [⟨some 26, .mov, [.r 0], none, [25]⟩,
 ⟨some 27, .nilck, [.r 26], none, [26]⟩,
 ⟨some 28, .fa 6, [.r 27], none, [27]⟩,
 ⟨some 29, .ld none, [.r 28], none, [28]⟩,
 ⟨some 30, .mov, [.r 0], none, []⟩,
 ⟨some 31, .nilck, [.r 30], none, [30]⟩,
 ⟨some 32, .fa 0, [.r 31], none, [31]⟩,
 ⟨some 33, .fa 3, [.r 32], none, [32]⟩,
 ⟨some 34, .ld none, [.r 33], none, [33]⟩,
 ⟨some 35, .mov, [.r 4], none, []⟩,
 ⟨some 36, .ia 6, [.r 34, .r 35], none, [34, 35]⟩,
 ⟨some 37, .fa 4, [.r 36], none, [36]⟩,
 ⟨some 38, .ld none, [.r 37], none, [37]⟩,
 ⟨some 39, .ia 1, [.r 29, .r 38], none, [29, 38]⟩,
 ⟨some 40, .ld none, [.r 39], none, [39]⟩] []) <|
 .ops [⟨some 41, .build [] [], [], none, []⟩]) <|
 .seq (.ops [⟨some 42, .sel1 true (.agg #[]) false, [.r 40, .r 41], none, [40, 41]⟩,
 ⟨some 43, .extract 0, [.r 42], none, [42]⟩,
 ⟨some 44, .bin .eql, [.r 43, .k (.int .i64 0)], none, [43]⟩]) <|
 .block 2 (.cond (.r 44)
 (.ops [⟨some 45, .mov, [.r 2], none, [2, 44]⟩,
 ⟨some 46, .mov, [.r 4], none, [4]⟩,
 ⟨some 47, .bslice 1 1 [.int .i64 0] [(0, 1)], [.r 46], none, [46]⟩,
 ⟨some 48, .app 1 8, [.r 45, .r 47], none, [45, 47]⟩,
 ⟨some 2, .mov, [.r 48], none, [48]⟩])
 (.skip)))) <|
 .ops [⟨some 49, .bin .add, [.r 13, .k (.int .i64 1)], none, [4, 13, 25, 44]⟩,
 ⟨some 13, .mov, [.r 49], none, [49]⟩]
def m38 : MFn := ⟨[], .seq (.ops [⟨some 2, .mov, [.k (.slice none 0 0)], none, []⟩]) <|
.seq (.skip) <|
.seq (.seq (.ops [⟨some 7, .mov, [.r 0], none, []⟩,
 ⟨some 8, .nilck, [.r 7], none, [7]⟩,
 ⟨some 9, .fa 5, [.r 8], none, [8]⟩,
 ⟨some 10, .ld none, [.r 9], none, [9]⟩,
 ⟨some 11, .call 49, [.r 10], none, [10]⟩,
 ⟨some 12, .len, [.r 11], none, []⟩,
 ⟨some 13, .mov, [.k (.int .i64 0)], none, []⟩]) <|
.block 0 (.loop m38_1)) <|
.seq (.ops [⟨some 50, .mov, [.r 2], none, [11, 12, 13, 14]⟩,
 ⟨some 51, .call 50, [.r 50], none, [50, 51]⟩]) <|
.seq (.ops [⟨some 52, .mov, [.r 2], none, [2]⟩,
 ⟨some 53, .len, [.r 52], none, []⟩,
 ⟨some 54, .mov, [.k (.int .i64 0)], none, []⟩]) <|
.block 3 (.loop m38_0)⟩
theorem c38 : cFn Try.prog 38 = some m38.bare := by kernel_rfl

/-- '(*swingbridge/lock.Locks).Grant$4' -/
def m39 : MFn := ⟨[.tmp 3], .seq (.ops [⟨some 3, .mov, [.k (.bool false)], none, [3]⟩]) <|
.seq (.ops [⟨some 7, .ld none, [.r 1], none, []⟩,
 ⟨some 8, .mov, [.r 0], none, [0]⟩,
 ⟨some 9, .call 24, [.r 7, .r 8], none, [7, 8]⟩,
 ⟨some 6, .mov, [.r 9], none, [9]⟩,
 ⟨some 10, .extract 0, [.r 6], none, []⟩,
 ⟨some 11, .extract 1, [.r 6], none, [6]⟩,
 ⟨some 4, .mov, [.r 10], none, [4, 10]⟩,
 ⟨some 5, .mov, [.r 11], none, [11]⟩]) <|
.seq (.ops [⟨some 12, .mov, [.r 5], none, [5]⟩,
 ⟨some 13, .un .not, [.r 12], none, [12]⟩,
 ⟨some 3, .mov, [.r 13], none, [13]⟩]) <|
.ret⟩
theorem c39 : cFn Try.prog 39 = some m39.bare := by kernel_rfl

/-- '(*swingbridge/swingbridgeref23.Locks).lets' -/
def m40_0 : MCode := .seq (.seq (.ops [⟨some 112, .mov, [.r 8], none, []⟩,
 ⟨some 113, .bin .lss, [.r 112, .k (.int .i64 6)], none, [112]⟩]) <|
 .cond (.r 113)
 (.skip)
 (.exit 4)) <|
 .seq (.block 5 (.seq (.ops [⟨some 116, .mov, [.r 8], none, [113]⟩,
 ⟨some 117, .iarr 6 1, [.r 3, .r 116], none, [116]⟩,
 ⟨some 118, .ld none, [.r 117], none, [117]⟩]) <|
 .cond (.r 118)
 (.seq (.ops [⟨some 119, .mov, [.r 0], none, [118]⟩,
 ⟨some 120, .mov, [.r 0], none, []⟩,
 ⟨some 121, .nilck, [.r 120], none, [120]⟩,
 ⟨some 122, .fa 5, [.r 121], none, [121]⟩,
 ⟨some 123, .ld none, [.r 122], none, [122]⟩,
 ⟨some 124, .bin .add, [.r 123, .k (.int .i64 1)], none, [123]⟩,
 ⟨some 125, .nilck, [.r 119], none, [119]⟩,
 ⟨some 126, .fa 5, [.r 125], none, [125]⟩,
 ⟨none, .st 1, [.r 126, .r 124], none, [124, 126]⟩]) <|
 .draw [⟨some 127, .mov, [.r 0], none, []⟩,
 ⟨some 128, .nilck, [.r 127], none, [127]⟩,
 ⟨some 129, .fa 4, [.r 128], none, [128]⟩,
 ⟨some 130, .ld none, [.r 129], none, [129]⟩,
 ⟨some 131, .mov, [.r 0], none, []⟩,
 ⟨some 132, .mov, [.r 8], none, []⟩,
 ⟨some 133, .call 32, [.r 131, .r 132], none, [131, 132]⟩,
 ⟨some 134, .mov, [.r 0], none, []⟩,
 ⟨some 135, .nilck, [.r 134], none, [134]⟩,
 ⟨some 136, .fa 5, [.r 135], none, [135]⟩,
 ⟨some 137, .ld none, [.r 136], none, [136]⟩,
 ⟨some 138, .ia 4, [.r 130, .r 133], none, [130, 133]⟩,
 ⟨some 139, .fa 2, [.r 138], none, [138]⟩,
 ⟨none, .st 1, [.r 139, .r 137], none, [137, 139]⟩] [(3, 6), (10, 6)])
 (.skip))) <|
 .ops [⟨some 114, .mov, [.r 8], none, [8, 118]⟩,
 ⟨some 115, .bin .add, [.r 114, .k (.int .i64 1)], none, [114]⟩,
 ⟨some 8, .mov, [.r 115], none, [115]⟩]
def m40_1 : MCode := .seq (.seq (.ops [⟨some 49, .mov, [.r 6], none, []⟩,
 ⟨some 50, .mov, [.r 0], none, []⟩,
 ⟨some 51, .nilck, [.r 50], none, [50]⟩,
 ⟨some 52, .fa 4, [.r 51], none, [51]⟩,
 ⟨some 53, .ld none, [.r 52], none, [52]⟩,
 ⟨some 54, .len, [.r 53], none, [53]⟩,
 ⟨some 55, .bin .lss, [.r 49, .r 54], none, [49, 54]⟩]) <|
 .cond (.r 55)
 (.skip)
 (.exit 2)) <|
 .seq (.block 3 (.seq (.draw [⟨some 58, .mov, [.r 0], none, [55]⟩,
 ⟨some 59, .nilck, [.r 58], none, [58]⟩,
 ⟨some 60, .fa 0, [.r 59], none, [59]⟩,
 ⟨some 61, .fa 3, [.r 60], none, [60]⟩,
 ⟨some 62, .ld none, [.r 61], none, [61]⟩,
 ⟨some 63, .mov, [.r 0], none, []⟩,
 ⟨some 64, .nilck, [.r 63], none, [63]⟩,
 ⟨some 65, .fa 4, [.r 64], none, [64]⟩,
 ⟨some 66, .ld none, [.r 65], none, [65]⟩,
 ⟨some 67, .mov, [.r 6], none, []⟩,
 ⟨some 68, .ia 4, [.r 66, .r 67], none, [66, 67]⟩,
 ⟨some 69, .fa 0, [.r 68], none, [68]⟩,
 ⟨some 70, .ld none, [.r 69], none, [69]⟩,
 ⟨some 71, .ia 6, [.r 62, .r 70], none, [62, 70]⟩,
 ⟨some 72, .fa 4, [.r 71], none, [71]⟩,
 ⟨some 73, .ld none, [.r 72], none, [72]⟩,
 ⟨some 7, .mov, [.r 73], none, [73]⟩] []) <|
 .seq (.draw [⟨some 74, .mov, [.r 0], none, []⟩,
 ⟨some 75, .nilck, [.r 74], none, [74]⟩,
 ⟨some 76, .fa 4, [.r 75], none, [75]⟩,
 ⟨some 77, .ld none, [.r 76], none, [76]⟩,
 ⟨some 78, .mov, [.r 6], none, []⟩,
 ⟨some 79, .ia 4, [.r 77, .r 78], none, [77, 78]⟩,
 ⟨some 80, .fa 2, [.r 79], none, [79]⟩,
 ⟨some 81, .ld none, [.r 80], none, [80]⟩,
 ⟨some 82, .bin .eql, [.r 81, .k (.int .i64 0)], none, [81]⟩,
 ⟨some 83, .mov, [.r 82], none, [82]⟩,
 ⟨some 84, .mov, [.r 7], (some (83, true)), []⟩,
 ⟨some 85, .iarr 3 1, [.r 2, .r 84], (some (83, true)), [84]⟩,
 ⟨some 86, .ld none, [.r 85], (some (83, true)), [85]⟩,
 ⟨some 87, .mov, [.r 0], (some (83, true)), []⟩,
 ⟨some 88, .nilck, [.r 87], (some (83, true)), [87]⟩,
 ⟨some 89, .fa 0, [.r 88], (some (83, true)), [88]⟩,
 ⟨some 90, .fa 1, [.r 89], (some (83, true)), [89]⟩,
 ⟨some 91, .ld none, [.r 90], (some (83, true)), [90]⟩,
 ⟨some 92, .mov, [.r 7], (some (83, true)), []⟩,
 ⟨some 93, .ia 1, [.r 91, .r 92], (some (83, true)), [91, 92]⟩,
 ⟨some 94, .ld none, [.r 93], (some (83, true)), [93]⟩,
 ⟨some 95, .bin .lss, [.r 86, .r 94], (some (83, true)), [86, 94]⟩,
 ⟨some 96, .pick, [.r 83, .r 95, .k (.bool false)], none, [83, 95]⟩] []) <|
 .cond (.r 96)
 (.seq (.ops [⟨some 97, .mov, [.r 7], none, [96]⟩,
 ⟨some 98, .mov, [.r 7], none, [7]⟩,
 ⟨some 99, .iarr 3 1, [.r 2, .r 98], none, [98]⟩,
 ⟨some 100, .ld none, [.r 99], none, [99]⟩,
 ⟨some 101, .bin .add, [.r 100, .k (.int .i64 1)], none, [100]⟩,
 ⟨some 102, .iarr 3 1, [.r 2, .r 97], none, [97]⟩,
 ⟨none, .st 1, [.r 102, .r 101], none, [101, 102]⟩]) <|
 .ops [⟨some 103, .mov, [.r 0], none, []⟩,
 ⟨some 104, .nilck, [.r 103], none, [103]⟩,
 ⟨some 105, .fa 4, [.r 104], none, [104]⟩,
 ⟨some 106, .ld none, [.r 105], none, [105]⟩,
 ⟨some 107, .mov, [.r 6], none, []⟩,
 ⟨some 108, .ia 4, [.r 106, .r 107], none, [106, 107]⟩,
 ⟨some 109, .fa 0, [.r 108], none, [108]⟩,
 ⟨some 110, .ld none, [.r 109], none, [109]⟩,
 ⟨some 111, .iarr 6 1, [.r 3, .r 110], none, [110]⟩,
 ⟨none, .st 1, [.r 111, .k (.bool true)], none, [111]⟩])
 (.skip))) <|
 .ops [⟨some 56, .mov, [.r 6], none, [6, 7, 96]⟩,
 ⟨some 57, .bin .add, [.r 56, .k (.int .i64 1)], none, [56]⟩,
 ⟨some 6, .mov, [.r 57], none, [57]⟩]
def m40_2 : MCode := .seq (.seq (.ops [⟨some 9, .mov, [.r 4], none, []⟩,
 ⟨some 10, .mov, [.r 0], none, []⟩,
 ⟨some 11, .nilck, [.r 10], none, [10]⟩,
 ⟨some 12, .fa 4, [.r 11], none, [11]⟩,
 ⟨some 13, .ld none, [.r 12], none, [12]⟩,
 ⟨some 14, .len, [.r 13], none, [13]⟩,
 ⟨some 15, .bin .lss, [.r 9, .r 14], none, [9, 14]⟩]) <|
 .cond (.r 15)
 (.skip)
 (.exit 0)) <|
 .seq (.block 1 (.seq (.ops [⟨some 18, .mov, [.r 0], none, [15]⟩,
 ⟨some 19, .nilck, [.r 18], none, [18]⟩,
 ⟨some 20, .fa 4, [.r 19], none, [19]⟩,
 ⟨some 21, .ld none, [.r 20], none, [20]⟩,
 ⟨some 22, .mov, [.r 4], none, []⟩,
 ⟨some 23, .ia 4, [.r 21, .r 22], none, [21, 22]⟩,
 ⟨some 24, .fa 2, [.r 23], none, [23]⟩,
 ⟨some 25, .ld none, [.r 24], none, [24]⟩,
 ⟨some 26, .bin .gtr, [.r 25, .k (.int .i64 0)], none, [25]⟩]) <|
 .cond (.r 26)
 (.seq (.draw [⟨some 27, .mov, [.r 0], none, [26]⟩,
 ⟨some 28, .nilck, [.r 27], none, [27]⟩,
 ⟨some 29, .fa 0, [.r 28], none, [28]⟩,
 ⟨some 30, .fa 3, [.r 29], none, [29]⟩,
 ⟨some 31, .ld none, [.r 30], none, [30]⟩,
 ⟨some 32, .mov, [.r 0], none, []⟩,
 ⟨some 33, .nilck, [.r 32], none, [32]⟩,
 ⟨some 34, .fa 4, [.r 33], none, [33]⟩,
 ⟨some 35, .ld none, [.r 34], none, [34]⟩,
 ⟨some 36, .mov, [.r 4], none, []⟩,
 ⟨some 37, .ia 4, [.r 35, .r 36], none, [35, 36]⟩,
 ⟨some 38, .fa 0, [.r 37], none, [37]⟩,
 ⟨some 39, .ld none, [.r 38], none, [38]⟩,
 ⟨some 40, .ia 6, [.r 31, .r 39], none, [31, 39]⟩,
 ⟨some 41, .fa 4, [.r 40], none, [40]⟩,
 ⟨some 42, .ld none, [.r 41], none, [41]⟩,
 ⟨some 5, .mov, [.r 42], none, [42]⟩] []) <|
 .ops [⟨some 43, .mov, [.r 5], none, []⟩,
 ⟨some 44, .mov, [.r 5], none, [5]⟩,
 ⟨some 45, .iarr 3 1, [.r 2, .r 44], none, [44]⟩,
 ⟨some 46, .ld none, [.r 45], none, [45]⟩,
 ⟨some 47, .bin .add, [.r 46, .k (.int .i64 1)], none, [46]⟩,
 ⟨some 48, .iarr 3 1, [.r 2, .r 43], none, [43]⟩,
 ⟨none, .st 1, [.r 48, .r 47], none, [47, 48]⟩])
 (.skip))) <|
 .ops [⟨some 16, .mov, [.r 4], none, [4, 26]⟩,
 ⟨some 17, .bin .add, [.r 16, .k (.int .i64 1)], none, [16]⟩,
 ⟨some 4, .mov, [.r 17], none, [17]⟩]
def m40 : MFn := ⟨[], .seq (.ops [⟨some 2, .new 1 [.int .i64 0, .int .i64 0, .int .i64 0], [], none, []⟩]) <|
.seq (.ops [⟨some 3, .new 1 [.bool false, .bool false, .bool false, .bool false, .bool false, .bool false], [], none, []⟩]) <|
.seq (.seq (.ops [⟨some 4, .mov, [.k (.int .i64 0)], none, []⟩]) <|
.block 0 (.loop m40_2)) <|
.seq (.seq (.ops [⟨some 6, .mov, [.k (.int .i64 0)], none, [4, 15]⟩]) <|
.block 2 (.loop m40_1)) <|
.seq (.ops [⟨some 8, .mov, [.k (.int .i64 0)], none, [2, 6, 55]⟩]) <|
.block 4 (.loop m40_0)⟩
theorem c40 : cFn Try.prog 40 = some m40.bare := by kernel_rfl

/-- '(*swingbridge/swingbridgeref23.Locks).best' -/
def m41_0 : MCode := .seq (.seq (.ops [⟨some 6, .mov, [.r 4], none, []⟩,
 ⟨some 7, .mov, [.r 0], none, []⟩,
 ⟨some 8, .nilck, [.r 7], none, [7]⟩,
 ⟨some 9, .fa 4, [.r 8], none, [8]⟩,
 ⟨some 10, .ld none, [.r 9], none, [9]⟩,
 ⟨some 11, .len, [.r 10], none, [10]⟩,
 ⟨some 12, .bin .lss, [.r 6, .r 11], none, [6, 11]⟩]) <|
 .cond (.r 12)
 (.skip)
 (.exit 0)) <|
 .seq (.block 1 (.seq (.ops [⟨some 15, .mov, [.r 0], none, [12]⟩,
 ⟨some 16, .nilck, [.r 15], none, [15]⟩,
 ⟨some 17, .fa 4, [.r 16], none, [16]⟩,
 ⟨some 18, .ld none, [.r 17], none, [17]⟩,
 ⟨some 19, .mov, [.r 4], none, []⟩,
 ⟨some 20, .ia 4, [.r 18, .r 19], none, [18, 19]⟩,
 ⟨some 21, .ld (some 4), [.r 20], none, [20]⟩,
 ⟨some 5, .new 0 [.int .i64 0, .int .i64 0, .int .i64 0, .bool false], [], none, []⟩,
 ⟨none, .st 4, [.r 5, .r 21], none, [21]⟩]) <|
 .seq (.draw [⟨some 22, .fa 3, [.r 5], none, []⟩,
 ⟨some 23, .ld none, [.r 22], none, [22]⟩,
 ⟨some 24, .un .not, [.r 23], none, [23]⟩,
 ⟨some 25, .mov, [.r 24], none, [24]⟩,
 ⟨some 26, .fa 2, [.r 5], (some (25, true)), []⟩,
 ⟨some 27, .ld none, [.r 26], (some (25, true)), [26]⟩,
 ⟨some 28, .bin .gtr, [.r 27, .k (.int .i64 0)], (some (25, true)), [27]⟩,
 ⟨some 29, .pick, [.r 25, .r 28, .k (.bool false)], none, [25, 28]⟩,
 ⟨some 30, .mov, [.r 29], none, [29]⟩,
 ⟨some 31, .mov, [.r 0], (some (30, true)), []⟩,
 ⟨some 32, .fa 1, [.r 5], (some (30, true)), []⟩,
 ⟨some 33, .ld none, [.r 32], (some (30, true)), [32]⟩,
 ⟨some 34, .call 61, [.r 31, .r 33], (some (30, true)), [31, 33]⟩,
 ⟨some 35, .un .not, [.r 34], (some (30, true)), [34]⟩,
 ⟨some 36, .pick, [.r 30, .r 35, .k (.bool false)], none, [30, 35]⟩,
 ⟨some 37, .mov, [.r 36], none, [36]⟩,
 ⟨some 38, .mov, [.r 3], (some (37, true)), []⟩,
 ⟨some 39, .bin .lss, [.r 38, .k (.int .i64 0)], (some (37, true)), [38]⟩,
 ⟨some 40, .mov, [.r 39], (some (37, true)), [39]⟩,
 ⟨some 41, .mov, [.r 0], (some (40, false)), []⟩,
 ⟨some 42, .ld (some 4), [.r 5], (some (40, false)), [5]⟩,
 ⟨some 43, .call 62, [.r 41, .r 42], (some (40, false)), [41, 42]⟩,
 ⟨some 44, .mov, [.r 0], (some (40, false)), []⟩,
 ⟨some 45, .mov, [.r 0], (some (40, false)), []⟩,
 ⟨some 46, .nilck, [.r 45], (some (40, false)), [45]⟩,
 ⟨some 47, .fa 4, [.r 46], (some (40, false)), [46]⟩,
 ⟨some 48, .ld none, [.r 47], (some (40, false)), [47]⟩,
 ⟨some 49, .mov, [.r 3], (some (40, false)), []⟩,
 ⟨some 50, .ia 4, [.r 48, .r 49], (some (40, false)), [48, 49]⟩,
 ⟨some 51, .ld (some 4), [.r 50], (some (40, false)), [50]⟩,
 ⟨some 52, .call 62, [.r 44, .r 51], (some (40, false)), [44, 51]⟩,
 ⟨some 53, .bin .lss, [.r 43, .r 52], (some (40, false)), [43, 52]⟩,
 ⟨some 54, .pick, [.r 40, .k (.bool true), .r 53], (some (37, true)), [40, 53]⟩,
 ⟨some 55, .pick, [.r 37, .r 54, .k (.bool false)], none, [37, 54]⟩] [(26, 21), (29, 21)]) <|
 .cond (.r 55)
 (.ops [⟨some 56, .mov, [.r 4], none, [3, 55]⟩,
 ⟨some 3, .mov, [.r 56], none, [56]⟩])
 (.skip))) <|
 .ops [⟨some 13, .mov, [.r 4], none, [4, 55]⟩,
 ⟨some 14, .bin .add, [.r 13, .k (.int .i64 1)], none, [13]⟩,
 ⟨some 4, .mov, [.r 14], none, [14]⟩]
def m41 : MFn := ⟨[.tmp 2], .seq (.ops [⟨some 2, .mov, [.k (.int .i64 0)], none, [2]⟩]) <|
.seq (.ops [⟨some 3, .mov, [.k (.int .i64 (-1))], none, []⟩]) <|
.seq (.seq (.ops [⟨some 4, .mov, [.k (.int .i64 0)], none, []⟩]) <|
.block 0 (.loop m41_0)) <|
.seq (.ops [⟨some 57, .mov, [.r 3], none, [0, 3, 4, 12]⟩,
 ⟨some 2, .mov, [.r 57], none, [57]⟩]) <|
.ret⟩
theorem c41 : cFn Try.prog 41 = some m41.bare := by kernel_rfl

/-- '(*swingbridge/line.Line).Drop' -/
def m42_0 : MCode := .seq (.ops [⟨some 13, .bin .lss, [.r 12, .r 11], none, []⟩]) <|
 .seq (.cond (.r 13)
 (.skip)
 (.exit 0)) <|
 .seq (.block 1 (.seq (.ops [⟨some 14, .mov, [.r 12], none, [13]⟩,
 ⟨some 15, .ia 1, [.r 10, .r 12], none, []⟩,
 ⟨some 16, .ld none, [.r 15], none, [15]⟩,
 ⟨some 5, .mov, [.r 14], none, [14]⟩,
 ⟨some 6, .mov, [.r 16], none, [16]⟩]) <|
 .seq (.seq (.ops [⟨some 17, .mov, [.r 6], none, [6]⟩,
 ⟨some 18, .mov, [.r 1], none, []⟩,
 ⟨some 19, .bin .neq, [.r 17, .r 18], none, [17, 18]⟩]) <|
 .cond (.r 19)
 (.exit 1)
 (.skip)) <|
 .seq (.ops [⟨some 20, .mov, [.r 0], none, [1, 10, 11, 12, 19]⟩,
 ⟨some 21, .mov, [.r 0], none, [0]⟩,
 ⟨some 22, .nilck, [.r 21], none, [21]⟩,
 ⟨some 23, .fa 0, [.r 22], none, [22]⟩,
 ⟨some 24, .ld none, [.r 23], none, [23]⟩,
 ⟨some 25, .mov, [.r 5], none, []⟩,
 ⟨some 26, .mov, [.r 5], none, [5]⟩,
 ⟨some 27, .bin .add, [.r 26, .k (.int .i64 1)], none, [26]⟩,
 ⟨some 28, .call 63, [.r 24, .r 25, .r 27], none, [24, 25, 27]⟩,
 ⟨some 29, .nilck, [.r 20], none, [20]⟩,
 ⟨some 30, .fa 0, [.r 29], none, [29]⟩,
 ⟨none, .st 1, [.r 30, .r 28], none, [28, 30]⟩]) <|
 .seq (.ops [⟨some 4, .mov, [.k (.bool true)], none, []⟩]) <|
 .ret)) <|
 .ops [⟨some 31, .bin .add, [.r 12, .k (.int .i64 1)], none, [5, 12, 19]⟩,
 ⟨some 12, .mov, [.r 31], none, [31]⟩]
def m42 : MFn := ⟨[.tmp 4], .seq (.ops [⟨some 4, .mov, [.k (.bool false)], none, [4]⟩]) <|
.seq (.skip) <|
.seq (.seq (.ops [⟨some 7, .mov, [.r 0], none, []⟩,
 ⟨some 8, .nilck, [.r 7], none, [7]⟩,
 ⟨some 9, .fa 0, [.r 8], none, [8]⟩,
 ⟨some 10, .ld none, [.r 9], none, [9]⟩,
 ⟨some 11, .len, [.r 10], none, []⟩,
 ⟨some 12, .mov, [.k (.int .i64 0)], none, []⟩]) <|
.block 0 (.loop m42_0)) <|
.seq (.ops [⟨some 4, .mov, [.k (.bool false)], none, [0, 1, 10, 11, 12, 13]⟩]) <|
.ret⟩
theorem c42 : cFn Try.prog 42 = some m42.bare := by kernel_rfl

/-- '(*swingbridge/swingbridgeref23.Locks).Holds' -/
def m43 : MFn := ⟨[.tmp 4], .seq (.ops [⟨some 4, .mov, [.k (.bool false)], none, [4]⟩]) <|
.seq (.ops [⟨some 6, .mov, [.r 0], none, []⟩,
 ⟨some 7, .mov, [.r 1], none, [1]⟩,
 ⟨some 8, .call 32, [.r 6, .r 7], none, [6, 7]⟩,
 ⟨some 5, .mov, [.r 8], none, [8]⟩]) <|
.seq (.ops [⟨some 9, .mov, [.r 5], none, []⟩,
 ⟨some 10, .bin .geq, [.r 9, .k (.int .i64 0)], none, [9]⟩,
 ⟨some 11, .mov, [.r 10], none, [10]⟩,
 ⟨some 12, .mov, [.r 0], (some (11, true)), [0]⟩,
 ⟨some 13, .nilck, [.r 12], (some (11, true)), [12]⟩,
 ⟨some 14, .fa 4, [.r 13], (some (11, true)), [13]⟩,
 ⟨some 15, .ld none, [.r 14], (some (11, true)), [14]⟩,
 ⟨some 16, .mov, [.r 5], (some (11, true)), [5]⟩,
 ⟨some 17, .ia 4, [.r 15, .r 16], (some (11, true)), [15, 16]⟩,
 ⟨some 18, .fa 3, [.r 17], (some (11, true)), [17]⟩,
 ⟨some 19, .ld none, [.r 18], (some (11, true)), [18]⟩,
 ⟨some 20, .pick, [.r 11, .r 19, .k (.bool false)], none, [11, 19]⟩,
 ⟨some 4, .mov, [.r 20], none, [20]⟩]) <|
.ret⟩
theorem c43 : cFn Try.prog 43 = some m43.bare := by kernel_rfl

/-- '(*swingbridge/swingbridgeref23.Locks).Boost' -/
def m44 : MFn := ⟨[.tmp 4], .seq (.ops [⟨some 4, .mov, [.k (.int .i64 0)], none, [4]⟩]) <|
.seq (.seq (.ops [⟨some 5, .mov, [.r 0], none, []⟩,
 ⟨some 6, .mov, [.r 1], none, []⟩,
 ⟨some 7, .call 43, [.r 5, .r 6], none, [5, 6]⟩,
 ⟨some 8, .un .not, [.r 7], none, [7]⟩]) <|
.cond (.r 8)
 (.seq (.ops [⟨some 4, .mov, [.k (.int .i64 0)], none, [0, 1, 8]⟩]) <|
 .ret)
 (.skip)) <|
.seq (.seq (.ops [⟨some 9, .mov, [.r 0], none, [8]⟩,
 ⟨some 10, .nilck, [.r 9], none, [9]⟩,
 ⟨some 11, .fa 0, [.r 10], none, [10]⟩,
 ⟨some 12, .fa 0, [.r 11], none, [11]⟩,
 ⟨some 13, .ld none, [.r 12], none, [12]⟩,
 ⟨some 14, .bin .eql, [.r 13, .k (.int .i64 2)], none, [13]⟩]) <|
.cond (.r 14)
 (.seq (.ops [⟨some 4, .mov, [.k (.int .i64 1)], none, [0, 1, 14]⟩]) <|
 .ret)
 (.skip)) <|
.seq (.draw [⟨some 15, .mov, [.r 0], none, [14]⟩,
 ⟨some 16, .nilck, [.r 15], none, [15]⟩,
 ⟨some 17, .fa 4, [.r 16], none, [16]⟩,
 ⟨some 18, .ld none, [.r 17], none, [17]⟩,
 ⟨some 19, .mov, [.r 0], none, [0]⟩,
 ⟨some 20, .mov, [.r 1], none, [1]⟩,
 ⟨some 21, .call 32, [.r 19, .r 20], none, [19, 20]⟩,
 ⟨some 22, .ia 4, [.r 18, .r 21], none, [18, 21]⟩,
 ⟨some 23, .fa 2, [.r 22], none, [22]⟩,
 ⟨some 24, .ld none, [.r 23], none, [23]⟩,
 ⟨some 4, .mov, [.r 24], none, [24]⟩] [(3, 6)]) <|
.ret⟩
theorem c44 : cFn Try.prog 44 = some m44.bare := by kernel_rfl

/-- '(*swingbridge/swingbridgeref23.Locks).Holder' -/
def m45_0 : MCode := .seq (.seq (.ops [⟨some 7, .mov, [.r 6], none, []⟩,
 ⟨some 8, .mov, [.r 0], none, []⟩,
 ⟨some 9, .nilck, [.r 8], none, [8]⟩,
 ⟨some 10, .fa 4, [.r 9], none, [9]⟩,
 ⟨some 11, .ld none, [.r 10], none, [10]⟩,
 ⟨some 12, .len, [.r 11], none, [11]⟩,
 ⟨some 13, .bin .lss, [.r 7, .r 12], none, [7, 12]⟩]) <|
 .cond (.r 13)
 (.skip)
 (.exit 0)) <|
 .seq (.block 1 (.seq (.ops [⟨some 16, .mov, [.r 0], none, [13]⟩,
 ⟨some 17, .nilck, [.r 16], none, [16]⟩,
 ⟨some 18, .fa 4, [.r 17], none, [17]⟩,
 ⟨some 19, .ld none, [.r 18], none, [18]⟩,
 ⟨some 20, .mov, [.r 6], none, []⟩,
 ⟨some 21, .ia 4, [.r 19, .r 20], none, [19, 20]⟩,
 ⟨some 22, .fa 1, [.r 21], none, [21]⟩,
 ⟨some 23, .ld none, [.r 22], none, [22]⟩,
 ⟨some 24, .mov, [.r 1], none, []⟩,
 ⟨some 25, .bin .eql, [.r 23, .r 24], none, [23, 24]⟩,
 ⟨some 26, .mov, [.r 25], none, [25]⟩,
 ⟨some 27, .mov, [.r 0], (some (26, true)), []⟩,
 ⟨some 28, .nilck, [.r 27], (some (26, true)), [27]⟩,
 ⟨some 29, .fa 4, [.r 28], (some (26, true)), [28]⟩,
 ⟨some 30, .ld none, [.r 29], (some (26, true)), [29]⟩,
 ⟨some 31, .mov, [.r 6], (some (26, true)), []⟩,
 ⟨some 32, .ia 4, [.r 30, .r 31], (some (26, true)), [30, 31]⟩,
 ⟨some 33, .fa 3, [.r 32], (some (26, true)), [32]⟩,
 ⟨some 34, .ld none, [.r 33], (some (26, true)), [33]⟩,
 ⟨some 35, .pick, [.r 26, .r 34, .k (.bool false)], none, [26, 34]⟩]) <|
 .cond (.r 35)
 (.seq (.ops [⟨some 36, .mov, [.r 0], none, [0, 1, 35]⟩,
 ⟨some 37, .nilck, [.r 36], none, [36]⟩,
 ⟨some 38, .fa 4, [.r 37], none, [37]⟩,
 ⟨some 39, .ld none, [.r 38], none, [38]⟩,
 ⟨some 40, .mov, [.r 6], none, [6]⟩,
 ⟨some 41, .ia 4, [.r 39, .r 40], none, [39, 40]⟩,
 ⟨some 42, .fa 0, [.r 41], none, [41]⟩,
 ⟨some 43, .ld none, [.r 42], none, [42]⟩,
 ⟨some 4, .mov, [.r 43], none, [43]⟩,
 ⟨some 5, .mov, [.k (.bool true)], none, []⟩]) <|
 .ret)
 (.skip))) <|
 .ops [⟨some 14, .mov, [.r 6], none, [6, 35]⟩,
 ⟨some 15, .bin .add, [.r 14, .k (.int .i64 1)], none, [14]⟩,
 ⟨some 6, .mov, [.r 15], none, [15]⟩]
def m45 : MFn := ⟨[.tmp 4, .tmp 5], .seq (.ops [⟨some 4, .mov, [.k (.int .i64 0)], none, [4]⟩,
 ⟨some 5, .mov, [.k (.bool false)], none, [5]⟩]) <|
.seq (.seq (.ops [⟨some 6, .mov, [.k (.int .i64 0)], none, []⟩]) <|
.block 0 (.loop m45_0)) <|
.seq (.ops [⟨some 4, .mov, [.k (.int .i64 0)], none, [0, 1, 6, 13]⟩,
 ⟨some 5, .mov, [.k (.bool false)], none, []⟩]) <|
.ret⟩
theorem c45 : cFn Try.prog 45 = some m45.bare := by kernel_rfl

/-- '(*swingbridge/swingbridgeref23.Locks).Waiting' -/
def m46_0 : MCode := .seq (.seq (.ops [⟨some 6, .mov, [.r 4], none, []⟩,
 ⟨some 7, .mov, [.r 0], none, []⟩,
 ⟨some 8, .nilck, [.r 7], none, [7]⟩,
 ⟨some 9, .fa 0, [.r 8], none, [8]⟩,
 ⟨some 10, .fa 3, [.r 9], none, [9]⟩,
 ⟨some 11, .ld none, [.r 10], none, [10]⟩,
 ⟨some 12, .len, [.r 11], none, [11]⟩,
 ⟨some 13, .bin .lss, [.r 6, .r 12], none, [6, 12]⟩]) <|
 .cond (.r 13)
 (.skip)
 (.exit 0)) <|
 .seq (.block 1 (.seq (.ops [⟨some 16, .mov, [.r 0], none, [13]⟩,
 ⟨some 17, .mov, [.r 4], none, []⟩,
 ⟨some 18, .call 32, [.r 16, .r 17], none, [16, 17]⟩,
 ⟨some 5, .mov, [.r 18], none, [18]⟩]) <|
 .seq (.ops [⟨some 19, .mov, [.r 5], none, []⟩,
 ⟨some 20, .bin .geq, [.r 19, .k (.int .i64 0)], none, [19]⟩,
 ⟨some 21, .mov, [.r 20], none, [20]⟩,
 ⟨some 22, .mov, [.r 0], (some (21, true)), []⟩,
 ⟨some 23, .nilck, [.r 22], (some (21, true)), [22]⟩,
 ⟨some 24, .fa 4, [.r 23], (some (21, true)), [23]⟩,
 ⟨some 25, .ld none, [.r 24], (some (21, true)), [24]⟩,
 ⟨some 26, .mov, [.r 5], (some (21, true)), [5]⟩,
 ⟨some 27, .ia 4, [.r 25, .r 26], (some (21, true)), [25, 26]⟩,
 ⟨some 28, .fa 3, [.r 27], (some (21, true)), [27]⟩,
 ⟨some 29, .ld none, [.r 28], (some (21, true)), [28]⟩,
 ⟨some 30, .un .not, [.r 29], (some (21, true)), [29]⟩,
 ⟨some 31, .pick, [.r 21, .r 30, .k (.bool false)], none, [21, 30]⟩]) <|
 .cond (.r 31)
 (.ops [⟨some 32, .mov, [.r 3], none, [3, 31]⟩,
 ⟨some 33, .mov, [.r 4], none, []⟩,
 ⟨some 34, .bslice 1 1 [.int .i64 0] [(0, 1)], [.r 33], none, [33]⟩,
 ⟨some 35, .app 1 8, [.r 32, .r 34], none, [32, 34]⟩,
 ⟨some 3, .mov, [.r 35], none, [35]⟩])
 (.skip))) <|
 .ops [⟨some 14, .mov, [.r 4], none, [4, 31]⟩,
 ⟨some 15, .bin .add, [.r 14, .k (.int .i64 1)], none, [14]⟩,
 ⟨some 4, .mov, [.r 15], none, [15]⟩]
def m46 : MFn := ⟨[.tmp 2], .seq (.ops [⟨some 2, .mov, [.k (.slice none 0 0)], none, [2]⟩]) <|
.seq (.ops [⟨some 3, .mov, [.k (.slice none 0 0)], none, []⟩]) <|
.seq (.seq (.ops [⟨some 4, .mov, [.k (.int .i64 0)], none, []⟩]) <|
.block 0 (.loop m46_0)) <|
.seq (.ops [⟨some 36, .mov, [.r 3], none, [0, 3, 4, 13]⟩,
 ⟨some 2, .mov, [.r 36], none, [36]⟩]) <|
.ret⟩
theorem c46 : cFn Try.prog 46 = some m46.bare := by kernel_rfl

/-- 'swingbridge/swingbridgeref7.Check' -/
def m47_0 : MCode := .seq (.seq (.ops [⟨some 29, .mov, [.r 4], none, []⟩,
 ⟨some 30, .fa 3, [.r 1], none, []⟩,
 ⟨some 31, .ld none, [.r 30], none, [30]⟩,
 ⟨some 32, .len, [.r 31], none, [31]⟩,
 ⟨some 33, .bin .lss, [.r 29, .r 32], none, [29, 32]⟩]) <|
 .cond (.r 33)
 (.skip)
 (.exit 1)) <|
 .seq (.block 2 (.seq (.ops [⟨some 36, .ld (some 4), [.r 1], none, [33]⟩,
 ⟨some 37, .mov, [.r 4], none, []⟩,
 ⟨some 38, .call 65, [.r 36, .r 37], none, [36, 37]⟩,
 ⟨some 5, .mov, [.r 38], none, [38]⟩]) <|
 .seq (.ops [⟨some 39, .mov, [.r 5], none, []⟩,
 ⟨some 40, .bin .neq, [.r 39, .k (.int .i64 0)], none, [39]⟩]) <|
 .cond (.r 40)
 (.seq (.ops [⟨some 41, .mov, [.r 4], none, [1, 4, 40]⟩,
 ⟨some 42, .mov, [.r 5], none, [5]⟩,
 ⟨some 2, .mov, [.r 41], none, [41]⟩,
 ⟨some 3, .mov, [.r 42], none, [42]⟩]) <|
 .ret)
 (.skip))) <|
 .ops [⟨some 34, .mov, [.r 4], none, [4, 5, 40]⟩,
 ⟨some 35, .bin .add, [.r 34, .k (.int .i64 1)], none, [34]⟩,
 ⟨some 4, .mov, [.r 35], none, [35]⟩]
def m47 : MFn := ⟨[.tmp 2, .tmp 3], .seq (.ops [⟨some 1, .box, [.r 0], none, [0]⟩,
 ⟨some 2, .mov, [.k (.int .i64 0)], none, [2]⟩,
 ⟨some 3, .mov, [.k (.int .i64 0)], none, [3]⟩]) <|
.seq (.block 0 (.seq (.ops [⟨some 7, .fa 0, [.r 1], none, []⟩,
 ⟨some 8, .ld none, [.r 7], none, [7]⟩,
 ⟨some 9, .bin .lss, [.r 8, .k (.int .i64 1)], none, [8]⟩,
 ⟨some 10, .mov, [.r 9], none, [9]⟩,
 ⟨some 11, .fa 0, [.r 1], (some (10, false)), []⟩,
 ⟨some 12, .ld none, [.r 11], (some (10, false)), [11]⟩,
 ⟨some 13, .bin .gtr, [.r 12, .k (.int .i64 3)], (some (10, false)), [12]⟩,
 ⟨some 14, .pick, [.r 10, .k (.bool true), .r 13], none, [10, 13]⟩,
 ⟨some 6, .mov, [.r 14], none, [14]⟩]) <|
 .cond (.r 6)
 (.seq (.ops [⟨some 2, .mov, [.k (.int .i64 (-1))], none, [1, 6]⟩,
 ⟨some 3, .mov, [.k (.int .i64 10)], none, []⟩]) <|
 .ret)
 (.seq (.ops [⟨some 16, .ld (some 4), [.r 1], none, [6]⟩,
 ⟨some 17, .call 64, [.r 16], none, [16]⟩,
 ⟨some 18, .un .not, [.r 17], none, [17]⟩,
 ⟨some 15, .mov, [.r 18], none, [18]⟩]) <|
 .cond (.r 15)
 (.seq (.ops [⟨some 2, .mov, [.k (.int .i64 (-1))], none, [1, 15]⟩,
 ⟨some 3, .mov, [.k (.int .i64 16)], none, []⟩]) <|
 .ret)
 (.seq (.ops [⟨some 20, .fa 3, [.r 1], none, [15]⟩,
 ⟨some 21, .ld none, [.r 20], none, [20]⟩,
 ⟨some 22, .len, [.r 21], none, [21]⟩,
 ⟨some 23, .bin .gtr, [.r 22, .k (.int .i64 6)], none, [22]⟩,
 ⟨some 19, .mov, [.r 23], none, [23]⟩]) <|
 .cond (.r 19)
 (.seq (.ops [⟨some 2, .mov, [.k (.int .i64 (-1))], none, [1, 19]⟩,
 ⟨some 3, .mov, [.k (.int .i64 11)], none, []⟩]) <|
 .ret)
 (.seq (.ops [⟨some 25, .fa 3, [.r 1], none, [19]⟩,
 ⟨some 26, .ld none, [.r 25], none, [25]⟩,
 ⟨some 27, .len, [.r 26], none, [26]⟩,
 ⟨some 28, .bin .eql, [.r 27, .k (.int .i64 0)], none, [27]⟩,
 ⟨some 24, .mov, [.r 28], none, [28]⟩]) <|
 .cond (.r 24)
 (.seq (.ops [⟨some 2, .mov, [.k (.int .i64 (-1))], none, [1, 24]⟩,
 ⟨some 3, .mov, [.k (.int .i64 14)], none, []⟩]) <|
 .ret)
 (.skip)))))) <|
.seq (.seq (.ops [⟨some 4, .mov, [.k (.int .i64 0)], none, [24]⟩]) <|
.block 1 (.loop m47_0)) <|
.seq (.ops [⟨some 2, .mov, [.k (.int .i64 (-1))], none, [1, 4, 33]⟩,
 ⟨some 3, .mov, [.k (.int .i64 0)], none, []⟩]) <|
.ret⟩
theorem c47 : cFn Try.prog 47 = some m47.bare := by kernel_rfl

/-- 'swingbridge/swingbridgelaw23.busy' -/
def m48_0 : MCode := .seq (.seq (.ops [⟨some 10, .mov, [.r 7], none, []⟩,
 ⟨some 11, .fa 2, [.r 3], none, []⟩,
 ⟨some 12, .ld none, [.r 11], none, [11]⟩,
 ⟨some 13, .len, [.r 12], none, [12]⟩,
 ⟨some 14, .bin .lss, [.r 10, .r 13], none, [10, 13]⟩]) <|
 .cond (.r 14)
 (.skip)
 (.exit 0)) <|
 .seq (.block 1 (.seq (.ops [⟨some 18, .mov, [.r 1], none, [14]⟩,
 ⟨some 19, .mov, [.r 7], none, []⟩,
 ⟨some 20, .call 24, [.r 18, .r 19], none, [18, 19]⟩,
 ⟨some 17, .mov, [.r 20], none, [20]⟩,
 ⟨some 21, .extract 0, [.r 17], none, []⟩,
 ⟨some 22, .extract 1, [.r 17], none, [17]⟩,
 ⟨some 8, .mov, [.r 21], none, [8, 21]⟩,
 ⟨some 9, .mov, [.r 22], none, [22]⟩]) <|
 .seq (.ops [⟨some 23, .mov, [.r 9], none, [9]⟩,
 ⟨some 24, .mov, [.r 23], none, [23]⟩,
 ⟨some 25, .fa 2, [.r 3], (some (24, true)), []⟩,
 ⟨some 26, .ld none, [.r 25], (some (24, true)), [25]⟩,
 ⟨some 27, .mov, [.r 7], (some (24, true)), []⟩,
 ⟨some 28, .ia 1, [.r 26, .r 27], (some (24, true)), [26, 27]⟩,
 ⟨some 29, .ld none, [.r 28], (some (24, true)), [28]⟩,
 ⟨some 30, .mov, [.r 2], (some (24, true)), []⟩,
 ⟨some 31, .bin .eql, [.r 29, .r 30], (some (24, true)), [29, 30]⟩,
 ⟨some 32, .pick, [.r 24, .r 31, .k (.bool false)], none, [24, 31]⟩]) <|
 .cond (.r 32)
 (.seq (.ops [⟨some 6, .mov, [.k (.bool true)], none, [1, 2, 3, 7, 32]⟩]) <|
 .ret)
 (.skip))) <|
 .ops [⟨some 15, .mov, [.r 7], none, [7, 32]⟩,
 ⟨some 16, .bin .add, [.r 15, .k (.int .i64 1)], none, [15]⟩,
 ⟨some 7, .mov, [.r 16], none, [16]⟩]
def m48 : MFn := ⟨[.tmp 6], .seq (.ops [⟨some 3, .box, [.r 0], none, [0]⟩,
 ⟨some 6, .mov, [.k (.bool false)], none, [6]⟩]) <|
.seq (.seq (.ops [⟨some 7, .mov, [.k (.int .i64 0)], none, []⟩]) <|
.block 0 (.loop m48_0)) <|
.seq (.ops [⟨some 6, .mov, [.k (.bool false)], none, [1, 2, 3, 7, 14]⟩]) <|
.ret⟩
theorem c48 : cFn Try.prog 48 = some m48.bare := by kernel_rfl

/-- '(*swingbridge/line.Line).All' -/
def m49 : MFn := ⟨[.tmp 2], .seq (.ops [⟨some 2, .mov, [.k (.slice none 0 0)], none, [2]⟩]) <|
.seq (.ops [⟨some 3, .mov, [.r 0], none, [0]⟩,
 ⟨some 4, .nilck, [.r 3], none, [3]⟩,
 ⟨some 5, .fa 0, [.r 4], none, [4]⟩,
 ⟨some 6, .ld none, [.r 5], none, [5]⟩,
 ⟨some 7, .call 55, [.r 6], none, [6]⟩,
 ⟨some 2, .mov, [.r 7], none, [7]⟩]) <|
.ret⟩
theorem c49 : cFn Try.prog 49 = some m49.bare := by kernel_rfl

/-- 'slices.Sort[[]int,int]' -/
def m50 : MFn := ⟨[], .seq (.ops [⟨some 3, .mov, [.r 0], none, []⟩,
 ⟨some 4, .len, [.r 3], none, [3]⟩,
 ⟨some 2, .mov, [.r 4], none, [4]⟩]) <|
.ops [⟨some 5, .mov, [.r 0], none, [0]⟩,
 ⟨some 6, .mov, [.r 2], none, []⟩,
 ⟨some 7, .mov, [.r 2], none, [2]⟩,
 ⟨some 8, .conv .u64, [.r 7], none, [7]⟩,
 ⟨some 9, .call 67, [.r 8], none, [8]⟩,
 ⟨some 10, .call 66, [.r 5, .k (.int .i64 0), .r 6, .r 9], none, [5, 6, 9, 10]⟩]⟩
theorem c50 : cFn Try.prog 50 = some m50.bare := by kernel_rfl

/-- 'swingbridge/swingbridgelaw23.one' -/
def m51 : MFn := ⟨[.cell 4 (some 4)], .seq (.ops [⟨some 4, .new 0 [.int .i64 0, .slice none 0 0, .slice none 0 0, .slice none 0 0], [], none, []⟩]) <|
.seq (.ops [⟨some 5, .mov, [.r 0], none, [0]⟩,
 ⟨some 6, .bslice 1 1 [.int .i64 0] [(0, 1)], [.k (.int .i64 1)], none, []⟩,
 ⟨some 7, .bslice 1 1 [.int .i64 0] [(0, 1)], [.k (.int .i64 0)], none, []⟩,
 ⟨some 8, .mov, [.r 1], none, [1]⟩,
 ⟨some 9, .build [.string ⟨#[]⟩, .int .i64 0, .int .i64 0, .int .i64 0, .int .i64 0, .slice none 0 0] [(0, 1), (1, 1), (2, 1), (3, 1), (5, 1)], [.k (.string ⟨#[97]⟩), .k (.int .i64 100), .k (.int .i64 100), .k (.int .i64 1), .r 8], none, [8]⟩,
 ⟨some 10, .bslice 6 1 [.string ⟨#[]⟩, .int .i64 0, .int .i64 0, .int .i64 0, .int .i64 0, .slice none 0 0] [(0, 6)], [.r 9], none, [9]⟩,
 ⟨some 11, .build [.int .i64 0, .slice none 0 0, .slice none 0 0, .slice none 0 0] [(0, 1), (1, 1), (2, 1), (3, 1)], [.r 5, .r 6, .r 7, .r 10], none, [5, 6, 7, 10]⟩,
 ⟨none, .st 4, [.r 4, .r 11], none, [11]⟩]) <|
.ret⟩
theorem c51 : cFn Try.prog 51 = some m51.bare := by kernel_rfl

/-- 'swingbridge/task.between' -/
def m52 : MFn := ⟨[.tmp 6], .seq (.ops [⟨some 6, .mov, [.k (.bool false)], none, [6]⟩]) <|
.seq (.ops [⟨some 7, .mov, [.r 0], none, []⟩,
 ⟨some 8, .mov, [.r 1], none, [1]⟩,
 ⟨some 9, .bin .geq, [.r 7, .r 8], none, [7, 8]⟩,
 ⟨some 10, .mov, [.r 9], none, [9]⟩,
 ⟨some 11, .mov, [.r 0], (some (10, true)), [0]⟩,
 ⟨some 12, .mov, [.r 2], (some (10, true)), [2]⟩,
 ⟨some 13, .bin .leq, [.r 11, .r 12], (some (10, true)), [11, 12]⟩,
 ⟨some 14, .pick, [.r 10, .r 13, .k (.bool false)], none, [10, 13]⟩,
 ⟨some 6, .mov, [.r 14], none, [14]⟩]) <|
.ret⟩
theorem c52 : cFn Try.prog 52 = some m52.bare := by kernel_rfl

/-- 'swingbridge/task.placed' -/
def m53 : MFn := ⟨[.tmp 2], .seq (.ops [⟨some 1, .box, [.r 0], none, [0]⟩,
 ⟨some 2, .mov, [.k (.bool false)], none, [2]⟩]) <|
.seq (.ops [⟨some 6, .fa 1, [.r 1], none, []⟩,
 ⟨some 7, .ld none, [.r 6], none, [6]⟩,
 ⟨some 8, .len, [.r 7], none, [7]⟩,
 ⟨some 9, .call 52, [.r 8, .k (.int .i64 1), .k (.int .i64 3)], none, [8]⟩,
 ⟨some 10, .mov, [.r 9], none, [9]⟩,
 ⟨some 11, .fa 2, [.r 1], (some (10, true)), []⟩,
 ⟨some 12, .ld none, [.r 11], (some (10, true)), [11]⟩,
 ⟨some 13, .len, [.r 12], (some (10, true)), [12]⟩,
 ⟨some 14, .bin .leq, [.r 13, .k (.int .i64 4)], (some (10, true)), [13]⟩,
 ⟨some 15, .pick, [.r 10, .r 14, .k (.bool false)], none, [10, 14]⟩,
 ⟨some 3, .mov, [.r 15], none, [15]⟩]) <|
.seq (.ops [⟨some 4, .mov, [.k (.func (.func 68) #[] #[])], none, []⟩]) <|
.seq (.ops [⟨some 16, .mkfunc 69, [.r 1], none, []⟩,
 ⟨some 5, .mov, [.r 16], none, [16]⟩]) <|
.seq (.ops [⟨some 17, .mov, [.r 3], none, [3]⟩,
 ⟨some 18, .mov, [.r 17], none, [17]⟩,
 ⟨some 19, .fa 1, [.r 1], (some (18, true)), []⟩,
 ⟨some 20, .ld none, [.r 19], (some (18, true)), [19]⟩,
 ⟨some 21, .mov, [.r 4], (some (18, true)), [4]⟩,
 ⟨some 22, .call 70, [.r 20, .r 21], (some (18, true)), [20, 21]⟩,
 ⟨some 23, .un .not, [.r 22], (some (18, true)), [22]⟩,
 ⟨some 24, .pick, [.r 18, .r 23, .k (.bool false)], none, [18, 23]⟩,
 ⟨some 25, .mov, [.r 24], none, [24]⟩,
 ⟨some 26, .fa 2, [.r 1], (some (25, true)), [1]⟩,
 ⟨some 27, .ld none, [.r 26], (some (25, true)), [26]⟩,
 ⟨some 28, .mov, [.r 5], (some (25, true)), [5]⟩,
 ⟨some 29, .call 70, [.r 27, .r 28], (some (25, true)), [27, 28]⟩,
 ⟨some 30, .un .not, [.r 29], (some (25, true)), [29]⟩,
 ⟨some 31, .pick, [.r 25, .r 30, .k (.bool false)], none, [25, 30]⟩,
 ⟨some 2, .mov, [.r 31], none, [31]⟩]) <|
.ret⟩
theorem c53 : cFn Try.prog 53 = some m53.bare := by kernel_rfl

/-- 'swingbridge/task.one' -/
def m54 : MFn := ⟨[.tmp 4], .seq (.ops [⟨some 2, .box, [.r 0], none, [0]⟩,
 ⟨some 4, .mov, [.k (.int .i64 0)], none, [4]⟩]) <|
.seq (.ops [⟨some 7, .fa 3, [.r 2], none, []⟩,
 ⟨some 8, .ld none, [.r 7], none, [7]⟩,
 ⟨some 9, .mov, [.r 1], none, []⟩,
 ⟨some 10, .ia 6, [.r 8, .r 9], none, [8, 9]⟩,
 ⟨some 11, .ld (some 6), [.r 10], none, [10]⟩,
 ⟨some 5, .new 0 [.string ⟨#[]⟩, .int .i64 0, .int .i64 0, .int .i64 0, .int .i64 0, .slice none 0 0], [], none, []⟩,
 ⟨none, .st 6, [.r 5, .r 11], none, [11]⟩]) <|
.seq (.ops [⟨some 12, .mkfunc 71, [.r 5], none, []⟩,
 ⟨some 6, .mov, [.r 12], none, [12]⟩]) <|
.seq (.block 0 (.seq (.ops [⟨some 14, .fa 0, [.r 5], none, []⟩,
 ⟨some 15, .ld none, [.r 14], none, [14]⟩,
 ⟨some 16, .call 72, [.r 15], none, [15]⟩,
 ⟨some 17, .un .not, [.r 16], none, [16]⟩,
 ⟨some 18, .mov, [.r 17], none, [17]⟩,
 ⟨some 19, .fa 1, [.r 5], (some (18, false)), []⟩,
 ⟨some 20, .ld none, [.r 19], (some (18, false)), [19]⟩,
 ⟨some 21, .call 52, [.r 20, .k (.int .i64 1), .k (.int .i64 3000)], (some (18, false)), [20]⟩,
 ⟨some 22, .un .not, [.r 21], (some (18, false)), [21]⟩,
 ⟨some 23, .pick, [.r 18, .k (.bool true), .r 22], none, [18, 22]⟩,
 ⟨some 24, .mov, [.r 23], none, [23]⟩,
 ⟨some 25, .fa 2, [.r 5], (some (24, false)), []⟩,
 ⟨some 26, .ld none, [.r 25], (some (24, false)), [25]⟩,
 ⟨some 27, .fa 1, [.r 5], (some (24, false)), []⟩,
 ⟨some 28, .ld none, [.r 27], (some (24, false)), [27]⟩,
 ⟨some 29, .call 52, [.r 26, .k (.int .i64 1), .r 28], (some (24, false)), [26, 28]⟩,
 ⟨some 30, .un .not, [.r 29], (some (24, false)), [29]⟩,
 ⟨some 31, .pick, [.r 24, .k (.bool true), .r 30], none, [24, 30]⟩,
 ⟨some 32, .mov, [.r 31], none, [31]⟩,
 ⟨some 33, .fa 3, [.r 5], (some (32, false)), []⟩,
 ⟨some 34, .ld none, [.r 33], (some (32, false)), [33]⟩,
 ⟨some 35, .call 52, [.r 34, .k (.int .i64 1), .k (.int .i64 1000)], (some (32, false)), [34]⟩,
 ⟨some 36, .un .not, [.r 35], (some (32, false)), [35]⟩,
 ⟨some 37, .pick, [.r 32, .k (.bool true), .r 36], none, [32, 36]⟩,
 ⟨some 13, .mov, [.r 37], none, [37]⟩]) <|
 .cond (.r 13)
 (.seq (.ops [⟨some 4, .mov, [.k (.int .i64 10)], none, [1, 2, 5, 6, 13]⟩]) <|
 .ret)
 (.seq (.ops [⟨some 39, .fa 4, [.r 5], none, [13]⟩,
 ⟨some 40, .ld none, [.r 39], none, [39]⟩,
 ⟨some 41, .fa 1, [.r 2], none, []⟩,
 ⟨some 42, .ld none, [.r 41], none, [41]⟩,
 ⟨some 43, .len, [.r 42], none, [42]⟩,
 ⟨some 44, .bin .sub, [.r 43, .k (.int .i64 1)], none, [43]⟩,
 ⟨some 45, .call 52, [.r 40, .k (.int .i64 0), .r 44], none, [40, 44]⟩,
 ⟨some 46, .un .not, [.r 45], none, [45]⟩,
 ⟨some 38, .mov, [.r 46], none, [46]⟩]) <|
 .cond (.r 38)
 (.seq (.ops [⟨some 4, .mov, [.k (.int .i64 16)], none, [1, 2, 5, 6, 38]⟩]) <|
 .ret)
 (.seq (.ops [⟨some 48, .fa 3, [.r 2], none, [38]⟩,
 ⟨some 49, .ld none, [.r 48], none, [48]⟩,
 ⟨some 50, .mov, [.r 1], none, [1]⟩,
 ⟨some 51, .sl 6 false true false, [.r 49, .r 50], none, [49, 50]⟩,
 ⟨some 52, .mov, [.r 6], none, [6]⟩,
 ⟨some 53, .call 73, [.r 51, .r 52], none, [51, 52]⟩,
 ⟨some 47, .mov, [.r 53], none, [53]⟩]) <|
 .cond (.r 47)
 (.seq (.ops [⟨some 4, .mov, [.k (.int .i64 17)], none, [2, 5, 47]⟩]) <|
 .ret)
 (.seq (.ops [⟨some 55, .ld (some 4), [.r 2], none, [2, 47]⟩,
 ⟨some 56, .fa 5, [.r 5], none, [5]⟩,
 ⟨some 57, .ld none, [.r 56], none, [56]⟩,
 ⟨some 58, .call 74, [.r 55, .r 57], none, [55, 57]⟩,
 ⟨some 59, .un .not, [.r 58], none, [58]⟩,
 ⟨some 54, .mov, [.r 59], none, [59]⟩]) <|
 .cond (.r 54)
 (.seq (.ops [⟨some 4, .mov, [.k (.int .i64 15)], none, [54]⟩]) <|
 .ret)
 (.skip)))))) <|
.seq (.ops [⟨some 4, .mov, [.k (.int .i64 0)], none, [54]⟩]) <|
.ret⟩
theorem c54 : cFn Try.prog 54 = some m54.bare := by kernel_rfl

/-- 'slices.Clone[[]int,int]' -/
def m55 : MFn := ⟨[.tmp 2], .seq (.ops [⟨some 2, .mov, [.k (.slice none 0 0)], none, [2]⟩]) <|
.seq (.seq (.ops [⟨some 3, .mov, [.r 0], none, []⟩,
 ⟨some 4, .eqv false .slice, [.r 3, .k (.slice none 0 0)], none, [3]⟩]) <|
.cond (.r 4)
 (.seq (.ops [⟨some 2, .mov, [.k (.slice none 0 0)], none, [0, 4]⟩]) <|
 .ret)
 (.skip)) <|
.seq (.ops [⟨some 5, .bslice 1 0 [.int .i64 0] [], [], none, [4]⟩,
 ⟨some 6, .mov, [.r 0], none, [0]⟩,
 ⟨some 7, .app 1 8, [.r 5, .r 6], none, [5, 6]⟩,
 ⟨some 2, .mov, [.r 7], none, [7]⟩]) <|
.ret⟩
theorem c55 : cFn Try.prog 55 = some m55.bare := by kernel_rfl

/-- 'slices.Clone[[]swingbridge/api.Task,swingbridge/api.Task]' -/
def m56 : MFn := ⟨[.tmp 2], .seq (.ops [⟨some 2, .mov, [.k (.slice none 0 0)], none, [2]⟩]) <|
.seq (.seq (.ops [⟨some 3, .mov, [.r 0], none, []⟩,
 ⟨some 4, .eqv false .slice, [.r 3, .k (.slice none 0 0)], none, [3]⟩]) <|
.cond (.r 4)
 (.seq (.ops [⟨some 2, .mov, [.k (.slice none 0 0)], none, [0, 4]⟩]) <|
 .ret)
 (.skip)) <|
.seq (.ops [⟨some 5, .bslice 6 0 [.string ⟨#[]⟩, .int .i64 0, .int .i64 0, .int .i64 0, .int .i64 0, .slice none 0 0] [], [], none, [4]⟩,
 ⟨some 6, .mov, [.r 0], none, [0]⟩,
 ⟨some 7, .app 6 72, [.r 5, .r 6], none, [5, 6]⟩,
 ⟨some 2, .mov, [.r 7], none, [7]⟩]) <|
.ret⟩
theorem c56 : cFn Try.prog 56 = some m56.bare := by kernel_rfl

/-- 'slices.Clone[[]swingbridge/api.Part,swingbridge/api.Part]' -/
def m57 : MFn := ⟨[.tmp 2], .seq (.ops [⟨some 2, .mov, [.k (.slice none 0 0)], none, [2]⟩]) <|
.seq (.seq (.ops [⟨some 3, .mov, [.r 0], none, []⟩,
 ⟨some 4, .eqv false .slice, [.r 3, .k (.slice none 0 0)], none, [3]⟩]) <|
.cond (.r 4)
 (.seq (.ops [⟨some 2, .mov, [.k (.slice none 0 0)], none, [0, 4]⟩]) <|
 .ret)
 (.skip)) <|
.seq (.ops [⟨some 5, .bslice 3 0 [.int .i64 0, .int .i64 0, .int .i64 0] [], [], none, [4]⟩,
 ⟨some 6, .mov, [.r 0], none, [0]⟩,
 ⟨some 7, .app 3 24, [.r 5, .r 6], none, [5, 6]⟩,
 ⟨some 2, .mov, [.r 7], none, [7]⟩]) <|
.ret⟩
theorem c57 : cFn Try.prog 57 = some m57.bare := by kernel_rfl

/-- 'swingbridge/rank.New' -/
def m58 : MFn := ⟨[.tmp 2], .seq (.ops [⟨some 2, .mov, [.k (.pointer none)], none, [2]⟩]) <|
.seq (.ops [⟨some 3, .mov, [.r 0], none, [0]⟩,
 ⟨some 4, .minmax true, [.r 3, .k (.int .i64 0)], none, [3]⟩,
 ⟨some 5, .minmax false, [.r 4, .k (.int .i64 64)], none, [4]⟩,
 ⟨some 6, .build [.slice none 0 0, .int .i64 0] [(1, 1)], [.r 5], none, [5]⟩,
 ⟨some 7, .box, [.r 6], none, [6]⟩,
 ⟨some 2, .mov, [.r 7], none, [7]⟩]) <|
.ret⟩
theorem c58 : cFn Try.prog 58 = some m58.bare := by kernel_rfl

/-- '(*swingbridge/rank.Rank).Put' -/
def m59_0 : MCode := .seq (.ops [⟨some 26, .bin .lss, [.r 25, .r 24], none, []⟩]) <|
 .seq (.cond (.r 26)
 (.skip)
 (.exit 0)) <|
 .seq (.block 1 (.seq (.ops [⟨some 27, .ia 2, [.r 23, .r 25], none, [26]⟩,
 ⟨some 28, .ld (some 2), [.r 27], none, [27]⟩,
 ⟨some 9, .new 0 [.int .i64 0, .int .i64 0], [], none, []⟩,
 ⟨none, .st 2, [.r 9, .r 28], none, [28]⟩]) <|
 .seq (.seq (.ops [⟨some 29, .fa 0, [.r 9], none, [9]⟩,
 ⟨some 30, .ld none, [.r 29], none, [29]⟩,
 ⟨some 31, .mov, [.r 1], none, []⟩,
 ⟨some 32, .bin .gtr, [.r 30, .r 31], none, [30, 31]⟩]) <|
 .cond (.r 32)
 (.exit 0)
 (.skip)) <|
 .ops [⟨some 33, .mov, [.r 7], none, [7, 32]⟩,
 ⟨some 34, .bin .add, [.r 33, .k (.int .i64 1)], none, [33]⟩,
 ⟨some 7, .mov, [.r 34], none, [34]⟩])) <|
 .ops [⟨some 35, .bin .add, [.r 25, .k (.int .i64 1)], none, [25]⟩,
 ⟨some 25, .mov, [.r 35], none, [35]⟩]
def m59 : MFn := ⟨[.tmp 6], .seq (.ops [⟨some 6, .mov, [.k (.int .i64 0)], none, [6]⟩]) <|
.seq (.seq (.draw [⟨some 10, .mov, [.r 0], none, []⟩,
 ⟨some 11, .nilck, [.r 10], none, [10]⟩,
 ⟨some 12, .fa 0, [.r 11], none, [11]⟩,
 ⟨some 13, .ld none, [.r 12], none, [12]⟩,
 ⟨some 14, .len, [.r 13], none, [13]⟩,
 ⟨some 15, .mov, [.r 0], none, []⟩,
 ⟨some 16, .nilck, [.r 15], none, [15]⟩,
 ⟨some 17, .fa 1, [.r 16], none, [16]⟩,
 ⟨some 18, .ld none, [.r 17], none, [17]⟩,
 ⟨some 19, .bin .geq, [.r 14, .r 18], none, [14, 18]⟩] []) <|
.cond (.r 19)
 (.seq (.ops [⟨some 6, .mov, [.k (.int .i64 12)], none, [0, 1, 2, 19]⟩]) <|
 .ret)
 (.skip)) <|
.seq (.ops [⟨some 7, .mov, [.k (.int .i64 0)], none, [19]⟩]) <|
.seq (.skip) <|
.seq (.seq (.ops [⟨some 20, .mov, [.r 0], none, []⟩,
 ⟨some 21, .nilck, [.r 20], none, [20]⟩,
 ⟨some 22, .fa 0, [.r 21], none, [21]⟩,
 ⟨some 23, .ld none, [.r 22], none, [22]⟩,
 ⟨some 24, .len, [.r 23], none, []⟩,
 ⟨some 25, .mov, [.k (.int .i64 0)], none, []⟩]) <|
.block 0 (.loop m59_0)) <|
.seq (.ops [⟨some 36, .mov, [.r 0], none, [23, 24, 25, 26, 32]⟩,
 ⟨some 37, .mov, [.r 0], none, [0]⟩,
 ⟨some 38, .nilck, [.r 37], none, [37]⟩,
 ⟨some 39, .fa 0, [.r 38], none, [38]⟩,
 ⟨some 40, .ld none, [.r 39], none, [39]⟩,
 ⟨some 41, .mov, [.r 7], none, [7]⟩,
 ⟨some 42, .mov, [.r 1], none, [1]⟩,
 ⟨some 43, .mov, [.r 2], none, [2]⟩,
 ⟨some 44, .build [.int .i64 0, .int .i64 0] [(0, 1), (1, 1)], [.r 42, .r 43], none, [42, 43]⟩,
 ⟨some 45, .bslice 2 1 [.int .i64 0, .int .i64 0] [(0, 2)], [.r 44], none, [44]⟩,
 ⟨some 46, .call 75, [.r 40, .r 41, .r 45], none, [40, 41, 45]⟩,
 ⟨some 47, .nilck, [.r 36], none, [36]⟩,
 ⟨some 48, .fa 0, [.r 47], none, [47]⟩,
 ⟨none, .st 1, [.r 48, .r 46], none, [46, 48]⟩]) <|
.seq (.ops [⟨some 6, .mov, [.k (.int .i64 0)], none, []⟩]) <|
.ret⟩
theorem c59 : cFn Try.prog 59 = some m59.bare := by kernel_rfl

/-- '(*swingbridge/rank.Rank).All' -/
def m60_0 : MCode := .seq (.ops [⟨some 12, .bin .lss, [.r 11, .r 10], none, []⟩]) <|
 .seq (.cond (.r 12)
 (.skip)
 (.exit 0)) <|
 .seq (.block 1 (.seq (.ops [⟨some 13, .ia 2, [.r 9, .r 11], none, [12]⟩,
 ⟨some 14, .ld (some 2), [.r 13], none, [13]⟩,
 ⟨some 5, .new 0 [.int .i64 0, .int .i64 0], [], none, []⟩,
 ⟨none, .st 2, [.r 5, .r 14], none, [14]⟩]) <|
 .ops [⟨some 15, .mov, [.r 3], none, [3]⟩,
 ⟨some 16, .fa 1, [.r 5], none, [5]⟩,
 ⟨some 17, .ld none, [.r 16], none, [16]⟩,
 ⟨some 18, .bslice 1 1 [.int .i64 0] [(0, 1)], [.r 17], none, [17]⟩,
 ⟨some 19, .app 1 8, [.r 15, .r 18], none, [15, 18]⟩,
 ⟨some 3, .mov, [.r 19], none, [19]⟩])) <|
 .ops [⟨some 20, .bin .add, [.r 11, .k (.int .i64 1)], none, [11]⟩,
 ⟨some 11, .mov, [.r 20], none, [20]⟩]
def m60 : MFn := ⟨[.tmp 2], .seq (.ops [⟨some 2, .mov, [.k (.slice none 0 0)], none, [2]⟩]) <|
.seq (.ops [⟨some 3, .mov, [.k (.slice none 0 0)], none, []⟩]) <|
.seq (.seq (.ops [⟨some 6, .mov, [.r 0], none, [0]⟩,
 ⟨some 7, .nilck, [.r 6], none, [6]⟩,
 ⟨some 8, .fa 0, [.r 7], none, [7]⟩,
 ⟨some 9, .ld none, [.r 8], none, [8]⟩,
 ⟨some 10, .len, [.r 9], none, []⟩,
 ⟨some 11, .mov, [.k (.int .i64 0)], none, []⟩]) <|
.block 0 (.loop m60_0)) <|
.seq (.ops [⟨some 21, .mov, [.r 3], none, [3, 9, 10, 11, 12]⟩,
 ⟨some 2, .mov, [.r 21], none, [21]⟩]) <|
.ret⟩
theorem c60 : cFn Try.prog 60 = some m60.bare := by kernel_rfl

/-- '(*swingbridge/swingbridgeref23.Locks).held' -/
def m61_0 : MCode := .seq (.seq (.ops [⟨some 6, .mov, [.r 5], none, []⟩,
 ⟨some 7, .mov, [.r 0], none, []⟩,
 ⟨some 8, .nilck, [.r 7], none, [7]⟩,
 ⟨some 9, .fa 4, [.r 8], none, [8]⟩,
 ⟨some 10, .ld none, [.r 9], none, [9]⟩,
 ⟨some 11, .len, [.r 10], none, [10]⟩,
 ⟨some 12, .bin .lss, [.r 6, .r 11], none, [6, 11]⟩]) <|
 .cond (.r 12)
 (.skip)
 (.exit 0)) <|
 .seq (.block 1 (.seq (.draw [⟨some 15, .mov, [.r 0], none, [12]⟩,
 ⟨some 16, .nilck, [.r 15], none, [15]⟩,
 ⟨some 17, .fa 4, [.r 16], none, [16]⟩,
 ⟨some 18, .ld none, [.r 17], none, [17]⟩,
 ⟨some 19, .mov, [.r 5], none, []⟩,
 ⟨some 20, .ia 4, [.r 18, .r 19], none, [18, 19]⟩,
 ⟨some 21, .fa 3, [.r 20], none, [20]⟩,
 ⟨some 22, .ld none, [.r 21], none, [21]⟩,
 ⟨some 23, .mov, [.r 22], none, [22]⟩,
 ⟨some 24, .mov, [.r 0], (some (23, true)), []⟩,
 ⟨some 25, .nilck, [.r 24], (some (23, true)), [24]⟩,
 ⟨some 26, .fa 4, [.r 25], (some (23, true)), [25]⟩,
 ⟨some 27, .ld none, [.r 26], (some (23, true)), [26]⟩,
 ⟨some 28, .mov, [.r 5], (some (23, true)), []⟩,
 ⟨some 29, .ia 4, [.r 27, .r 28], (some (23, true)), [27, 28]⟩,
 ⟨some 30, .fa 1, [.r 29], (some (23, true)), [29]⟩,
 ⟨some 31, .ld none, [.r 30], (some (23, true)), [30]⟩,
 ⟨some 32, .mov, [.r 1], (some (23, true)), []⟩,
 ⟨some 33, .bin .eql, [.r 31, .r 32], (some (23, true)), [31, 32]⟩,
 ⟨some 34, .mov, [.r 33], (some (23, true)), [33]⟩,
 ⟨some 35, .mov, [.r 0], (some (34, false)), []⟩,
 ⟨some 36, .nilck, [.r 35], (some (34, false)), [35]⟩,
 ⟨some 37, .fa 0, [.r 36], (some (34, false)), [36]⟩,
 ⟨some 38, .fa 0, [.r 37], (some (34, false)), [37]⟩,
 ⟨some 39, .ld none, [.r 38], (some (34, false)), [38]⟩,
 ⟨some 40, .bin .eql, [.r 39, .k (.int .i64 2)], (some (34, false)), [39]⟩,
 ⟨some 41, .mov, [.r 40], (some (34, false)), [40]⟩,
 ⟨some 42, .mov, [.r 0], (some (41, true)), []⟩,
 ⟨some 43, .nilck, [.r 42], (some (41, true)), [42]⟩,
 ⟨some 44, .fa 0, [.r 43], (some (41, true)), [43]⟩,
 ⟨some 45, .fa 2, [.r 44], (some (41, true)), [44]⟩,
 ⟨some 46, .ld none, [.r 45], (some (41, true)), [45]⟩,
 ⟨some 47, .mov, [.r 0], (some (41, true)), []⟩,
 ⟨some 48, .nilck, [.r 47], (some (41, true)), [47]⟩,
 ⟨some 49, .fa 4, [.r 48], (some (41, true)), [48]⟩,
 ⟨some 50, .ld none, [.r 49], (some (41, true)), [49]⟩,
 ⟨some 51, .mov, [.r 5], (some (41, true)), []⟩,
 ⟨some 52, .ia 4, [.r 50, .r 51], (some (41, true)), [50, 51]⟩,
 ⟨some 53, .fa 1, [.r 52], (some (41, true)), [52]⟩,
 ⟨some 54, .ld none, [.r 53], (some (41, true)), [53]⟩,
 ⟨some 55, .ia 1, [.r 46, .r 54], (some (41, true)), [46, 54]⟩,
 ⟨some 56, .ld none, [.r 55], (some (41, true)), [55]⟩,
 ⟨some 57, .mov, [.r 0], (some (41, true)), []⟩,
 ⟨some 58, .nilck, [.r 57], (some (41, true)), [57]⟩,
 ⟨some 59, .fa 0, [.r 58], (some (41, true)), [58]⟩,
 ⟨some 60, .fa 2, [.r 59], (some (41, true)), [59]⟩,
 ⟨some 61, .ld none, [.r 60], (some (41, true)), [60]⟩,
 ⟨some 62, .mov, [.r 1], (some (41, true)), []⟩,
 ⟨some 63, .ia 1, [.r 61, .r 62], (some (41, true)), [61, 62]⟩,
 ⟨some 64, .ld none, [.r 63], (some (41, true)), [63]⟩,
 ⟨some 65, .bin .eql, [.r 56, .r 64], (some (41, true)), [56, 64]⟩,
 ⟨some 66, .pick, [.r 41, .r 65, .k (.bool false)], (some (34, false)), [41, 65]⟩,
 ⟨some 67, .pick, [.r 34, .k (.bool true), .r 66], (some (23, true)), [34, 66]⟩,
 ⟨some 68, .pick, [.r 23, .r 67, .k (.bool false)], none, [23, 67]⟩] []) <|
 .cond (.r 68)
 (.seq (.ops [⟨some 4, .mov, [.k (.bool true)], none, [0, 1, 5, 68]⟩]) <|
 .ret)
 (.skip))) <|
 .ops [⟨some 13, .mov, [.r 5], none, [5, 68]⟩,
 ⟨some 14, .bin .add, [.r 13, .k (.int .i64 1)], none, [13]⟩,
 ⟨some 5, .mov, [.r 14], none, [14]⟩]
def m61 : MFn := ⟨[.tmp 4], .seq (.ops [⟨some 4, .mov, [.k (.bool false)], none, [4]⟩]) <|
.seq (.seq (.ops [⟨some 5, .mov, [.k (.int .i64 0)], none, []⟩]) <|
.block 0 (.loop m61_0)) <|
.seq (.ops [⟨some 4, .mov, [.k (.bool false)], none, [0, 1, 5, 12]⟩]) <|
.ret⟩
theorem c61 : cFn Try.prog 61 = some m61.bare := by kernel_rfl

/-- '(*swingbridge/swingbridgeref23.Locks).key' -/
def m62 : MFn := ⟨[.tmp 4], .seq (.ops [⟨some 3, .box, [.r 1], none, [1]⟩,
 ⟨some 4, .mov, [.k (.int .i64 0)], none, [4]⟩]) <|
.seq (.seq (.ops [⟨some 5, .mov, [.r 0], none, []⟩,
 ⟨some 6, .nilck, [.r 5], none, [5]⟩,
 ⟨some 7, .fa 0, [.r 6], none, [6]⟩,
 ⟨some 8, .fa 0, [.r 7], none, [7]⟩,
 ⟨some 9, .ld none, [.r 8], none, [8]⟩,
 ⟨some 10, .bin .eql, [.r 9, .k (.int .i64 2)], none, [9]⟩]) <|
.cond (.r 10)
 (.seq (.draw [⟨some 11, .mov, [.r 0], none, [0, 10]⟩,
 ⟨some 12, .nilck, [.r 11], none, [11]⟩,
 ⟨some 13, .fa 0, [.r 12], none, [12]⟩,
 ⟨some 14, .fa 3, [.r 13], none, [13]⟩,
 ⟨some 15, .ld none, [.r 14], none, [14]⟩,
 ⟨some 16, .fa 0, [.r 3], none, [3]⟩,
 ⟨some 17, .ld none, [.r 16], none, [16]⟩,
 ⟨some 18, .ia 6, [.r 15, .r 17], none, [15, 17]⟩,
 ⟨some 19, .fa 3, [.r 18], none, [18]⟩,
 ⟨some 20, .ld none, [.r 19], none, [19]⟩,
 ⟨some 4, .mov, [.r 20], none, [20]⟩] []) <|
 .ret)
 (.skip)) <|
.seq (.ops [⟨some 21, .fa 2, [.r 3], none, [0, 3, 10]⟩,
 ⟨some 22, .ld none, [.r 21], none, [21]⟩,
 ⟨some 4, .mov, [.r 22], none, [22]⟩]) <|
.ret⟩
theorem c62 : cFn Try.prog 62 = some m62.bare := by kernel_rfl

/-- 'slices.Delete[[]int,int]' -/
def m63 : MFn := ⟨[.tmp 6], .seq (.ops [⟨some 6, .mov, [.k (.slice none 0 0)], none, [6]⟩]) <|
.seq (.ops [⟨some 8, .mov, [.r 0], none, []⟩,
 ⟨some 9, .mov, [.r 1], none, []⟩,
 ⟨some 10, .mov, [.r 2], none, []⟩,
 ⟨some 11, .mov, [.r 0], none, []⟩,
 ⟨some 12, .len, [.r 11], none, [11]⟩,
 ⟨some 13, .sl 1 true true true, [.r 8, .r 9, .r 10, .r 12], none, [8, 9, 10, 12, 13]⟩]) <|
.seq (.seq (.ops [⟨some 14, .mov, [.r 1], none, []⟩,
 ⟨some 15, .mov, [.r 2], none, []⟩,
 ⟨some 16, .bin .eql, [.r 14, .r 15], none, [14, 15]⟩]) <|
.cond (.r 16)
 (.seq (.ops [⟨some 17, .mov, [.r 0], none, [0, 1, 2, 16]⟩,
 ⟨some 6, .mov, [.r 17], none, [17]⟩]) <|
 .ret)
 (.skip)) <|
.seq (.ops [⟨some 18, .mov, [.r 0], none, [16]⟩,
 ⟨some 19, .len, [.r 18], none, [18]⟩,
 ⟨some 7, .mov, [.r 19], none, [19]⟩]) <|
.seq (.draw [⟨some 20, .mov, [.r 0], none, []⟩,
 ⟨some 21, .mov, [.r 1], none, [1]⟩,
 ⟨some 22, .sl 1 false true false, [.r 20, .r 21], none, [20, 21]⟩,
 ⟨some 23, .mov, [.r 0], none, [0]⟩,
 ⟨some 24, .mov, [.r 2], none, [2]⟩,
 ⟨some 25, .sl 1 true false false, [.r 23, .r 24], none, [23, 24]⟩,
 ⟨some 26, .app 1 8, [.r 22, .r 25], none, [22, 25]⟩,
 ⟨some 0, .mov, [.r 26], none, [26]⟩] []) <|
.seq (.ops [⟨some 27, .mov, [.r 0], none, []⟩,
 ⟨some 28, .mov, [.r 0], none, []⟩,
 ⟨some 29, .len, [.r 28], none, [28]⟩,
 ⟨some 30, .mov, [.r 7], none, [7]⟩,
 ⟨some 31, .sl 1 true true false, [.r 27, .r 29, .r 30], none, [27, 29, 30]⟩,
 ⟨none, .clear 1 [.int .i64 0], [.r 31], none, [31]⟩]) <|
.seq (.ops [⟨some 32, .mov, [.r 0], none, [0]⟩,
 ⟨some 6, .mov, [.r 32], none, [32]⟩]) <|
.ret⟩
theorem c63 : cFn Try.prog 63 = some m63.bare := by kernel_rfl

/-- 'swingbridge/swingbridgeref7.places' -/
def m64_0 : MCode := .seq (.seq (.ops [⟨some 42, .mov, [.r 4], none, []⟩,
 ⟨some 43, .fa 2, [.r 1], none, []⟩,
 ⟨some 44, .ld none, [.r 43], none, [43]⟩,
 ⟨some 45, .len, [.r 44], none, [44]⟩,
 ⟨some 46, .bin .lss, [.r 42, .r 45], none, [42, 45]⟩]) <|
 .cond (.r 46)
 (.skip)
 (.exit 2)) <|
 .seq (.block 3 (.seq (.draw [⟨some 49, .fa 2, [.r 1], none, [46]⟩,
 ⟨some 50, .ld none, [.r 49], none, [49]⟩,
 ⟨some 51, .mov, [.r 4], none, []⟩,
 ⟨some 52, .ia 1, [.r 50, .r 51], none, [50, 51]⟩,
 ⟨some 53, .ld none, [.r 52], none, [52]⟩,
 ⟨some 54, .bin .lss, [.r 53, .k (.int .i64 0)], none, [53]⟩,
 ⟨some 55, .mov, [.r 54], none, [54]⟩,
 ⟨some 56, .fa 2, [.r 1], (some (55, false)), []⟩,
 ⟨some 57, .ld none, [.r 56], (some (55, false)), [56]⟩,
 ⟨some 58, .mov, [.r 4], (some (55, false)), []⟩,
 ⟨some 59, .ia 1, [.r 57, .r 58], (some (55, false)), [57, 58]⟩,
 ⟨some 60, .ld none, [.r 59], (some (55, false)), [59]⟩,
 ⟨some 61, .fa 1, [.r 1], (some (55, false)), []⟩,
 ⟨some 62, .ld none, [.r 61], (some (55, false)), [61]⟩,
 ⟨some 63, .len, [.r 62], (some (55, false)), [62]⟩,
 ⟨some 64, .bin .geq, [.r 60, .r 63], (some (55, false)), [60, 63]⟩,
 ⟨some 65, .pick, [.r 55, .k (.bool true), .r 64], none, [55, 64]⟩] []) <|
 .cond (.r 65)
 (.seq (.ops [⟨some 2, .mov, [.k (.bool false)], none, [1, 4, 65]⟩]) <|
 .ret)
 (.skip))) <|
 .ops [⟨some 47, .mov, [.r 4], none, [4, 65]⟩,
 ⟨some 48, .bin .add, [.r 47, .k (.int .i64 1)], none, [47]⟩,
 ⟨some 4, .mov, [.r 48], none, [48]⟩]
def m64_1 : MCode := .seq (.seq (.ops [⟨some 21, .mov, [.r 3], none, []⟩,
 ⟨some 22, .fa 1, [.r 1], none, []⟩,
 ⟨some 23, .ld none, [.r 22], none, [22]⟩,
 ⟨some 24, .len, [.r 23], none, [23]⟩,
 ⟨some 25, .bin .lss, [.r 21, .r 24], none, [21, 24]⟩]) <|
 .cond (.r 25)
 (.skip)
 (.exit 0)) <|
 .seq (.block 1 (.seq (.ops [⟨some 28, .fa 1, [.r 1], none, [25]⟩,
 ⟨some 29, .ld none, [.r 28], none, [28]⟩,
 ⟨some 30, .mov, [.r 3], none, []⟩,
 ⟨some 31, .ia 1, [.r 29, .r 30], none, [29, 30]⟩,
 ⟨some 32, .ld none, [.r 31], none, [31]⟩,
 ⟨some 33, .bin .lss, [.r 32, .k (.int .i64 1)], none, [32]⟩,
 ⟨some 34, .mov, [.r 33], none, [33]⟩,
 ⟨some 35, .fa 1, [.r 1], (some (34, false)), []⟩,
 ⟨some 36, .ld none, [.r 35], (some (34, false)), [35]⟩,
 ⟨some 37, .mov, [.r 3], (some (34, false)), []⟩,
 ⟨some 38, .ia 1, [.r 36, .r 37], (some (34, false)), [36, 37]⟩,
 ⟨some 39, .ld none, [.r 38], (some (34, false)), [38]⟩,
 ⟨some 40, .bin .gtr, [.r 39, .k (.int .i64 3)], (some (34, false)), [39]⟩,
 ⟨some 41, .pick, [.r 34, .k (.bool true), .r 40], none, [34, 40]⟩]) <|
 .cond (.r 41)
 (.seq (.ops [⟨some 2, .mov, [.k (.bool false)], none, [1, 3, 41]⟩]) <|
 .ret)
 (.skip))) <|
 .ops [⟨some 26, .mov, [.r 3], none, [3, 41]⟩,
 ⟨some 27, .bin .add, [.r 26, .k (.int .i64 1)], none, [26]⟩,
 ⟨some 3, .mov, [.r 27], none, [27]⟩]
def m64 : MFn := ⟨[.tmp 2], .seq (.ops [⟨some 1, .box, [.r 0], none, [0]⟩,
 ⟨some 2, .mov, [.k (.bool false)], none, [2]⟩]) <|
.seq (.seq (.ops [⟨some 5, .fa 1, [.r 1], none, []⟩,
 ⟨some 6, .ld none, [.r 5], none, [5]⟩,
 ⟨some 7, .len, [.r 6], none, [6]⟩,
 ⟨some 8, .bin .lss, [.r 7, .k (.int .i64 1)], none, [7]⟩,
 ⟨some 9, .mov, [.r 8], none, [8]⟩,
 ⟨some 10, .fa 1, [.r 1], (some (9, false)), []⟩,
 ⟨some 11, .ld none, [.r 10], (some (9, false)), [10]⟩,
 ⟨some 12, .len, [.r 11], (some (9, false)), [11]⟩,
 ⟨some 13, .bin .gtr, [.r 12, .k (.int .i64 3)], (some (9, false)), [12]⟩,
 ⟨some 14, .pick, [.r 9, .k (.bool true), .r 13], none, [9, 13]⟩,
 ⟨some 15, .mov, [.r 14], none, [14]⟩,
 ⟨some 16, .fa 2, [.r 1], (some (15, false)), []⟩,
 ⟨some 17, .ld none, [.r 16], (some (15, false)), [16]⟩,
 ⟨some 18, .len, [.r 17], (some (15, false)), [17]⟩,
 ⟨some 19, .bin .gtr, [.r 18, .k (.int .i64 4)], (some (15, false)), [18]⟩,
 ⟨some 20, .pick, [.r 15, .k (.bool true), .r 19], none, [15, 19]⟩]) <|
.cond (.r 20)
 (.seq (.ops [⟨some 2, .mov, [.k (.bool false)], none, [1, 20]⟩]) <|
 .ret)
 (.skip)) <|
.seq (.seq (.ops [⟨some 3, .mov, [.k (.int .i64 0)], none, [20]⟩]) <|
.block 0 (.loop m64_1)) <|
.seq (.seq (.ops [⟨some 4, .mov, [.k (.int .i64 0)], none, [3, 25]⟩]) <|
.block 2 (.loop m64_0)) <|
.seq (.ops [⟨some 2, .mov, [.k (.bool true)], none, [1, 4, 46]⟩]) <|
.ret⟩
theorem c64 : cFn Try.prog 64 = some m64.bare := by kernel_rfl

/-- 'swingbridge/swingbridgeref7.task' -/
def m65_0 : MCode := .seq (.seq (.ops [⟨some 95, .mov, [.r 7], none, []⟩,
 ⟨some 96, .fa 5, [.r 5], none, []⟩,
 ⟨some 97, .ld none, [.r 96], none, [96]⟩,
 ⟨some 98, .len, [.r 97], none, [97]⟩,
 ⟨some 99, .bin .lss, [.r 95, .r 98], none, [95, 98]⟩]) <|
 .cond (.r 99)
 (.skip)
 (.exit 2)) <|
 .seq (.block 3 (.seq (.draw [⟨some 102, .ld (some 4), [.r 2], none, [99]⟩,
 ⟨some 103, .fa 5, [.r 5], none, []⟩,
 ⟨some 104, .ld none, [.r 103], none, [103]⟩,
 ⟨some 105, .mov, [.r 7], none, []⟩,
 ⟨some 106, .ia 3, [.r 104, .r 105], none, [104, 105]⟩,
 ⟨some 107, .ld (some 3), [.r 106], none, [106]⟩,
 ⟨some 108, .call 77, [.r 102, .r 107], none, [102, 107]⟩,
 ⟨some 109, .un .not, [.r 108], none, [108]⟩] []) <|
 .cond (.r 109)
 (.seq (.ops [⟨some 4, .mov, [.k (.int .i64 15)], none, [2, 5, 7, 109]⟩]) <|
 .ret)
 (.skip))) <|
 .ops [⟨some 100, .mov, [.r 7], none, [7, 109]⟩,
 ⟨some 101, .bin .add, [.r 100, .k (.int .i64 1)], none, [100]⟩,
 ⟨some 7, .mov, [.r 101], none, [101]⟩]
def m65_1 : MCode := .seq (.seq (.ops [⟨some 60, .mov, [.r 6], none, []⟩,
 ⟨some 61, .mov, [.r 1], none, []⟩,
 ⟨some 62, .bin .lss, [.r 60, .r 61], none, [60, 61]⟩]) <|
 .cond (.r 62)
 (.skip)
 (.exit 0)) <|
 .seq (.block 1 (.seq (.draw [⟨some 65, .fa 3, [.r 2], none, [62]⟩,
 ⟨some 66, .ld none, [.r 65], none, [65]⟩,
 ⟨some 67, .mov, [.r 6], none, []⟩,
 ⟨some 68, .ia 6, [.r 66, .r 67], none, [66, 67]⟩,
 ⟨some 69, .fa 0, [.r 68], none, [68]⟩,
 ⟨some 70, .ld none, [.r 69], none, [69]⟩,
 ⟨some 71, .fa 0, [.r 5], none, []⟩,
 ⟨some 72, .ld none, [.r 71], none, [71]⟩,
 ⟨some 73, .bin .eql, [.r 70, .r 72], none, [70, 72]⟩,
 ⟨some 74, .mov, [.r 73], none, [73]⟩,
 ⟨some 75, .fa 3, [.r 2], (some (74, false)), []⟩,
 ⟨some 76, .ld none, [.r 75], (some (74, false)), [75]⟩,
 ⟨some 77, .mov, [.r 6], (some (74, false)), []⟩,
 ⟨some 78, .ia 6, [.r 76, .r 77], (some (74, false)), [76, 77]⟩,
 ⟨some 79, .fa 3, [.r 78], (some (74, false)), [78]⟩,
 ⟨some 80, .ld none, [.r 79], (some (74, false)), [79]⟩,
 ⟨some 81, .fa 3, [.r 5], (some (74, false)), []⟩,
 ⟨some 82, .ld none, [.r 81], (some (74, false)), [81]⟩,
 ⟨some 83, .bin .eql, [.r 80, .r 82], (some (74, false)), [80, 82]⟩,
 ⟨some 84, .pick, [.r 74, .k (.bool true), .r 83], none, [74, 83]⟩] []) <|
 .cond (.r 84)
 (.seq (.ops [⟨some 4, .mov, [.k (.int .i64 17)], none, [1, 2, 5, 6, 84]⟩]) <|
 .ret)
 (.skip))) <|
 .ops [⟨some 63, .mov, [.r 6], none, [6, 84]⟩,
 ⟨some 64, .bin .add, [.r 63, .k (.int .i64 1)], none, [63]⟩,
 ⟨some 6, .mov, [.r 64], none, [64]⟩]
def m65 : MFn := ⟨[.tmp 4], .seq (.ops [⟨some 2, .box, [.r 0], none, [0]⟩,
 ⟨some 4, .mov, [.k (.int .i64 0)], none, [4]⟩]) <|
.seq (.ops [⟨some 8, .fa 3, [.r 2], none, []⟩,
 ⟨some 9, .ld none, [.r 8], none, [8]⟩,
 ⟨some 10, .mov, [.r 1], none, []⟩,
 ⟨some 11, .ia 6, [.r 9, .r 10], none, [9, 10]⟩,
 ⟨some 12, .ld (some 6), [.r 11], none, [11]⟩,
 ⟨some 5, .new 0 [.string ⟨#[]⟩, .int .i64 0, .int .i64 0, .int .i64 0, .int .i64 0, .slice none 0 0], [], none, []⟩,
 ⟨none, .st 6, [.r 5, .r 12], none, [12]⟩]) <|
.seq (.seq (.ops [⟨some 13, .fa 0, [.r 5], none, []⟩,
 ⟨some 14, .ld none, [.r 13], none, [13]⟩,
 ⟨some 15, .call 76, [.r 14], none, [14]⟩,
 ⟨some 16, .un .not, [.r 15], none, [15]⟩,
 ⟨some 17, .mov, [.r 16], none, [16]⟩,
 ⟨some 18, .fa 1, [.r 5], (some (17, false)), []⟩,
 ⟨some 19, .ld none, [.r 18], (some (17, false)), [18]⟩,
 ⟨some 20, .bin .lss, [.r 19, .k (.int .i64 1)], (some (17, false)), [19]⟩,
 ⟨some 21, .pick, [.r 17, .k (.bool true), .r 20], none, [17, 20]⟩,
 ⟨some 22, .mov, [.r 21], none, [21]⟩,
 ⟨some 23, .fa 1, [.r 5], (some (22, false)), []⟩,
 ⟨some 24, .ld none, [.r 23], (some (22, false)), [23]⟩,
 ⟨some 25, .bin .gtr, [.r 24, .k (.int .i64 3000)], (some (22, false)), [24]⟩,
 ⟨some 26, .pick, [.r 22, .k (.bool true), .r 25], none, [22, 25]⟩,
 ⟨some 27, .mov, [.r 26], none, [26]⟩,
 ⟨some 28, .fa 2, [.r 5], (some (27, false)), []⟩,
 ⟨some 29, .ld none, [.r 28], (some (27, false)), [28]⟩,
 ⟨some 30, .bin .lss, [.r 29, .k (.int .i64 1)], (some (27, false)), [29]⟩,
 ⟨some 31, .pick, [.r 27, .k (.bool true), .r 30], none, [27, 30]⟩,
 ⟨some 32, .mov, [.r 31], none, [31]⟩,
 ⟨some 33, .fa 2, [.r 5], (some (32, false)), []⟩,
 ⟨some 34, .ld none, [.r 33], (some (32, false)), [33]⟩,
 ⟨some 35, .fa 1, [.r 5], (some (32, false)), []⟩,
 ⟨some 36, .ld none, [.r 35], (some (32, false)), [35]⟩,
 ⟨some 37, .bin .gtr, [.r 34, .r 36], (some (32, false)), [34, 36]⟩,
 ⟨some 38, .pick, [.r 32, .k (.bool true), .r 37], none, [32, 37]⟩,
 ⟨some 39, .mov, [.r 38], none, [38]⟩,
 ⟨some 40, .fa 3, [.r 5], (some (39, false)), []⟩,
 ⟨some 41, .ld none, [.r 40], (some (39, false)), [40]⟩,
 ⟨some 42, .bin .lss, [.r 41, .k (.int .i64 1)], (some (39, false)), [41]⟩,
 ⟨some 43, .pick, [.r 39, .k (.bool true), .r 42], none, [39, 42]⟩,
 ⟨some 44, .mov, [.r 43], none, [43]⟩,
 ⟨some 45, .fa 3, [.r 5], (some (44, false)), []⟩,
 ⟨some 46, .ld none, [.r 45], (some (44, false)), [45]⟩,
 ⟨some 47, .bin .gtr, [.r 46, .k (.int .i64 1000)], (some (44, false)), [46]⟩,
 ⟨some 48, .pick, [.r 44, .k (.bool true), .r 47], none, [44, 47]⟩]) <|
.cond (.r 48)
 (.seq (.ops [⟨some 4, .mov, [.k (.int .i64 10)], none, [1, 2, 5, 48]⟩]) <|
 .ret)
 (.skip)) <|
.seq (.seq (.ops [⟨some 49, .fa 4, [.r 5], none, [48]⟩,
 ⟨some 50, .ld none, [.r 49], none, [49]⟩,
 ⟨some 51, .bin .lss, [.r 50, .k (.int .i64 0)], none, [50]⟩,
 ⟨some 52, .mov, [.r 51], none, [51]⟩,
 ⟨some 53, .fa 4, [.r 5], (some (52, false)), []⟩,
 ⟨some 54, .ld none, [.r 53], (some (52, false)), [53]⟩,
 ⟨some 55, .fa 1, [.r 2], (some (52, false)), []⟩,
 ⟨some 56, .ld none, [.r 55], (some (52, false)), [55]⟩,
 ⟨some 57, .len, [.r 56], (some (52, false)), [56]⟩,
 ⟨some 58, .bin .geq, [.r 54, .r 57], (some (52, false)), [54, 57]⟩,
 ⟨some 59, .pick, [.r 52, .k (.bool true), .r 58], none, [52, 58]⟩]) <|
.cond (.r 59)
 (.seq (.ops [⟨some 4, .mov, [.k (.int .i64 16)], none, [1, 2, 5, 59]⟩]) <|
 .ret)
 (.skip)) <|
.seq (.seq (.ops [⟨some 6, .mov, [.k (.int .i64 0)], none, [59]⟩]) <|
.block 0 (.loop m65_1)) <|
.seq (.seq (.ops [⟨some 85, .fa 5, [.r 5], none, [1, 6, 62]⟩,
 ⟨some 86, .ld none, [.r 85], none, [85]⟩,
 ⟨some 87, .len, [.r 86], none, [86]⟩,
 ⟨some 88, .bin .lss, [.r 87, .k (.int .i64 1)], none, [87]⟩,
 ⟨some 89, .mov, [.r 88], none, [88]⟩,
 ⟨some 90, .fa 5, [.r 5], (some (89, false)), []⟩,
 ⟨some 91, .ld none, [.r 90], (some (89, false)), [90]⟩,
 ⟨some 92, .len, [.r 91], (some (89, false)), [91]⟩,
 ⟨some 93, .bin .gtr, [.r 92, .k (.int .i64 6)], (some (89, false)), [92]⟩,
 ⟨some 94, .pick, [.r 89, .k (.bool true), .r 93], none, [89, 93]⟩]) <|
.cond (.r 94)
 (.seq (.ops [⟨some 4, .mov, [.k (.int .i64 15)], none, [2, 5, 94]⟩]) <|
 .ret)
 (.skip)) <|
.seq (.seq (.ops [⟨some 7, .mov, [.k (.int .i64 0)], none, [94]⟩]) <|
.block 2 (.loop m65_0)) <|
.seq (.ops [⟨some 4, .mov, [.k (.int .i64 0)], none, [2, 5, 7, 99]⟩]) <|
.ret⟩
theorem c65 : cFn Try.prog 65 = some m65.bare := by kernel_rfl

/-- 'slices.pdqsortOrdered[int]' -/
def m66_0 : MCode := .block 1 (.seq (.ops [⟨some 19, .mov, [.r 2], none, []⟩,
 ⟨some 20, .mov, [.r 1], none, []⟩,
 ⟨some 21, .bin .sub, [.r 19, .r 20], none, [19, 20]⟩,
 ⟨some 10, .mov, [.r 21], none, [21]⟩]) <|
 .seq (.seq (.ops [⟨some 22, .mov, [.r 10], none, []⟩,
 ⟨some 23, .bin .leq, [.r 22, .k (.int .i64 12)], none, [22]⟩]) <|
 .cond (.r 23)
 (.seq (.ops [⟨some 24, .mov, [.r 0], none, [0, 3, 8, 9, 10, 23]⟩,
 ⟨some 25, .mov, [.r 1], none, [1]⟩,
 ⟨some 26, .mov, [.r 2], none, [2]⟩,
 ⟨some 27, .call 78, [.r 24, .r 25, .r 26], none, [24, 25, 26, 27]⟩]) <|
 .ret)
 (.skip)) <|
 .seq (.seq (.ops [⟨some 28, .mov, [.r 3], none, [23]⟩,
 ⟨some 29, .bin .eql, [.r 28, .k (.int .i64 0)], none, [28]⟩]) <|
 .cond (.r 29)
 (.seq (.ops [⟨some 30, .mov, [.r 0], none, [0, 3, 8, 9, 10, 29]⟩,
 ⟨some 31, .mov, [.r 1], none, [1]⟩,
 ⟨some 32, .mov, [.r 2], none, [2]⟩,
 ⟨some 33, .call 79, [.r 30, .r 31, .r 32], none, [30, 31, 32, 33]⟩]) <|
 .ret)
 (.skip)) <|
 .seq (.seq (.ops [⟨some 34, .mov, [.r 8], none, [29]⟩,
 ⟨some 35, .un .not, [.r 34], none, [34]⟩]) <|
 .cond (.r 35)
 (.seq (.ops [⟨some 36, .mov, [.r 0], none, [35]⟩,
 ⟨some 37, .mov, [.r 1], none, []⟩,
 ⟨some 38, .mov, [.r 2], none, []⟩,
 ⟨some 39, .call 80, [.r 36, .r 37, .r 38], none, [36, 37, 38, 39]⟩]) <|
 .ops [⟨some 40, .mov, [.r 3], none, [3]⟩,
 ⟨some 41, .bin .sub, [.r 40, .k (.int .i64 1)], none, [40]⟩,
 ⟨some 3, .mov, [.r 41], none, [41]⟩])
 (.skip)) <|
 .seq (.ops [⟨some 43, .mov, [.r 0], none, [35]⟩,
 ⟨some 44, .mov, [.r 1], none, []⟩,
 ⟨some 45, .mov, [.r 2], none, []⟩,
 ⟨some 46, .call 81, [.r 43, .r 44, .r 45], none, [43, 44, 45]⟩,
 ⟨some 42, .mov, [.r 46], none, [46]⟩,
 ⟨some 47, .extract 0, [.r 42], none, []⟩,
 ⟨some 48, .extract 1, [.r 42], none, [42]⟩,
 ⟨some 11, .mov, [.r 47], none, [47]⟩,
 ⟨some 12, .mov, [.r 48], none, [48]⟩]) <|
 .seq (.seq (.ops [⟨some 49, .mov, [.r 12], none, []⟩,
 ⟨some 50, .bin .eql, [.r 49, .k (.int .i64 2)], none, [49]⟩]) <|
 .cond (.r 50)
 (.seq (.ops [⟨some 51, .mov, [.r 0], none, [12, 50]⟩,
 ⟨some 52, .mov, [.r 1], none, []⟩,
 ⟨some 53, .mov, [.r 2], none, []⟩,
 ⟨some 54, .call 82, [.r 51, .r 52, .r 53], none, [51, 52, 53, 54]⟩]) <|
 .seq (.ops [⟨some 55, .mov, [.r 2], none, []⟩,
 ⟨some 56, .bin .sub, [.r 55, .k (.int .i64 1)], none, [55]⟩,
 ⟨some 57, .mov, [.r 11], none, [11]⟩,
 ⟨some 58, .mov, [.r 1], none, []⟩,
 ⟨some 59, .bin .sub, [.r 57, .r 58], none, [57, 58]⟩,
 ⟨some 60, .bin .sub, [.r 56, .r 59], none, [56, 59]⟩,
 ⟨some 11, .mov, [.r 60], none, [60]⟩]) <|
 .ops [⟨some 12, .mov, [.k (.int .i64 1)], none, []⟩])
 (.skip)) <|
 .seq (.seq (.ops [⟨some 61, .mov, [.r 8], none, [50]⟩,
 ⟨some 62, .mov, [.r 61], none, [61]⟩,
 ⟨some 63, .mov, [.r 9], (some (62, true)), []⟩,
 ⟨some 64, .pick, [.r 62, .r 63, .k (.bool false)], none, [62, 63]⟩,
 ⟨some 65, .mov, [.r 64], none, [64]⟩,
 ⟨some 66, .mov, [.r 12], (some (65, true)), [12]⟩,
 ⟨some 67, .bin .eql, [.r 66, .k (.int .i64 1)], (some (65, true)), [66]⟩,
 ⟨some 68, .pick, [.r 65, .r 67, .k (.bool false)], none, [65, 67]⟩]) <|
 .cond (.r 68)
 (.seq (.ops [⟨some 69, .mov, [.r 0], none, [68]⟩,
 ⟨some 70, .mov, [.r 1], none, []⟩,
 ⟨some 71, .mov, [.r 2], none, []⟩,
 ⟨some 72, .call 83, [.r 69, .r 70, .r 71], none, [69, 70, 71]⟩]) <|
 .cond (.r 72)
 (.ret)
 (.skip))
 (.skip)) <|
 .seq (.seq (.draw [⟨some 73, .mov, [.r 1], none, [68, 72]⟩,
 ⟨some 74, .bin .gtr, [.r 73, .k (.int .i64 0)], none, [73]⟩,
 ⟨some 75, .mov, [.r 74], none, [74]⟩,
 ⟨some 76, .mov, [.r 0], (some (75, true)), []⟩,
 ⟨some 77, .mov, [.r 1], (some (75, true)), []⟩,
 ⟨some 78, .bin .sub, [.r 77, .k (.int .i64 1)], (some (75, true)), [77]⟩,
 ⟨some 79, .ia 1, [.r 76, .r 78], (some (75, true)), [76, 78]⟩,
 ⟨some 80, .ld none, [.r 79], (some (75, true)), [79]⟩,
 ⟨some 81, .mov, [.r 0], (some (75, true)), []⟩,
 ⟨some 82, .mov, [.r 11], (some (75, true)), []⟩,
 ⟨some 83, .ia 1, [.r 81, .r 82], (some (75, true)), [81, 82]⟩,
 ⟨some 84, .ld none, [.r 83], (some (75, true)), [83]⟩,
 ⟨some 85, .call 84, [.r 80, .r 84], (some (75, true)), [80, 84]⟩,
 ⟨some 86, .un .not, [.r 85], (some (75, true)), [85]⟩,
 ⟨some 87, .pick, [.r 75, .r 86, .k (.bool false)], none, [75, 86]⟩] []) <|
 .cond (.r 87)
 (.seq (.ops [⟨some 88, .mov, [.r 0], none, [10, 87]⟩,
 ⟨some 89, .mov, [.r 1], none, [1]⟩,
 ⟨some 90, .mov, [.r 2], none, []⟩,
 ⟨some 91, .mov, [.r 11], none, [11]⟩,
 ⟨some 92, .call 85, [.r 88, .r 89, .r 90, .r 91], none, [88, 89, 90, 91]⟩,
 ⟨some 13, .mov, [.r 92], none, [92]⟩]) <|
 .seq (.ops [⟨some 93, .mov, [.r 13], none, [13]⟩,
 ⟨some 1, .mov, [.r 93], none, [93]⟩]) <|
 .exit 1)
 (.skip)) <|
 .seq (.ops [⟨some 95, .mov, [.r 0], none, [8, 9, 87]⟩,
 ⟨some 96, .mov, [.r 1], none, []⟩,
 ⟨some 97, .mov, [.r 2], none, []⟩,
 ⟨some 98, .mov, [.r 11], none, [11]⟩,
 ⟨some 99, .call 86, [.r 95, .r 96, .r 97, .r 98], none, [95, 96, 97, 98]⟩,
 ⟨some 94, .mov, [.r 99], none, [99]⟩,
 ⟨some 100, .extract 0, [.r 94], none, []⟩,
 ⟨some 101, .extract 1, [.r 94], none, [94]⟩,
 ⟨some 14, .mov, [.r 100], none, [100]⟩,
 ⟨some 15, .mov, [.r 101], none, [101]⟩]) <|
 .seq (.ops [⟨some 102, .mov, [.r 15], none, [15]⟩,
 ⟨some 9, .mov, [.r 102], none, [102]⟩]) <|
 .seq (.ops [⟨some 103, .mov, [.r 14], none, []⟩,
 ⟨some 104, .mov, [.r 1], none, []⟩,
 ⟨some 105, .bin .sub, [.r 103, .r 104], none, [103, 104]⟩,
 ⟨some 106, .mov, [.r 2], none, []⟩,
 ⟨some 107, .mov, [.r 14], none, []⟩,
 ⟨some 108, .bin .sub, [.r 106, .r 107], none, [106, 107]⟩,
 ⟨some 16, .mov, [.r 105], none, [105]⟩,
 ⟨some 17, .mov, [.r 108], none, [108]⟩]) <|
 .seq (.ops [⟨some 109, .mov, [.r 10], none, [10]⟩,
 ⟨some 110, .bin .quo, [.r 109, .k (.int .i64 8)], none, [109]⟩,
 ⟨some 18, .mov, [.r 110], none, [110]⟩]) <|
 .seq (.ops [⟨some 111, .mov, [.r 16], none, []⟩,
 ⟨some 112, .mov, [.r 17], none, []⟩,
 ⟨some 113, .bin .lss, [.r 111, .r 112], none, [111, 112]⟩]) <|
 .cond (.r 113)
 (.seq (.ops [⟨some 114, .mov, [.r 16], none, [16, 17, 113]⟩,
 ⟨some 115, .mov, [.r 18], none, [18]⟩,
 ⟨some 116, .bin .geq, [.r 114, .r 115], none, [114, 115]⟩,
 ⟨some 8, .mov, [.r 116], none, [116]⟩]) <|
 .seq (.ops [⟨some 117, .mov, [.r 0], none, []⟩,
 ⟨some 118, .mov, [.r 1], none, [1]⟩,
 ⟨some 119, .mov, [.r 14], none, []⟩,
 ⟨some 120, .mov, [.r 3], none, []⟩,
 ⟨some 121, .call 66, [.r 117, .r 118, .r 119, .r 120], none, [117, 118, 119, 120, 121]⟩]) <|
 .ops [⟨some 122, .mov, [.r 14], none, [14]⟩,
 ⟨some 123, .bin .add, [.r 122, .k (.int .i64 1)], none, [122]⟩,
 ⟨some 1, .mov, [.r 123], none, [123]⟩])
 (.seq (.ops [⟨some 124, .mov, [.r 17], none, [16, 17, 113]⟩,
 ⟨some 125, .mov, [.r 18], none, [18]⟩,
 ⟨some 126, .bin .geq, [.r 124, .r 125], none, [124, 125]⟩,
 ⟨some 8, .mov, [.r 126], none, [126]⟩]) <|
 .seq (.ops [⟨some 127, .mov, [.r 0], none, []⟩,
 ⟨some 128, .mov, [.r 14], none, []⟩,
 ⟨some 129, .bin .add, [.r 128, .k (.int .i64 1)], none, [128]⟩,
 ⟨some 130, .mov, [.r 2], none, [2]⟩,
 ⟨some 131, .mov, [.r 3], none, []⟩,
 ⟨some 132, .call 66, [.r 127, .r 129, .r 130, .r 131], none, [127, 129, 130, 131, 132]⟩]) <|
 .ops [⟨some 133, .mov, [.r 14], none, [14]⟩,
 ⟨some 2, .mov, [.r 133], none, [133]⟩]))
def m66 : MFn := ⟨[], .seq (.ops [⟨some 8, .mov, [.k (.bool true)], none, []⟩]) <|
.seq (.ops [⟨some 9, .mov, [.k (.bool true)], none, []⟩]) <|
.block 0 (.loop m66_0)⟩
theorem c66 : cFn Try.prog 66 = some m66.bare := by kernel_rfl

/-- 'math/bits.Len' -/
def m67 : MFn := ⟨[.tmp 2], .seq (.ops [⟨some 2, .mov, [.k (.int .i64 0)], none, [2]⟩]) <|
.seq (.cond (.k (.bool false))
 (.seq (.ops [⟨some 3, .mov, [.r 0], none, [0]⟩,
 ⟨some 4, .conv .u32, [.r 3], none, [3]⟩,
 ⟨some 5, .call 87, [.r 4], none, [4]⟩,
 ⟨some 2, .mov, [.r 5], none, [5]⟩]) <|
 .ret)
 (.skip)) <|
.seq (.ops [⟨some 6, .mov, [.r 0], none, [0]⟩,
 ⟨some 7, .call 88, [.r 6], none, [6]⟩,
 ⟨some 2, .mov, [.r 7], none, [7]⟩]) <|
.ret⟩
theorem c67 : cFn Try.prog 67 = some m67.bare := by kernel_rfl

/-- 'swingbridge/task.placed$1' -/
def m68 : MFn := ⟨[.tmp 2], .seq (.ops [⟨some 2, .mov, [.k (.bool false)], none, [2]⟩]) <|
.seq (.ops [⟨some 3, .mov, [.r 0], none, [0]⟩,
 ⟨some 4, .call 52, [.r 3, .k (.int .i64 1), .k (.int .i64 3)], none, [3]⟩,
 ⟨some 5, .un .not, [.r 4], none, [4]⟩,
 ⟨some 2, .mov, [.r 5], none, [5]⟩]) <|
.ret⟩
theorem c68 : cFn Try.prog 68 = some m68.bare := by kernel_rfl

/-- 'swingbridge/task.placed$2' -/
def m69 : MFn := ⟨[.tmp 3], .seq (.ops [⟨some 3, .mov, [.k (.bool false)], none, [3]⟩]) <|
.seq (.ops [⟨some 4, .mov, [.r 0], none, [0]⟩,
 ⟨some 5, .fa 1, [.r 1], none, []⟩,
 ⟨some 6, .ld none, [.r 5], none, [5]⟩,
 ⟨some 7, .len, [.r 6], none, [6]⟩,
 ⟨some 8, .bin .sub, [.r 7, .k (.int .i64 1)], none, [7]⟩,
 ⟨some 9, .call 52, [.r 4, .k (.int .i64 0), .r 8], none, [4, 8]⟩,
 ⟨some 10, .un .not, [.r 9], none, [9]⟩,
 ⟨some 3, .mov, [.r 10], none, [10]⟩]) <|
.ret⟩
theorem c69 : cFn Try.prog 69 = some m69.bare := by kernel_rfl

/-- 'slices.ContainsFunc[[]int,int]' -/
def m70 : MFn := ⟨[.tmp 4], .seq (.ops [⟨some 4, .mov, [.k (.bool false)], none, [4]⟩]) <|
.seq (.ops [⟨some 5, .mov, [.r 0], none, [0]⟩,
 ⟨some 6, .mov, [.r 1], none, [1]⟩,
 ⟨some 7, .call 89, [.r 5, .r 6], none, [5, 6]⟩,
 ⟨some 8, .bin .geq, [.r 7, .k (.int .i64 0)], none, [7]⟩,
 ⟨some 4, .mov, [.r 8], none, [8]⟩]) <|
.ret⟩
theorem c70 : cFn Try.prog 70 = some m70.bare := by kernel_rfl

/-- 'swingbridge/task.one$1' -/
def m71 : MFn := ⟨[.tmp 3], .seq (.ops [⟨some 2, .box, [.r 0], none, [0]⟩,
 ⟨some 3, .mov, [.k (.bool false)], none, [3]⟩]) <|
.seq (.ops [⟨some 4, .fa 0, [.r 2], none, []⟩,
 ⟨some 5, .ld none, [.r 4], none, [4]⟩,
 ⟨some 6, .fa 0, [.r 1], none, []⟩,
 ⟨some 7, .ld none, [.r 6], none, [6]⟩,
 ⟨some 8, .bin .eql, [.r 5, .r 7], none, [5, 7]⟩,
 ⟨some 9, .mov, [.r 8], none, [8]⟩,
 ⟨some 10, .fa 3, [.r 2], (some (9, false)), [2]⟩,
 ⟨some 11, .ld none, [.r 10], (some (9, false)), [10]⟩,
 ⟨some 12, .fa 3, [.r 1], (some (9, false)), []⟩,
 ⟨some 13, .ld none, [.r 12], (some (9, false)), [12]⟩,
 ⟨some 14, .bin .eql, [.r 11, .r 13], (some (9, false)), [11, 13]⟩,
 ⟨some 15, .pick, [.r 9, .k (.bool true), .r 14], none, [9, 14]⟩,
 ⟨some 3, .mov, [.r 15], none, [15]⟩]) <|
.ret⟩
theorem c71 : cFn Try.prog 71 = some m71.bare := by kernel_rfl

/-- 'swingbridge/words.Name' -/
def m72_0 : MCode := .seq (.ops [⟨some 9, .bin .lss, [.r 8, .r 7], none, []⟩]) <|
 .seq (.cond (.r 9)
 (.skip)
 (.exit 0)) <|
 .seq (.block 1 (.seq (.ops [⟨some 10, .mov, [.r 8], none, [9]⟩,
 ⟨some 3, .mov, [.r 10], none, [10]⟩]) <|
 .seq (.ops [⟨some 11, .mov, [.r 0], none, []⟩,
 ⟨some 12, .mov, [.r 3], none, []⟩,
 ⟨some 13, .idxs, [.r 11, .r 12], none, [11, 12]⟩,
 ⟨some 4, .mov, [.r 13], none, [13]⟩]) <|
 .seq (.ops [⟨some 14, .mov, [.r 4], none, []⟩,
 ⟨some 15, .bin .geq, [.r 14, .k (.int .u8 48)], none, [14]⟩,
 ⟨some 16, .mov, [.r 15], none, [15]⟩,
 ⟨some 17, .mov, [.r 4], (some (16, true)), []⟩,
 ⟨some 18, .bin .leq, [.r 17, .k (.int .u8 57)], (some (16, true)), [17]⟩,
 ⟨some 19, .pick, [.r 16, .r 18, .k (.bool false)], none, [16, 18]⟩,
 ⟨some 5, .mov, [.r 19], none, [19]⟩]) <|
 .seq (.ops [⟨some 20, .mov, [.r 4], none, []⟩,
 ⟨some 21, .bin .lss, [.r 20, .k (.int .u8 97)], none, [20]⟩,
 ⟨some 22, .mov, [.r 21], none, [21]⟩,
 ⟨some 23, .mov, [.r 4], (some (22, false)), [4]⟩,
 ⟨some 24, .bin .gtr, [.r 23, .k (.int .u8 122)], (some (22, false)), [23]⟩,
 ⟨some 25, .pick, [.r 22, .k (.bool true), .r 24], none, [22, 24]⟩,
 ⟨some 26, .mov, [.r 25], none, [25]⟩,
 ⟨some 27, .mov, [.r 3], (some (26, true)), [3]⟩,
 ⟨some 28, .bin .eql, [.r 27, .k (.int .i64 0)], (some (26, true)), [27]⟩,
 ⟨some 29, .mov, [.r 28], (some (26, true)), [28]⟩,
 ⟨some 30, .mov, [.r 5], (some (29, false)), [5]⟩,
 ⟨some 31, .un .not, [.r 30], (some (29, false)), [30]⟩,
 ⟨some 32, .pick, [.r 29, .k (.bool true), .r 31], (some (26, true)), [29, 31]⟩,
 ⟨some 33, .pick, [.r 26, .r 32, .k (.bool false)], none, [26, 32]⟩]) <|
 .cond (.r 33)
 (.seq (.ops [⟨some 2, .mov, [.k (.bool false)], none, [0, 7, 8, 33]⟩]) <|
 .ret)
 (.skip))) <|
 .ops [⟨some 34, .bin .add, [.r 8, .k (.int .i64 1)], none, [8, 33]⟩,
 ⟨some 8, .mov, [.r 34], none, [34]⟩]
def m72 : MFn := ⟨[.tmp 2], .seq (.ops [⟨some 2, .mov, [.k (.bool false)], none, [2]⟩]) <|
.seq (.seq (.ops [⟨some 6, .mov, [.r 0], none, []⟩,
 ⟨some 7, .lens, [.r 6], none, [6]⟩,
 ⟨some 8, .mov, [.k (.int .i64 0)], none, []⟩]) <|
.block 0 (.loop m72_0)) <|
.seq (.ops [⟨some 35, .mov, [.r 0], none, [7, 8, 9]⟩,
 ⟨some 36, .bin .neq, [.r 35, .k (.string ⟨#[]⟩)], none, [35]⟩,
 ⟨some 37, .mov, [.r 36], none, [36]⟩,
 ⟨some 38, .mov, [.r 0], (some (37, true)), [0]⟩,
 ⟨some 39, .lens, [.r 38], (some (37, true)), [38]⟩,
 ⟨some 40, .bin .leq, [.r 39, .k (.int .i64 8)], (some (37, true)), [39]⟩,
 ⟨some 41, .pick, [.r 37, .r 40, .k (.bool false)], none, [37, 40]⟩,
 ⟨some 2, .mov, [.r 41], none, [41]⟩]) <|
.ret⟩
theorem c72 : cFn Try.prog 72 = some m72.bare := by kernel_rfl

/-- 'slices.ContainsFunc[[]swingbridge/api.Task,swingbridge/api.Task]' -/
def m73 : MFn := ⟨[.tmp 4], .seq (.ops [⟨some 4, .mov, [.k (.bool false)], none, [4]⟩]) <|
.seq (.ops [⟨some 5, .mov, [.r 0], none, [0]⟩,
 ⟨some 6, .mov, [.r 1], none, [1]⟩,
 ⟨some 7, .call 90, [.r 5, .r 6], none, [5, 6]⟩,
 ⟨some 8, .bin .geq, [.r 7, .k (.int .i64 0)], none, [7]⟩,
 ⟨some 4, .mov, [.r 8], none, [8]⟩]) <|
.ret⟩
theorem c73 : cFn Try.prog 73 = some m73.bare := by kernel_rfl

/-- 'swingbridge/task.parted' -/
def m74_0 : MCode := .seq (.ops [⟨some 10, .bin .lss, [.r 9, .r 8], none, []⟩]) <|
 .seq (.cond (.r 10)
 (.skip)
 (.exit 0)) <|
 .seq (.block 1 (.seq (.ops [⟨some 11, .ia 3, [.r 7, .r 9], none, [10]⟩,
 ⟨some 12, .ld (some 3), [.r 11], none, [11]⟩,
 ⟨some 6, .new 0 [.int .i64 0, .int .i64 0, .int .i64 0], [], none, []⟩,
 ⟨none, .st 3, [.r 6, .r 12], none, [12]⟩]) <|
 .seq (.block 2 (.seq (.ops [⟨some 14, .fa 0, [.r 6], none, []⟩,
 ⟨some 15, .ld none, [.r 14], none, [14]⟩,
 ⟨some 16, .call 52, [.r 15, .k (.int .i64 1), .k (.int .i64 3)], none, [15]⟩,
 ⟨some 17, .un .not, [.r 16], none, [16]⟩,
 ⟨some 18, .mov, [.r 17], none, [17]⟩,
 ⟨some 19, .fa 1, [.r 6], (some (18, false)), []⟩,
 ⟨some 20, .ld none, [.r 19], (some (18, false)), [19]⟩,
 ⟨some 21, .call 52, [.r 20, .k (.int .i64 1), .k (.int .i64 60)], (some (18, false)), [20]⟩,
 ⟨some 22, .un .not, [.r 21], (some (18, false)), [21]⟩,
 ⟨some 23, .pick, [.r 18, .k (.bool true), .r 22], none, [18, 22]⟩,
 ⟨some 13, .mov, [.r 23], none, [23]⟩]) <|
 .cond (.r 13)
 (.seq (.ops [⟨some 4, .mov, [.k (.bool false)], none, [1, 2, 6, 7, 8, 9, 13]⟩]) <|
 .ret)
 (.seq (.ops [⟨some 25, .fa 0, [.r 6], none, [13]⟩,
 ⟨some 26, .ld none, [.r 25], none, [25]⟩,
 ⟨some 27, .bin .eql, [.r 26, .k (.int .i64 3)], none, [26]⟩,
 ⟨some 28, .mov, [.r 27], none, [27]⟩,
 ⟨some 29, .fa 2, [.r 6], (some (28, true)), []⟩,
 ⟨some 30, .ld none, [.r 29], (some (28, true)), [29]⟩,
 ⟨some 31, .fa 2, [.r 2], (some (28, true)), []⟩,
 ⟨some 32, .ld none, [.r 31], (some (28, true)), [31]⟩,
 ⟨some 33, .len, [.r 32], (some (28, true)), [32]⟩,
 ⟨some 34, .bin .sub, [.r 33, .k (.int .i64 1)], (some (28, true)), [33]⟩,
 ⟨some 35, .call 52, [.r 30, .k (.int .i64 0), .r 34], (some (28, true)), [30, 34]⟩,
 ⟨some 36, .pick, [.r 28, .r 35, .k (.bool false)], none, [28, 35]⟩,
 ⟨some 24, .mov, [.r 36], none, [36]⟩]) <|
 .cond (.r 24)
 (.exit 1)
 (.seq (.ops [⟨some 38, .fa 0, [.r 6], none, [24]⟩,
 ⟨some 39, .ld none, [.r 38], none, [38]⟩,
 ⟨some 40, .bin .neq, [.r 39, .k (.int .i64 3)], none, [39]⟩,
 ⟨some 41, .mov, [.r 40], none, [40]⟩,
 ⟨some 42, .fa 2, [.r 6], (some (41, true)), [6]⟩,
 ⟨some 43, .ld none, [.r 42], (some (41, true)), [42]⟩,
 ⟨some 44, .bin .eql, [.r 43, .k (.int .i64 0)], (some (41, true)), [43]⟩,
 ⟨some 45, .pick, [.r 41, .r 44, .k (.bool false)], none, [41, 44]⟩,
 ⟨some 37, .mov, [.r 45], none, [45]⟩]) <|
 .cond (.r 37)
 (.exit 1)
 (.skip))))) <|
 .seq (.ops [⟨some 4, .mov, [.k (.bool false)], none, [1, 2, 7, 8, 9, 37]⟩]) <|
 .ret)) <|
 .ops [⟨some 46, .bin .add, [.r 9, .k (.int .i64 1)], none, [6, 9, 24, 37]⟩,
 ⟨some 9, .mov, [.r 46], none, [46]⟩]
def m74 : MFn := ⟨[.tmp 4], .seq (.ops [⟨some 2, .box, [.r 0], none, [0]⟩,
 ⟨some 4, .mov, [.k (.bool false)], none, [4]⟩]) <|
.seq (.skip) <|
.seq (.seq (.ops [⟨some 7, .mov, [.r 1], none, []⟩,
 ⟨some 8, .len, [.r 7], none, []⟩,
 ⟨some 9, .mov, [.k (.int .i64 0)], none, []⟩]) <|
.block 0 (.loop m74_0)) <|
.seq (.ops [⟨some 47, .mov, [.r 1], none, [1, 2, 7, 8, 9, 10]⟩,
 ⟨some 48, .len, [.r 47], none, [47]⟩,
 ⟨some 49, .call 52, [.r 48, .k (.int .i64 1), .k (.int .i64 6)], none, [48]⟩,
 ⟨some 4, .mov, [.r 49], none, [49]⟩]) <|
.ret⟩
theorem c74 : cFn Try.prog 74 = some m74.bare := by kernel_rfl

/-- 'slices.Insert[[]swingbridge/rank.entry,swingbridge/rank.entry]' -/
def m75 : MFn := ⟨[.tmp 6], .seq (.ops [⟨some 6, .mov, [.k (.slice none 0 0)], none, [6]⟩]) <|
.seq (.ops [⟨some 10, .mov, [.r 0], none, []⟩,
 ⟨some 11, .mov, [.r 1], none, []⟩,
 ⟨some 12, .sl 2 true false false, [.r 10, .r 11], none, [10, 11, 12]⟩]) <|
.seq (.ops [⟨some 13, .mov, [.r 2], none, []⟩,
 ⟨some 14, .len, [.r 13], none, [13]⟩,
 ⟨some 7, .mov, [.r 14], none, [14]⟩]) <|
.seq (.seq (.ops [⟨some 15, .mov, [.r 7], none, []⟩,
 ⟨some 16, .bin .eql, [.r 15, .k (.int .i64 0)], none, [15]⟩]) <|
.cond (.r 16)
 (.seq (.ops [⟨some 17, .mov, [.r 0], none, [0, 1, 2, 7, 16]⟩,
 ⟨some 6, .mov, [.r 17], none, [17]⟩]) <|
 .ret)
 (.skip)) <|
.seq (.ops [⟨some 18, .mov, [.r 0], none, [16]⟩,
 ⟨some 19, .len, [.r 18], none, [18]⟩,
 ⟨some 8, .mov, [.r 19], none, [19]⟩]) <|
.seq (.seq (.ops [⟨some 20, .mov, [.r 1], none, []⟩,
 ⟨some 21, .mov, [.r 8], none, []⟩,
 ⟨some 22, .bin .eql, [.r 20, .r 21], none, [20, 21]⟩]) <|
.cond (.r 22)
 (.seq (.ops [⟨some 23, .mov, [.r 0], none, [0, 1, 7, 8, 22]⟩,
 ⟨some 24, .mov, [.r 2], none, [2]⟩,
 ⟨some 25, .app 2 16, [.r 23, .r 24], none, [23, 24]⟩,
 ⟨some 6, .mov, [.r 25], none, [25]⟩]) <|
 .ret)
 (.skip)) <|
.seq (.seq (.ops [⟨some 26, .mov, [.r 8], none, [22]⟩,
 ⟨some 27, .mov, [.r 7], none, []⟩,
 ⟨some 28, .bin .add, [.r 26, .r 27], none, [26, 27]⟩,
 ⟨some 29, .mov, [.r 0], none, []⟩,
 ⟨some 30, .cap, [.r 29], none, [29]⟩,
 ⟨some 31, .bin .gtr, [.r 28, .r 30], none, [28, 30]⟩]) <|
.cond (.r 31)
 (.seq (.ops [⟨some 32, .mov, [.r 0], none, [31]⟩,
 ⟨some 33, .mov, [.r 1], none, []⟩,
 ⟨some 34, .sl 2 false true false, [.r 32, .r 33], none, [32, 33]⟩,
 ⟨some 35, .mov, [.r 8], none, [8]⟩,
 ⟨some 36, .mov, [.r 7], none, []⟩,
 ⟨some 37, .bin .add, [.r 35, .r 36], none, [35, 36]⟩,
 ⟨some 38, .mov, [.r 1], none, []⟩,
 ⟨some 39, .bin .sub, [.r 37, .r 38], none, [37, 38]⟩,
 ⟨some 40, .appz 2 16 [.int .i64 0, .int .i64 0], [.r 34, .r 39], none, [34, 39]⟩,
 ⟨some 9, .mov, [.r 40], none, [40]⟩]) <|
 .seq (.ops [⟨some 41, .mov, [.r 9], none, []⟩,
 ⟨some 42, .mov, [.r 1], none, []⟩,
 ⟨some 43, .sl 2 true false false, [.r 41, .r 42], none, [41, 42]⟩,
 ⟨some 44, .mov, [.r 2], none, [2]⟩,
 ⟨some 45, .copy 2, [.r 43, .r 44], none, [43, 44, 45]⟩]) <|
 .seq (.draw [⟨some 46, .mov, [.r 9], none, []⟩,
 ⟨some 47, .mov, [.r 1], none, []⟩,
 ⟨some 48, .mov, [.r 7], none, [7]⟩,
 ⟨some 49, .bin .add, [.r 47, .r 48], none, [47, 48]⟩,
 ⟨some 50, .sl 2 true false false, [.r 46, .r 49], none, [46, 49]⟩,
 ⟨some 51, .mov, [.r 0], none, [0]⟩,
 ⟨some 52, .mov, [.r 1], none, [1]⟩,
 ⟨some 53, .sl 2 true false false, [.r 51, .r 52], none, [51, 52]⟩,
 ⟨some 54, .copy 2, [.r 50, .r 53], none, [50, 53, 54]⟩] []) <|
 .seq (.ops [⟨some 55, .mov, [.r 9], none, [9]⟩,
 ⟨some 6, .mov, [.r 55], none, [55]⟩]) <|
 .ret)
 (.skip)) <|
.seq (.ops [⟨some 56, .mov, [.r 0], none, [0, 31]⟩,
 ⟨some 57, .mov, [.r 8], none, []⟩,
 ⟨some 58, .mov, [.r 7], none, []⟩,
 ⟨some 59, .bin .add, [.r 57, .r 58], none, [57, 58]⟩,
 ⟨some 60, .sl 2 false true false, [.r 56, .r 59], none, [56, 59]⟩,
 ⟨some 0, .mov, [.r 60], none, [60]⟩]) <|
.seq (.seq (.ops [⟨some 61, .mov, [.r 2], none, []⟩,
 ⟨some 62, .mov, [.r 0], none, []⟩,
 ⟨some 63, .mov, [.r 1], none, []⟩,
 ⟨some 64, .mov, [.r 7], none, []⟩,
 ⟨some 65, .bin .add, [.r 63, .r 64], none, [63, 64]⟩,
 ⟨some 66, .sl 2 true false false, [.r 62, .r 65], none, [62, 65]⟩,
 ⟨some 67, .call 91, [.r 61, .r 66], none, [61, 66]⟩,
 ⟨some 68, .un .not, [.r 67], none, [67]⟩]) <|
.cond (.r 68)
 (.seq (.draw [⟨some 69, .mov, [.r 0], none, [8, 68]⟩,
 ⟨some 70, .mov, [.r 1], none, []⟩,
 ⟨some 71, .mov, [.r 7], none, [7]⟩,
 ⟨some 72, .bin .add, [.r 70, .r 71], none, [70, 71]⟩,
 ⟨some 73, .sl 2 true false false, [.r 69, .r 72], none, [69, 72]⟩,
 ⟨some 74, .mov, [.r 0], none, []⟩,
 ⟨some 75, .mov, [.r 1], none, []⟩,
 ⟨some 76, .sl 2 true false false, [.r 74, .r 75], none, [74, 75]⟩,
 ⟨some 77, .copy 2, [.r 73, .r 76], none, [73, 76, 77]⟩] []) <|
 .seq (.ops [⟨some 78, .mov, [.r 0], none, []⟩,
 ⟨some 79, .mov, [.r 1], none, [1]⟩,
 ⟨some 80, .sl 2 true false false, [.r 78, .r 79], none, [78, 79]⟩,
 ⟨some 81, .mov, [.r 2], none, [2]⟩,
 ⟨some 82, .copy 2, [.r 80, .r 81], none, [80, 81, 82]⟩]) <|
 .seq (.ops [⟨some 83, .mov, [.r 0], none, [0]⟩,
 ⟨some 6, .mov, [.r 83], none, [83]⟩]) <|
 .ret)
 (.skip)) <|
.seq (.ops [⟨some 84, .mov, [.r 0], none, [68]⟩,
 ⟨some 85, .mov, [.r 8], none, [8]⟩,
 ⟨some 86, .sl 2 true false false, [.r 84, .r 85], none, [84, 85]⟩,
 ⟨some 87, .mov, [.r 2], none, [2]⟩,
 ⟨some 88, .copy 2, [.r 86, .r 87], none, [86, 87, 88]⟩]) <|
.seq (.ops [⟨some 89, .mov, [.r 0], none, []⟩,
 ⟨some 90, .mov, [.r 1], none, [1]⟩,
 ⟨some 91, .sl 2 true false false, [.r 89, .r 90], none, [89, 90]⟩,
 ⟨some 92, .mov, [.r 7], none, [7]⟩,
 ⟨some 93, .call 92, [.r 91, .r 92], none, [91, 92, 93]⟩]) <|
.seq (.ops [⟨some 94, .mov, [.r 0], none, [0]⟩,
 ⟨some 6, .mov, [.r 94], none, [94]⟩]) <|
.ret⟩
theorem c75 : cFn Try.prog 75 = some m75.bare := by kernel_rfl

/-- 'swingbridge/swingbridgeref7.Name' -/
def m76_0 : MCode := .seq (.seq (.ops [⟨some 5, .mov, [.r 3], none, []⟩,
 ⟨some 6, .mov, [.r 0], none, []⟩,
 ⟨some 7, .lens, [.r 6], none, [6]⟩,
 ⟨some 8, .bin .lss, [.r 5, .r 7], none, [5, 7]⟩]) <|
 .cond (.r 8)
 (.skip)
 (.exit 0)) <|
 .seq (.block 1 (.seq (.ops [⟨some 11, .mov, [.r 0], none, [8]⟩,
 ⟨some 12, .mov, [.r 3], none, []⟩,
 ⟨some 13, .idxs, [.r 11, .r 12], none, [11, 12]⟩,
 ⟨some 4, .mov, [.r 13], none, [13]⟩]) <|
 .seq (.ops [⟨some 14, .mov, [.r 4], none, []⟩,
 ⟨some 15, .bin .lss, [.r 14, .k (.int .u8 97)], none, [14]⟩,
 ⟨some 16, .mov, [.r 15], none, [15]⟩,
 ⟨some 17, .mov, [.r 4], (some (16, false)), []⟩,
 ⟨some 18, .bin .gtr, [.r 17, .k (.int .u8 122)], (some (16, false)), [17]⟩,
 ⟨some 19, .pick, [.r 16, .k (.bool true), .r 18], none, [16, 18]⟩,
 ⟨some 20, .mov, [.r 19], none, [19]⟩,
 ⟨some 21, .mov, [.r 4], (some (20, true)), []⟩,
 ⟨some 22, .bin .lss, [.r 21, .k (.int .u8 48)], (some (20, true)), [21]⟩,
 ⟨some 23, .mov, [.r 22], (some (20, true)), [22]⟩,
 ⟨some 24, .mov, [.r 4], (some (23, false)), [4]⟩,
 ⟨some 25, .bin .gtr, [.r 24, .k (.int .u8 57)], (some (23, false)), [24]⟩,
 ⟨some 26, .pick, [.r 23, .k (.bool true), .r 25], (some (20, true)), [23, 25]⟩,
 ⟨some 27, .mov, [.r 26], (some (20, true)), [26]⟩,
 ⟨some 28, .mov, [.r 3], (some (27, false)), []⟩,
 ⟨some 29, .bin .eql, [.r 28, .k (.int .i64 0)], (some (27, false)), [28]⟩,
 ⟨some 30, .pick, [.r 27, .k (.bool true), .r 29], (some (20, true)), [27, 29]⟩,
 ⟨some 31, .pick, [.r 20, .r 30, .k (.bool false)], none, [20, 30]⟩]) <|
 .cond (.r 31)
 (.seq (.ops [⟨some 2, .mov, [.k (.bool false)], none, [0, 3, 31]⟩]) <|
 .ret)
 (.skip))) <|
 .ops [⟨some 9, .mov, [.r 3], none, [3, 31]⟩,
 ⟨some 10, .bin .add, [.r 9, .k (.int .i64 1)], none, [9]⟩,
 ⟨some 3, .mov, [.r 10], none, [10]⟩]
def m76 : MFn := ⟨[.tmp 2], .seq (.ops [⟨some 2, .mov, [.k (.bool false)], none, [2]⟩]) <|
.seq (.seq (.ops [⟨some 3, .mov, [.k (.int .i64 0)], none, []⟩]) <|
.block 0 (.loop m76_0)) <|
.seq (.ops [⟨some 32, .mov, [.r 0], none, [3, 8]⟩,
 ⟨some 33, .lens, [.r 32], none, [32]⟩,
 ⟨some 34, .bin .geq, [.r 33, .k (.int .i64 1)], none, [33]⟩,
 ⟨some 35, .mov, [.r 34], none, [34]⟩,
 ⟨some 36, .mov, [.r 0], (some (35, true)), [0]⟩,
 ⟨some 37, .lens, [.r 36], (some (35, true)), [36]⟩,
 ⟨some 38, .bin .leq, [.r 37, .k (.int .i64 8)], (some (35, true)), [37]⟩,
 ⟨some 39, .pick, [.r 35, .r 38, .k (.bool false)], none, [35, 38]⟩,
 ⟨some 2, .mov, [.r 39], none, [39]⟩]) <|
.ret⟩
theorem c76 : cFn Try.prog 76 = some m76.bare := by kernel_rfl

/-- 'swingbridge/swingbridgeref7.part' -/
def m77 : MFn := ⟨[.tmp 4], .seq (.ops [⟨some 2, .box, [.r 0], none, [0]⟩,
 ⟨some 3, .box, [.r 1], none, [1]⟩,
 ⟨some 4, .mov, [.k (.bool false)], none, [4]⟩]) <|
.seq (.seq (.ops [⟨some 5, .fa 0, [.r 3], none, []⟩,
 ⟨some 6, .ld none, [.r 5], none, [5]⟩,
 ⟨some 7, .bin .lss, [.r 6, .k (.int .i64 1)], none, [6]⟩,
 ⟨some 8, .mov, [.r 7], none, [7]⟩,
 ⟨some 9, .fa 0, [.r 3], (some (8, false)), []⟩,
 ⟨some 10, .ld none, [.r 9], (some (8, false)), [9]⟩,
 ⟨some 11, .bin .gtr, [.r 10, .k (.int .i64 3)], (some (8, false)), [10]⟩,
 ⟨some 12, .pick, [.r 8, .k (.bool true), .r 11], none, [8, 11]⟩,
 ⟨some 13, .mov, [.r 12], none, [12]⟩,
 ⟨some 14, .fa 1, [.r 3], (some (13, false)), []⟩,
 ⟨some 15, .ld none, [.r 14], (some (13, false)), [14]⟩,
 ⟨some 16, .bin .lss, [.r 15, .k (.int .i64 1)], (some (13, false)), [15]⟩,
 ⟨some 17, .pick, [.r 13, .k (.bool true), .r 16], none, [13, 16]⟩,
 ⟨some 18, .mov, [.r 17], none, [17]⟩,
 ⟨some 19, .fa 1, [.r 3], (some (18, false)), []⟩,
 ⟨some 20, .ld none, [.r 19], (some (18, false)), [19]⟩,
 ⟨some 21, .bin .gtr, [.r 20, .k (.int .i64 60)], (some (18, false)), [20]⟩,
 ⟨some 22, .pick, [.r 18, .k (.bool true), .r 21], none, [18, 21]⟩]) <|
.cond (.r 22)
 (.seq (.ops [⟨some 4, .mov, [.k (.bool false)], none, [2, 3, 22]⟩]) <|
 .ret)
 (.skip)) <|
.seq (.ops [⟨some 23, .fa 0, [.r 3], none, [22]⟩,
 ⟨some 24, .ld none, [.r 23], none, [23]⟩,
 ⟨some 25, .bin .eql, [.r 24, .k (.int .i64 3)], none, [24]⟩,
 ⟨some 26, .mov, [.r 25], none, [25]⟩,
 ⟨some 27, .fa 2, [.r 3], (some (26, true)), []⟩,
 ⟨some 28, .ld none, [.r 27], (some (26, true)), [27]⟩,
 ⟨some 29, .bin .geq, [.r 28, .k (.int .i64 0)], (some (26, true)), [28]⟩,
 ⟨some 30, .pick, [.r 26, .r 29, .k (.bool false)], none, [26, 29]⟩,
 ⟨some 31, .mov, [.r 30], none, [30]⟩,
 ⟨some 32, .fa 2, [.r 3], (some (31, true)), []⟩,
 ⟨some 33, .ld none, [.r 32], (some (31, true)), [32]⟩,
 ⟨some 34, .fa 2, [.r 2], (some (31, true)), [2]⟩,
 ⟨some 35, .ld none, [.r 34], (some (31, true)), [34]⟩,
 ⟨some 36, .len, [.r 35], (some (31, true)), [35]⟩,
 ⟨some 37, .bin .lss, [.r 33, .r 36], (some (31, true)), [33, 36]⟩,
 ⟨some 38, .pick, [.r 31, .r 37, .k (.bool false)], none, [31, 37]⟩,
 ⟨some 39, .mov, [.r 38], none, [38]⟩,
 ⟨some 40, .fa 0, [.r 3], (some (39, false)), []⟩,
 ⟨some 41, .ld none, [.r 40], (some (39, false)), [40]⟩,
 ⟨some 42, .bin .neq, [.r 41, .k (.int .i64 3)], (some (39, false)), [41]⟩,
 ⟨some 43, .mov, [.r 42], (some (39, false)), [42]⟩,
 ⟨some 44, .fa 2, [.r 3], (some (43, true)), [3]⟩,
 ⟨some 45, .ld none, [.r 44], (some (43, true)), [44]⟩,
 ⟨some 46, .bin .eql, [.r 45, .k (.int .i64 0)], (some (43, true)), [45]⟩,
 ⟨some 47, .pick, [.r 43, .r 46, .k (.bool false)], (some (39, false)), [43, 46]⟩,
 ⟨some 48, .pick, [.r 39, .k (.bool true), .r 47], none, [39, 47]⟩,
 ⟨some 4, .mov, [.r 48], none, [48]⟩]) <|
.ret⟩
theorem c77 : cFn Try.prog 77 = some m77.bare := by kernel_rfl

/-- 'slices.insertionSortOrdered[int]' -/
def m78_0 : MCode := .seq (.seq (.draw [⟨some 16, .mov, [.r 7], none, []⟩,
 ⟨some 17, .mov, [.r 1], none, []⟩,
 ⟨some 18, .bin .gtr, [.r 16, .r 17], none, [16, 17]⟩,
 ⟨some 19, .mov, [.r 18], none, [18]⟩,
 ⟨some 20, .mov, [.r 0], (some (19, true)), []⟩,
 ⟨some 21, .mov, [.r 7], (some (19, true)), []⟩,
 ⟨some 22, .ia 1, [.r 20, .r 21], (some (19, true)), [20, 21]⟩,
 ⟨some 23, .ld none, [.r 22], (some (19, true)), [22]⟩,
 ⟨some 24, .mov, [.r 0], (some (19, true)), []⟩,
 ⟨some 25, .mov, [.r 7], (some (19, true)), []⟩,
 ⟨some 26, .bin .sub, [.r 25, .k (.int .i64 1)], (some (19, true)), [25]⟩,
 ⟨some 27, .ia 1, [.r 24, .r 26], (some (19, true)), [24, 26]⟩,
 ⟨some 28, .ld none, [.r 27], (some (19, true)), [27]⟩,
 ⟨some 29, .call 84, [.r 23, .r 28], (some (19, true)), [23, 28]⟩,
 ⟨some 30, .pick, [.r 19, .r 29, .k (.bool false)], none, [19, 29]⟩] []) <|
 .cond (.r 30)
 (.skip)
 (.exit 2)) <|
 .seq (.block 3 (.draw [⟨some 33, .mov, [.r 0], none, [30]⟩,
 ⟨some 34, .mov, [.r 7], none, []⟩,
 ⟨some 35, .mov, [.r 0], none, []⟩,
 ⟨some 36, .mov, [.r 7], none, []⟩,
 ⟨some 37, .bin .sub, [.r 36, .k (.int .i64 1)], none, [36]⟩,
 ⟨some 38, .mov, [.r 0], none, []⟩,
 ⟨some 39, .mov, [.r 7], none, []⟩,
 ⟨some 40, .bin .sub, [.r 39, .k (.int .i64 1)], none, [39]⟩,
 ⟨some 41, .ia 1, [.r 38, .r 40], none, [38, 40]⟩,
 ⟨some 42, .ld none, [.r 41], none, [41]⟩,
 ⟨some 43, .mov, [.r 0], none, []⟩,
 ⟨some 44, .mov, [.r 7], none, []⟩,
 ⟨some 45, .ia 1, [.r 43, .r 44], none, [43, 44]⟩,
 ⟨some 46, .ld none, [.r 45], none, [45]⟩,
 ⟨some 47, .ia 1, [.r 33, .r 34], none, [33, 34]⟩,
 ⟨none, .st 1, [.r 47, .r 42], none, [42, 47]⟩,
 ⟨some 48, .ia 1, [.r 35, .r 37], none, [35, 37]⟩,
 ⟨none, .st 1, [.r 48, .r 46], none, [46, 48]⟩] [])) <|
 .ops [⟨some 31, .mov, [.r 7], none, [7]⟩,
 ⟨some 32, .bin .sub, [.r 31, .k (.int .i64 1)], none, [31]⟩,
 ⟨some 7, .mov, [.r 32], none, [32]⟩]
def m78_1 : MCode := .seq (.seq (.ops [⟨some 10, .mov, [.r 6], none, []⟩,
 ⟨some 11, .mov, [.r 2], none, []⟩,
 ⟨some 12, .bin .lss, [.r 10, .r 11], none, [10, 11]⟩]) <|
 .cond (.r 12)
 (.skip)
 (.exit 0)) <|
 .seq (.block 1 (.seq (.ops [⟨some 15, .mov, [.r 6], none, [12]⟩,
 ⟨some 7, .mov, [.r 15], none, [15]⟩]) <|
 .block 2 (.loop m78_0))) <|
 .ops [⟨some 13, .mov, [.r 6], none, [6, 7, 30]⟩,
 ⟨some 14, .bin .add, [.r 13, .k (.int .i64 1)], none, [13]⟩,
 ⟨some 6, .mov, [.r 14], none, [14]⟩]
def m78 : MFn := ⟨[], .seq (.ops [⟨some 8, .mov, [.r 1], none, []⟩,
 ⟨some 9, .bin .add, [.r 8, .k (.int .i64 1)], none, [8]⟩,
 ⟨some 6, .mov, [.r 9], none, [9]⟩]) <|
.block 0 (.loop m78_1)⟩
theorem c78 : cFn Try.prog 78 = some m78.bare := by kernel_rfl

/-- 'cmp.Less[int]' -/
def m84 : MFn := ⟨[.tmp 4], .seq (.ops [⟨some 4, .mov, [.k (.bool false)], none, [4]⟩]) <|
.seq (.ops [⟨some 5, .mov, [.r 0], none, []⟩,
 ⟨some 6, .call 98, [.r 5], none, [5]⟩,
 ⟨some 7, .mov, [.r 6], none, [6]⟩,
 ⟨some 8, .mov, [.r 1], (some (7, true)), []⟩,
 ⟨some 9, .call 98, [.r 8], (some (7, true)), [8]⟩,
 ⟨some 10, .un .not, [.r 9], (some (7, true)), [9]⟩,
 ⟨some 11, .pick, [.r 7, .r 10, .k (.bool false)], none, [7, 10]⟩,
 ⟨some 12, .mov, [.r 11], none, [11]⟩,
 ⟨some 13, .mov, [.r 0], (some (12, false)), [0]⟩,
 ⟨some 14, .mov, [.r 1], (some (12, false)), [1]⟩,
 ⟨some 15, .bin .lss, [.r 13, .r 14], (some (12, false)), [13, 14]⟩,
 ⟨some 16, .pick, [.r 12, .k (.bool true), .r 15], none, [12, 15]⟩,
 ⟨some 4, .mov, [.r 16], none, [16]⟩]) <|
.ret⟩
theorem c84 : cFn Try.prog 84 = some m84.bare := by kernel_rfl

/-- 'math/bits.Len32' -/
def m87 : MFn := ⟨[.tmp 2], .seq (.ops [⟨some 2, .mov, [.k (.int .i64 0)], none, []⟩]) <|
.seq (.seq (.ops [⟨some 3, .mov, [.r 0], none, []⟩,
 ⟨some 4, .bin .geq, [.r 3, .k (.int .u32 65536)], none, [3]⟩]) <|
.cond (.r 4)
 (.seq (.ops [⟨some 5, .mov, [.r 0], none, [0, 2, 4]⟩,
 ⟨some 6, .bin .shr, [.r 5, .k (.int .u64 16)], none, [5]⟩,
 ⟨some 0, .mov, [.r 6], none, [6]⟩]) <|
 .ops [⟨some 2, .mov, [.k (.int .i64 16)], none, []⟩])
 (.skip)) <|
.seq (.seq (.ops [⟨some 7, .mov, [.r 0], none, [4]⟩,
 ⟨some 8, .bin .geq, [.r 7, .k (.int .u32 256)], none, [7]⟩]) <|
.cond (.r 8)
 (.seq (.ops [⟨some 9, .mov, [.r 0], none, [0, 8]⟩,
 ⟨some 10, .bin .shr, [.r 9, .k (.int .u64 8)], none, [9]⟩,
 ⟨some 0, .mov, [.r 10], none, [10]⟩]) <|
 .ops [⟨some 11, .mov, [.r 2], none, [2]⟩,
 ⟨some 12, .bin .add, [.r 11, .k (.int .i64 8)], none, [11]⟩,
 ⟨some 2, .mov, [.r 12], none, [12]⟩])
 (.skip)) <|
.seq (.ops [⟨some 13, .mov, [.r 2], none, [2, 8]⟩,
 ⟨some 14, .mov, [.r 0], none, [0]⟩,
 ⟨some 15, .conv .u8, [.r 14], none, [14]⟩,
 ⟨some 16, .idxs, [.k (.string ⟨#[0, 1, 2, 2, 3, 3, 3, 3, 4, 4, 4, 4, 4, 4, 4, 4, 5, 5, 5, 5, 5, 5, 5, 5, 5, 5, 5, 5, 5, 5, 5, 5, 6, 6, 6, 6, 6, 6, 6, 6, 6, 6, 6, 6, 6, 6, 6, 6, 6, 6, 6, 6, 6, 6, 6, 6, 6, 6, 6, 6, 6, 6, 6, 6, 7, 7, 7, 7, 7, 7, 7, 7, 7, 7, 7, 7, 7, 7, 7, 7, 7, 7, 7, 7, 7, 7, 7, 7, 7, 7, 7, 7, 7, 7, 7, 7, 7, 7, 7, 7, 7, 7, 7, 7, 7, 7, 7, 7, 7, 7, 7, 7, 7, 7, 7, 7, 7, 7, 7, 7, 7, 7, 7, 7, 7, 7, 7, 7, 8, 8, 8, 8, 8, 8, 8, 8, 8, 8, 8, 8, 8, 8, 8, 8, 8, 8, 8, 8, 8, 8, 8, 8, 8, 8, 8, 8, 8, 8, 8, 8, 8, 8, 8, 8, 8, 8, 8, 8, 8, 8, 8, 8, 8, 8, 8, 8, 8, 8, 8, 8, 8, 8, 8, 8, 8, 8, 8, 8, 8, 8, 8, 8, 8, 8, 8, 8, 8, 8, 8, 8, 8, 8, 8, 8, 8, 8, 8, 8, 8, 8, 8, 8, 8, 8, 8, 8, 8, 8, 8, 8, 8, 8, 8, 8, 8, 8, 8, 8, 8, 8, 8, 8, 8, 8, 8, 8, 8, 8, 8, 8, 8, 8, 8, 8, 8, 8, 8, 8, 8, 8, 8, 8, 8, 8, 8, 8]⟩), .r 15], none, [15]⟩,
 ⟨some 17, .conv .i64, [.r 16], none, [16]⟩,
 ⟨some 18, .bin .add, [.r 13, .r 17], none, [13, 17]⟩,
 ⟨some 2, .mov, [.r 18], none, [18]⟩]) <|
.ret⟩
theorem c87 : cFn Try.prog 87 = some m87.bare := by kernel_rfl

/-- 'math/bits.Len64' -/
def m88 : MFn := ⟨[.tmp 2], .seq (.ops [⟨some 2, .mov, [.k (.int .i64 0)], none, []⟩]) <|
.seq (.seq (.ops [⟨some 3, .mov, [.r 0], none, []⟩,
 ⟨some 4, .bin .geq, [.r 3, .k (.int .u64 4294967296)], none, [3]⟩]) <|
.cond (.r 4)
 (.seq (.ops [⟨some 5, .mov, [.r 0], none, [0, 2, 4]⟩,
 ⟨some 6, .bin .shr, [.r 5, .k (.int .u64 32)], none, [5]⟩,
 ⟨some 0, .mov, [.r 6], none, [6]⟩]) <|
 .ops [⟨some 2, .mov, [.k (.int .i64 32)], none, []⟩])
 (.skip)) <|
.seq (.seq (.ops [⟨some 7, .mov, [.r 0], none, [4]⟩,
 ⟨some 8, .bin .geq, [.r 7, .k (.int .u64 65536)], none, [7]⟩]) <|
.cond (.r 8)
 (.seq (.ops [⟨some 9, .mov, [.r 0], none, [0, 8]⟩,
 ⟨some 10, .bin .shr, [.r 9, .k (.int .u64 16)], none, [9]⟩,
 ⟨some 0, .mov, [.r 10], none, [10]⟩]) <|
 .ops [⟨some 11, .mov, [.r 2], none, [2]⟩,
 ⟨some 12, .bin .add, [.r 11, .k (.int .i64 16)], none, [11]⟩,
 ⟨some 2, .mov, [.r 12], none, [12]⟩])
 (.skip)) <|
.seq (.seq (.ops [⟨some 13, .mov, [.r 0], none, [8]⟩,
 ⟨some 14, .bin .geq, [.r 13, .k (.int .u64 256)], none, [13]⟩]) <|
.cond (.r 14)
 (.seq (.ops [⟨some 15, .mov, [.r 0], none, [0, 14]⟩,
 ⟨some 16, .bin .shr, [.r 15, .k (.int .u64 8)], none, [15]⟩,
 ⟨some 0, .mov, [.r 16], none, [16]⟩]) <|
 .ops [⟨some 17, .mov, [.r 2], none, [2]⟩,
 ⟨some 18, .bin .add, [.r 17, .k (.int .i64 8)], none, [17]⟩,
 ⟨some 2, .mov, [.r 18], none, [18]⟩])
 (.skip)) <|
.seq (.ops [⟨some 19, .mov, [.r 2], none, [2, 14]⟩,
 ⟨some 20, .mov, [.r 0], none, [0]⟩,
 ⟨some 21, .conv .u8, [.r 20], none, [20]⟩,
 ⟨some 22, .idxs, [.k (.string ⟨#[0, 1, 2, 2, 3, 3, 3, 3, 4, 4, 4, 4, 4, 4, 4, 4, 5, 5, 5, 5, 5, 5, 5, 5, 5, 5, 5, 5, 5, 5, 5, 5, 6, 6, 6, 6, 6, 6, 6, 6, 6, 6, 6, 6, 6, 6, 6, 6, 6, 6, 6, 6, 6, 6, 6, 6, 6, 6, 6, 6, 6, 6, 6, 6, 7, 7, 7, 7, 7, 7, 7, 7, 7, 7, 7, 7, 7, 7, 7, 7, 7, 7, 7, 7, 7, 7, 7, 7, 7, 7, 7, 7, 7, 7, 7, 7, 7, 7, 7, 7, 7, 7, 7, 7, 7, 7, 7, 7, 7, 7, 7, 7, 7, 7, 7, 7, 7, 7, 7, 7, 7, 7, 7, 7, 7, 7, 7, 7, 8, 8, 8, 8, 8, 8, 8, 8, 8, 8, 8, 8, 8, 8, 8, 8, 8, 8, 8, 8, 8, 8, 8, 8, 8, 8, 8, 8, 8, 8, 8, 8, 8, 8, 8, 8, 8, 8, 8, 8, 8, 8, 8, 8, 8, 8, 8, 8, 8, 8, 8, 8, 8, 8, 8, 8, 8, 8, 8, 8, 8, 8, 8, 8, 8, 8, 8, 8, 8, 8, 8, 8, 8, 8, 8, 8, 8, 8, 8, 8, 8, 8, 8, 8, 8, 8, 8, 8, 8, 8, 8, 8, 8, 8, 8, 8, 8, 8, 8, 8, 8, 8, 8, 8, 8, 8, 8, 8, 8, 8, 8, 8, 8, 8, 8, 8, 8, 8, 8, 8, 8, 8, 8, 8, 8, 8, 8, 8]⟩), .r 21], none, [21]⟩,
 ⟨some 23, .conv .i64, [.r 22], none, [22]⟩,
 ⟨some 24, .bin .add, [.r 19, .r 23], none, [19, 23]⟩,
 ⟨some 2, .mov, [.r 24], none, [24]⟩]) <|
.ret⟩
theorem c88 : cFn Try.prog 88 = some m88.bare := by kernel_rfl

/-- 'slices.IndexFunc[[]int,int]' -/
def m89_0 : MCode := .seq (.ops [⟨some 9, .bin .lss, [.r 8, .r 7], none, []⟩]) <|
 .seq (.cond (.r 9)
 (.skip)
 (.exit 0)) <|
 .seq (.block 1 (.seq (.ops [⟨some 10, .mov, [.r 8], none, [9]⟩,
 ⟨some 5, .mov, [.r 10], none, [10]⟩]) <|
 .seq (.ops [⟨some 11, .mov, [.r 1], none, []⟩,
 ⟨some 12, .mov, [.r 0], none, []⟩,
 ⟨some 13, .mov, [.r 5], none, []⟩,
 ⟨some 14, .ia 1, [.r 12, .r 13], none, [12, 13]⟩,
 ⟨some 15, .ld none, [.r 14], none, [14]⟩,
 ⟨some 16, .callv, [.r 11, .r 15], none, [11, 15]⟩]) <|
 .cond (.r 16)
 (.seq (.ops [⟨some 17, .mov, [.r 5], none, [0, 1, 5, 7, 8, 16]⟩,
 ⟨some 4, .mov, [.r 17], none, [17]⟩]) <|
 .ret)
 (.skip))) <|
 .ops [⟨some 18, .bin .add, [.r 8, .k (.int .i64 1)], none, [5, 8, 16]⟩,
 ⟨some 8, .mov, [.r 18], none, [18]⟩]
def m89 : MFn := ⟨[.tmp 4], .seq (.ops [⟨some 4, .mov, [.k (.int .i64 0)], none, [4]⟩]) <|
.seq (.seq (.ops [⟨some 6, .mov, [.r 0], none, []⟩,
 ⟨some 7, .len, [.r 6], none, [6]⟩,
 ⟨some 8, .mov, [.k (.int .i64 0)], none, []⟩]) <|
.block 0 (.loop m89_0)) <|
.seq (.ops [⟨some 4, .mov, [.k (.int .i64 (-1))], none, [0, 1, 7, 8, 9]⟩]) <|
.ret⟩
theorem c89 : cFn Try.prog 89 = some m89.bare := by kernel_rfl

/-- 'slices.IndexFunc[[]swingbridge/api.Task,swingbridge/api.Task]' -/
def m90_0 : MCode := .seq (.ops [⟨some 9, .bin .lss, [.r 8, .r 7], none, []⟩]) <|
 .seq (.cond (.r 9)
 (.skip)
 (.exit 0)) <|
 .seq (.block 1 (.seq (.ops [⟨some 10, .mov, [.r 8], none, [9]⟩,
 ⟨some 5, .mov, [.r 10], none, [10]⟩]) <|
 .seq (.ops [⟨some 11, .mov, [.r 1], none, []⟩,
 ⟨some 12, .mov, [.r 0], none, []⟩,
 ⟨some 13, .mov, [.r 5], none, []⟩,
 ⟨some 14, .ia 6, [.r 12, .r 13], none, [12, 13]⟩,
 ⟨some 15, .ld (some 6), [.r 14], none, [14]⟩,
 ⟨some 16, .callv, [.r 11, .r 15], none, [11, 15]⟩]) <|
 .cond (.r 16)
 (.seq (.ops [⟨some 17, .mov, [.r 5], none, [0, 1, 5, 7, 8, 16]⟩,
 ⟨some 4, .mov, [.r 17], none, [17]⟩]) <|
 .ret)
 (.skip))) <|
 .ops [⟨some 18, .bin .add, [.r 8, .k (.int .i64 1)], none, [5, 8, 16]⟩,
 ⟨some 8, .mov, [.r 18], none, [18]⟩]
def m90 : MFn := ⟨[.tmp 4], .seq (.ops [⟨some 4, .mov, [.k (.int .i64 0)], none, [4]⟩]) <|
.seq (.seq (.ops [⟨some 6, .mov, [.r 0], none, []⟩,
 ⟨some 7, .len, [.r 6], none, [6]⟩,
 ⟨some 8, .mov, [.k (.int .i64 0)], none, []⟩]) <|
.block 0 (.loop m90_0)) <|
.seq (.ops [⟨some 4, .mov, [.k (.int .i64 (-1))], none, [0, 1, 7, 8, 9]⟩]) <|
.ret⟩
theorem c90 : cFn Try.prog 90 = some m90.bare := by kernel_rfl

/-- 'slices.rotateRight[swingbridge/rank.entry]' -/
def m92 : MFn := ⟨[], .ops [⟨some 4, .mov, [.r 0], none, []⟩,
 ⟨some 5, .mov, [.r 0], none, [0]⟩,
 ⟨some 6, .len, [.r 5], none, [5]⟩,
 ⟨some 7, .mov, [.r 1], none, [1]⟩,
 ⟨some 8, .bin .sub, [.r 6, .r 7], none, [6, 7]⟩,
 ⟨some 9, .call 99, [.r 4, .r 8], none, [4, 8, 9]⟩]⟩
theorem c92 : cFn Try.prog 92 = some m92.bare := by kernel_rfl

/-- 'cmp.isNaN[int]' -/
def m98 : MFn := ⟨[.tmp 2], .seq (.ops [⟨some 2, .mov, [.k (.bool false)], none, [2]⟩]) <|
.seq (.ops [⟨some 3, .mov, [.r 0], none, []⟩,
 ⟨some 4, .mov, [.r 0], none, [0]⟩,
 ⟨some 5, .bin .neq, [.r 3, .r 4], none, [3, 4]⟩,
 ⟨some 2, .mov, [.r 5], none, [5]⟩]) <|
.ret⟩
theorem c98 : cFn Try.prog 98 = some m98.bare := by kernel_rfl

/-- 'slices.rotateLeft[swingbridge/rank.entry]' -/
def m99 : MFn := ⟨[], .seq (.ops [⟨some 4, .mov, [.r 0], none, []⟩,
 ⟨some 5, .mov, [.r 1], none, []⟩,
 ⟨some 6, .sl 2 false true false, [.r 4, .r 5], none, [4, 5]⟩,
 ⟨some 7, .call 101, [.r 6], none, [6, 7]⟩]) <|
.seq (.ops [⟨some 8, .mov, [.r 0], none, []⟩,
 ⟨some 9, .mov, [.r 1], none, [1]⟩,
 ⟨some 10, .sl 2 true false false, [.r 8, .r 9], none, [8, 9]⟩,
 ⟨some 11, .call 101, [.r 10], none, [10, 11]⟩]) <|
.ops [⟨some 12, .mov, [.r 0], none, [0]⟩,
 ⟨some 13, .call 101, [.r 12], none, [12, 13]⟩]⟩
theorem c99 : cFn Try.prog 99 = some m99.bare := by kernel_rfl

/-- 'slices.Reverse[[]swingbridge/rank.entry,swingbridge/rank.entry]' -/
def m101_0 : MCode := .seq (.seq (.ops [⟨some 7, .mov, [.r 2], none, []⟩,
 ⟨some 8, .mov, [.r 3], none, []⟩,
 ⟨some 9, .bin .lss, [.r 7, .r 8], none, [7, 8]⟩]) <|
 .cond (.r 9)
 (.skip)
 (.exit 0)) <|
 .seq (.block 1 (.draw [⟨some 14, .mov, [.r 0], none, [9]⟩,
 ⟨some 15, .mov, [.r 2], none, []⟩,
 ⟨some 16, .mov, [.r 0], none, []⟩,
 ⟨some 17, .mov, [.r 3], none, []⟩,
 ⟨some 18, .mov, [.r 0], none, []⟩,
 ⟨some 19, .mov, [.r 3], none, []⟩,
 ⟨some 20, .ia 2, [.r 18, .r 19], none, [18, 19]⟩,
 ⟨some 21, .ld (some 2), [.r 20], none, [20]⟩,
 ⟨some 22, .mov, [.r 0], none, []⟩,
 ⟨some 23, .mov, [.r 2], none, []⟩,
 ⟨some 24, .ia 2, [.r 22, .r 23], none, [22, 23]⟩,
 ⟨some 25, .ld (some 2), [.r 24], none, [24]⟩,
 ⟨some 26, .ia 2, [.r 14, .r 15], none, [14, 15]⟩,
 ⟨none, .st 2, [.r 26, .r 21], none, [21, 26]⟩,
 ⟨some 27, .ia 2, [.r 16, .r 17], none, [16, 17]⟩,
 ⟨none, .st 2, [.r 27, .r 25], none, [25, 27]⟩] [])) <|
 .ops [⟨some 10, .mov, [.r 2], none, [2]⟩,
 ⟨some 11, .bin .add, [.r 10, .k (.int .i64 1)], none, [10]⟩,
 ⟨some 12, .mov, [.r 3], none, [3]⟩,
 ⟨some 13, .bin .sub, [.r 12, .k (.int .i64 1)], none, [12]⟩,
 ⟨some 2, .mov, [.r 11], none, [11]⟩,
 ⟨some 3, .mov, [.r 13], none, [13]⟩]
def m101 : MFn := ⟨[], .seq (.ops [⟨some 4, .mov, [.r 0], none, []⟩,
 ⟨some 5, .len, [.r 4], none, [4]⟩,
 ⟨some 6, .bin .sub, [.r 5, .k (.int .i64 1)], none, [5]⟩,
 ⟨some 2, .mov, [.k (.int .i64 0)], none, []⟩,
 ⟨some 3, .mov, [.r 6], none, [6]⟩]) <|
.block 0 (.loop m101_0)⟩
theorem c101 : cFn Try.prog 101 = some m101.bare := by kernel_rfl

def mpL (f : FuncId) : Option MDef := match f with
 | 3 => some (.code m3)
 | 4 => some (.code m4)
 | 5 => some (.code m5)
 | 6 => some (.code m6)
 | 7 => some (.code m7)
 | 8 => some (.code m8)
 | 9 => some (.code m9)
 | 10 => some (.code m10)
 | 11 => some (.code m11)
 | 12 => some (.code m12)
 | 13 => some (.code m13)
 | 14 => some (.code m14)
 | 15 => some (.code m15)
 | 16 => some (.code m16)
 | 17 => some (.code m17)
 | 18 => some (.code m18)
 | 19 => some (.code m19)
 | 20 => some (.code m20)
 | 21 => some (.code m21)
 | 22 => some (.code m22)
 | 23 => some (.code m23)
 | 24 => some (.code m24)
 | 25 => some (.code m25)
 | 26 => some (.code m26)
 | 27 => some (.code m27)
 | 28 => some (.code m28)
 | 29 => some (.code m29)
 | 30 => some (.code m30)
 | 31 => some (.code m31)
 | 32 => some (.code m32)
 | 33 => some (.code m33)
 | 34 => some (.code m34)
 | 35 => some (.code m35)
 | 36 => some (.code m36)
 | 37 => some (.code m37)
 | 38 => some (.code m38)
 | 39 => some (.code m39)
 | 40 => some (.code m40)
 | 41 => some (.code m41)
 | 42 => some (.code m42)
 | 43 => some (.code m43)
 | 44 => some (.code m44)
 | 45 => some (.code m45)
 | 46 => some (.code m46)
 | 47 => some (.code m47)
 | 48 => some (.code m48)
 | 49 => some (.code m49)
 | 50 => some (.code m50)
 | 51 => some (.code m51)
 | 52 => some (.code m52)
 | 53 => some (.code m53)
 | 54 => some (.code m54)
 | 55 => some (.code m55)
 | 56 => some (.code m56)
 | 57 => some (.code m57)
 | 58 => some (.code m58)
 | 59 => some (.code m59)
 | 60 => some (.code m60)
 | 61 => some (.code m61)
 | 62 => some (.code m62)
 | 63 => some (.code m63)
 | 64 => some (.code m64)
 | 65 => some (.code m65)
 | 66 => some (.code m66)
 | 67 => some (.code m67)
 | 68 => some (.code m68)
 | 69 => some (.code m69)
 | 70 => some (.code m70)
 | 71 => some (.code m71)
 | 72 => some (.code m72)
 | 73 => some (.code m73)
 | 74 => some (.code m74)
 | 75 => some (.code m75)
 | 76 => some (.code m76)
 | 77 => some (.code m77)
 | 78 => some (.code m78)
 | 84 => some (.code m84)
 | 87 => some (.code m87)
 | 88 => some (.code m88)
 | 89 => some (.code m89)
 | 90 => some (.code m90)
 | 92 => some (.code m92)
 | 98 => some (.code m98)
 | 99 => some (.code m99)
 | 101 => some (.code m101)
 | _ => none
theorem mpL_code : ∀ f fn, mpL f = some (.code fn) → cFn Try.prog f = some fn.bare := by
 intro f fn h
 unfold mpL at h
 split at h
 · cases h; exact c3
 · cases h; exact c4
 · cases h; exact c5
 · cases h; exact c6
 · cases h; exact c7
 · cases h; exact c8
 · cases h; exact c9
 · cases h; exact c10
 · cases h; exact c11
 · cases h; exact c12
 · cases h; exact c13
 · cases h; exact c14
 · cases h; exact c15
 · cases h; exact c16
 · cases h; exact c17
 · cases h; exact c18
 · cases h; exact c19
 · cases h; exact c20
 · cases h; exact c21
 · cases h; exact c22
 · cases h; exact c23
 · cases h; exact c24
 · cases h; exact c25
 · cases h; exact c26
 · cases h; exact c27
 · cases h; exact c28
 · cases h; exact c29
 · cases h; exact c30
 · cases h; exact c31
 · cases h; exact c32
 · cases h; exact c33
 · cases h; exact c34
 · cases h; exact c35
 · cases h; exact c36
 · cases h; exact c37
 · cases h; exact c38
 · cases h; exact c39
 · cases h; exact c40
 · cases h; exact c41
 · cases h; exact c42
 · cases h; exact c43
 · cases h; exact c44
 · cases h; exact c45
 · cases h; exact c46
 · cases h; exact c47
 · cases h; exact c48
 · cases h; exact c49
 · cases h; exact c50
 · cases h; exact c51
 · cases h; exact c52
 · cases h; exact c53
 · cases h; exact c54
 · cases h; exact c55
 · cases h; exact c56
 · cases h; exact c57
 · cases h; exact c58
 · cases h; exact c59
 · cases h; exact c60
 · cases h; exact c61
 · cases h; exact c62
 · cases h; exact c63
 · cases h; exact c64
 · cases h; exact c65
 · cases h; exact c66
 · cases h; exact c67
 · cases h; exact c68
 · cases h; exact c69
 · cases h; exact c70
 · cases h; exact c71
 · cases h; exact c72
 · cases h; exact c73
 · cases h; exact c74
 · cases h; exact c75
 · cases h; exact c76
 · cases h; exact c77
 · cases h; exact c78
 · cases h; exact c84
 · cases h; exact c87
 · cases h; exact c88
 · cases h; exact c89
 · cases h; exact c90
 · cases h; exact c92
 · cases h; exact c98
 · cases h; exact c99
 · cases h; exact c101
 · cases h
theorem mpL_ok : MapOk Try.prog mpL := ⟨by kernel_rfl, mpL_code, fun f s h => by
 unfold mpL at h
 split at h <;> cases h⟩
end Go.Mod

/- The model's code of functions of the program, and that it is the program's. Printed by wip/tool. -/
import Derived.Test.YtpdkmcnoidbjoaaProg
import Derived.Test.YtpdkmcnoidbjoaaGrC

namespace Go.Mod
open Go.Proofs

/-- 'swingbridge/swingbridgelaw26.DelayTells' -/
def m3 : MFn := ⟨[.tmp 8], .seq (.ops [⟨(some 4), .box, [.r 0], none, [0]⟩,
  ⟨(some 5), .box, [.r 1], none, [1]⟩,
  ⟨(some 6), .box, [.r 2], none, [2]⟩,
  ⟨(some 7), .box, [.r 3], none, [3]⟩,
  ⟨(some 8), .mov, [.k (.bool false)], none, [8]⟩]) <|
.seq (.seq (.ops [⟨(some 9), .call 17, [], none, []⟩,
  ⟨(some 10), .un .not, [.r 9], none, [9]⟩]) <|
.cond (.r 10)
  (.seq (.ops [⟨(some 8), .mov, [.k (.bool false)], none, [4, 5, 6, 7, 10]⟩]) <|
  .ret)
  (.skip)) <|
.seq (.seq (.ops [⟨(some 11), .ld (some 4), [.r 4], none, [10]⟩,
  ⟨(some 12), .call 18, [.r 11], none, [11]⟩,
  ⟨(some 13), .un .not, [.r 12], none, [12]⟩,
  ⟨(some 14), .mov, [.r 13], none, [13]⟩,
  ⟨(some 15), .ld (some 4), [.r 5], (some (14, false)), []⟩,
  ⟨(some 16), .call 19, [.r 15], (some (14, false)), [15]⟩,
  ⟨(some 17), .un .not, [.r 16], (some (14, false)), [16]⟩,
  ⟨(some 18), .pick, [.r 14, .k (.bool true), .r 17], none, [14, 17]⟩]) <|
.cond (.r 18)
  (.seq (.ops [⟨(some 8), .mov, [.k (.bool true)], none, [4, 5, 6, 7, 18]⟩]) <|
  .ret)
  (.skip)) <|
.seq (.draw [⟨(some 19), .ld (some 5), [.r 6], none, [18]⟩,
  ⟨(some 20), .call 20, [.r 19], none, [19]⟩,
  ⟨(some 21), .fa 4, [.r 6], none, []⟩,
  ⟨(some 22), .ld none, [.r 21], none, [21]⟩,
  ⟨(some 23), .fa 2, [.r 6], none, []⟩,
  ⟨(some 24), .ld none, [.r 23], none, [23]⟩,
  ⟨(some 25), .bin .sub, [.r 22, .r 24], none, [22, 24]⟩,
  ⟨(some 26), .bin .eql, [.r 20, .r 25], none, [20, 25]⟩,
  ⟨(some 27), .mov, [.r 26], none, [26]⟩,
  ⟨(some 28), .ld (some 3), [.r 7], (some (27, true)), []⟩,
  ⟨(some 29), .call 21, [.r 28], (some (27, true)), [28]⟩,
  ⟨(some 30), .fa 2, [.r 7], (some (27, true)), []⟩,
  ⟨(some 31), .ld none, [.r 30], (some (27, true)), [30]⟩,
  ⟨(some 32), .fa 1, [.r 7], (some (27, true)), []⟩,
  ⟨(some 33), .ld none, [.r 32], (some (27, true)), [32]⟩,
  ⟨(some 34), .bin .sub, [.r 31, .r 33], (some (27, true)), [31, 33]⟩,
  ⟨(some 35), .bin .eql, [.r 29, .r 34], (some (27, true)), [29, 34]⟩,
  ⟨(some 36), .pick, [.r 27, .r 35, .k (.bool false)], none, [27, 35]⟩,
  ⟨(some 37), .mov, [.r 36], none, [36]⟩,
  ⟨(some 38), .ld (some 4), [.r 4], (some (37, true)), []⟩,
  ⟨(some 39), .ld (some 4), [.r 5], (some (37, true)), []⟩,
  ⟨(some 40), .ld (some 5), [.r 6], (some (37, true)), []⟩,
  ⟨(some 41), .call 22, [.r 38, .r 39, .r 40], (some (37, true)), [38, 39, 40]⟩,
  ⟨(some 42), .ld (some 4), [.r 4], (some (37, true)), []⟩,
  ⟨(some 43), .ld (some 4), [.r 5], (some (37, true)), []⟩,
  ⟨(some 44), .ld (some 5), [.r 6], (some (37, true)), [6]⟩,
  ⟨(some 45), .call 23, [.r 42, .r 43, .r 44], (some (37, true)), [42, 43, 44]⟩,
  ⟨(some 46), .bin .eql, [.r 41, .r 45], (some (37, true)), [41, 45]⟩,
  ⟨(some 47), .pick, [.r 37, .r 46, .k (.bool false)], none, [37, 46]⟩,
  ⟨(some 48), .mov, [.r 47], none, [47]⟩,
  ⟨(some 49), .ld (some 4), [.r 4], (some (48, true)), []⟩,
  ⟨(some 50), .ld (some 4), [.r 5], (some (48, true)), []⟩,
  ⟨(some 51), .ld (some 3), [.r 7], (some (48, true)), []⟩,
  ⟨(some 52), .call 24, [.r 49, .r 50, .r 51], (some (48, true)), [49, 50, 51]⟩,
  ⟨(some 53), .ld (some 4), [.r 4], (some (48, true)), [4]⟩,
  ⟨(some 54), .ld (some 4), [.r 5], (some (48, true)), [5]⟩,
  ⟨(some 55), .ld (some 3), [.r 7], (some (48, true)), [7]⟩,
  ⟨(some 56), .call 25, [.r 53, .r 54, .r 55], (some (48, true)), [53, 54, 55]⟩,
  ⟨(some 57), .bin .eql, [.r 52, .r 56], (some (48, true)), [52, 56]⟩,
  ⟨(some 58), .pick, [.r 48, .r 57, .k (.bool false)], none, [48, 57]⟩,
  ⟨(some 8), .mov, [.r 58], none, [58]⟩] [(3, 1), (5, 1), (12, 10), (14, 10), (23, 22), (24, 22), (25, 22), (34, 33), (35, 33), (36, 33)]) <|
.ret⟩
theorem c3 : cFn Try.prog 3 = some m3.bare := by kernel_rfl

/-- 'swingbridge/swingbridgelaw26.DelayShapes' -/
def m4 : MFn := ⟨[.tmp 12], .seq (.ops [⟨(some 12), .mov, [.k (.bool false)], none, [12]⟩]) <|
.seq (.seq (.ops [⟨(some 20), .call 17, [], none, []⟩,
  ⟨(some 21), .un .not, [.r 20], none, [20]⟩]) <|
.cond (.r 21)
  (.seq (.ops [⟨(some 12), .mov, [.k (.bool false)], none, [0, 1, 2, 3, 4, 5, 21]⟩]) <|
  .ret)
  (.skip)) <|
.seq (.ops [⟨(some 22), .call 26, [.k (.int .i64 1), .k (.int .i64 1), .k (.int .i64 9), .k (.int .i64 1), .k (.int .i64 9)], none, [21]⟩,
  ⟨(some 13), .new 0 [.int .i64 0, .slice none 0 0, .slice none 0 0, .slice none 0 0], [], none, []⟩,
  ⟨none, .st 4, [.r 13, .r 22], none, [22]⟩]) <|
.seq (.ops [⟨(some 23), .bslice 1 2 [.int .i64 0] [(0, 1), (1, 1)], [.k (.int .i64 0), .k (.int .i64 0)], none, []⟩,
  ⟨(some 24), .fa 2, [.r 13], none, []⟩,
  ⟨none, .st 1, [.r 24, .r 23], none, [23, 24]⟩]) <|
.seq (.draw [⟨(some 25), .fa 3, [.r 13], none, []⟩,
  ⟨(some 26), .ld none, [.r 25], none, [25]⟩,
  ⟨(some 27), .fa 3, [.r 13], none, []⟩,
  ⟨(some 28), .ld none, [.r 27], none, [27]⟩,
  ⟨(some 29), .ia 6, [.r 28, .k (.int .i64 1)], none, [28]⟩,
  ⟨(some 30), .fa 5, [.r 29], none, [29]⟩,
  ⟨(some 31), .ld none, [.r 30], none, [30]⟩,
  ⟨(some 32), .app 3 24, [.k (.slice none 0 0), .r 31], none, [31]⟩,
  ⟨(some 33), .build [.int .i64 0, .int .i64 0, .int .i64 0] [(0, 1), (1, 1), (2, 1)], [.k (.int .i64 3), .k (.int .i64 9), .k (.int .i64 1)], none, []⟩,
  ⟨(some 34), .bslice 3 1 [.int .i64 0, .int .i64 0, .int .i64 0] [(0, 3)], [.r 33], none, [33]⟩,
  ⟨(some 35), .app 3 24, [.r 32, .r 34], none, [32, 34]⟩,
  ⟨(some 36), .ia 6, [.r 26, .k (.int .i64 1)], none, [26]⟩,
  ⟨(some 37), .fa 5, [.r 36], none, [36]⟩,
  ⟨none, .st 1, [.r 37, .r 35], none, [35, 37]⟩] [(1, 7), (1, 10), (9, 7)]) <|
.seq (.ops [⟨(some 38), .mov, [.r 0], none, [0]⟩,
  ⟨(some 39), .bin .rem, [.r 38, .k (.int .u8 50)], none, [38]⟩,
  ⟨(some 40), .conv .i64, [.r 39], none, [39]⟩,
  ⟨(some 14), .mov, [.r 40], none, [40]⟩]) <|
.seq (.ops [⟨(some 41), .mov, [.r 14], none, []⟩,
  ⟨(some 42), .mov, [.r 1], none, [1]⟩,
  ⟨(some 43), .bin .rem, [.r 42, .k (.int .u8 20)], none, [42]⟩,
  ⟨(some 44), .conv .i64, [.r 43], none, [43]⟩,
  ⟨(some 45), .bin .add, [.r 41, .r 44], none, [41, 44]⟩,
  ⟨(some 15), .mov, [.r 45], none, [45]⟩]) <|
.seq (.ops [⟨(some 46), .mov, [.r 14], none, []⟩,
  ⟨(some 47), .mov, [.r 15], none, []⟩,
  ⟨(some 48), .mov, [.r 15], none, []⟩,
  ⟨(some 49), .bin .add, [.r 48, .k (.int .i64 5)], none, [48]⟩,
  ⟨(some 50), .build [.int .i64 0, .int .i64 0, .int .i64 0, .int .i64 0, .int .i64 0] [(1, 1), (2, 1), (3, 1), (4, 1)], [.k (.int .i64 1), .r 46, .r 47, .r 49], none, [46, 47, 49]⟩,
  ⟨(some 16), .new 0 [.int .i64 0, .int .i64 0, .int .i64 0, .int .i64 0, .int .i64 0], [], none, []⟩,
  ⟨none, .st 5, [.r 16, .r 50], none, [50]⟩]) <|
.seq (.ops [⟨(some 51), .mov, [.r 2], none, [2]⟩,
  ⟨(some 52), .bin .rem, [.r 51, .k (.int .u8 80)], none, [51]⟩,
  ⟨(some 53), .conv .i64, [.r 52], none, [52]⟩,
  ⟨(some 54), .build [.int .i64 0, .int .i64 0, .int .i64 0, .int .i64 0, .int .i64 0] [(0, 1), (1, 1), (3, 1)], [.k (.int .i64 1), .k (.int .i64 1), .r 53], none, [53]⟩,
  ⟨(some 17), .new 0 [.int .i64 0, .int .i64 0, .int .i64 0, .int .i64 0, .int .i64 0], [], none, []⟩,
  ⟨none, .st 5, [.r 17, .r 54], none, [54]⟩]) <|
.seq (.ops [⟨(some 55), .fa 3, [.r 17], none, []⟩,
  ⟨(some 56), .ld none, [.r 55], none, [55]⟩,
  ⟨(some 57), .mov, [.r 3], none, [3]⟩,
  ⟨(some 58), .bin .rem, [.r 57, .k (.int .u8 9)], none, [57]⟩,
  ⟨(some 59), .conv .i64, [.r 58], none, [58]⟩,
  ⟨(some 60), .bin .add, [.r 56, .r 59], none, [56, 59]⟩,
  ⟨(some 61), .bin .add, [.r 60, .k (.int .i64 1)], none, [60]⟩,
  ⟨(some 62), .fa 4, [.r 17], none, []⟩,
  ⟨none, .st 1, [.r 62, .r 61], none, [61, 62]⟩]) <|
.seq (.seq (.ops [⟨(some 63), .mov, [.r 4], none, []⟩]) <|
.cond (.r 63)
  (.ops [⟨(some 64), .fa 1, [.r 17], none, [63]⟩,
    ⟨none, .st 1, [.r 64, .k (.int .i64 2)], none, [64]⟩])
  (.skip)) <|
.seq (.seq (.ops [⟨(some 65), .mov, [.r 5], none, [63]⟩]) <|
.cond (.r 65)
  (.ops [⟨(some 66), .fa 0, [.r 17], none, [65]⟩,
    ⟨none, .st 1, [.r 66, .k (.int .i64 0)], none, [66]⟩,
    ⟨(some 67), .fa 1, [.r 17], none, []⟩,
    ⟨none, .st 1, [.r 67, .k (.int .i64 1)], none, [67]⟩])
  (.skip)) <|
.seq (.ops [⟨(some 68), .fa 3, [.r 17], none, [65]⟩,
  ⟨(some 69), .ld none, [.r 68], none, [68]⟩,
  ⟨(some 70), .mov, [.r 14], none, []⟩,
  ⟨(some 71), .bin .geq, [.r 69, .r 70], none, [69, 70]⟩,
  ⟨(some 72), .mov, [.r 71], none, [71]⟩,
  ⟨(some 73), .fa 3, [.r 17], (some (72, true)), []⟩,
  ⟨(some 74), .ld none, [.r 73], (some (72, true)), [73]⟩,
  ⟨(some 75), .mov, [.r 15], (some (72, true)), [15]⟩,
  ⟨(some 76), .bin .lss, [.r 74, .r 75], (some (72, true)), [74, 75]⟩,
  ⟨(some 77), .pick, [.r 72, .r 76, .k (.bool false)], none, [72, 76]⟩,
  ⟨(some 78), .mov, [.r 77], none, [77]⟩,
  ⟨(some 79), .fa 3, [.r 17], (some (78, false)), []⟩,
  ⟨(some 80), .ld none, [.r 79], (some (78, false)), [79]⟩,
  ⟨(some 81), .mov, [.r 14], (some (78, false)), []⟩,
  ⟨(some 82), .bin .lss, [.r 80, .r 81], (some (78, false)), [80, 81]⟩,
  ⟨(some 83), .mov, [.r 82], (some (78, false)), [82]⟩,
  ⟨(some 84), .fa 4, [.r 17], (some (83, true)), []⟩,
  ⟨(some 85), .ld none, [.r 84], (some (83, true)), [84]⟩,
  ⟨(some 86), .mov, [.r 14], (some (83, true)), [14]⟩,
  ⟨(some 87), .bin .gtr, [.r 85, .r 86], (some (83, true)), [85, 86]⟩,
  ⟨(some 88), .pick, [.r 83, .r 87, .k (.bool false)], (some (78, false)), [83, 87]⟩,
  ⟨(some 89), .pick, [.r 78, .k (.bool true), .r 88], none, [78, 88]⟩,
  ⟨(some 18), .mov, [.r 89], none, [89]⟩]) <|
.seq (.ops [⟨(some 19), .mov, [.k (.int .i64 0)], none, []⟩]) <|
.seq (.seq (.ops [⟨(some 90), .mov, [.r 18], none, [18]⟩,
  ⟨(some 91), .mov, [.r 90], none, [90]⟩,
  ⟨(some 92), .mov, [.r 4], (some (91, true)), [4]⟩,
  ⟨(some 93), .un .not, [.r 92], (some (91, true)), [92]⟩,
  ⟨(some 94), .pick, [.r 91, .r 93, .k (.bool false)], none, [91, 93]⟩,
  ⟨(some 95), .mov, [.r 94], none, [94]⟩,
  ⟨(some 96), .mov, [.r 5], (some (95, true)), [5]⟩,
  ⟨(some 97), .un .not, [.r 96], (some (95, true)), [96]⟩,
  ⟨(some 98), .pick, [.r 95, .r 97, .k (.bool false)], none, [95, 97]⟩]) <|
.cond (.r 98)
  (.ops [⟨(some 19), .mov, [.k (.int .i64 1)], none, [98]⟩])
  (.skip)) <|
.seq (.ops [⟨(some 99), .ld (some 4), [.r 13], none, [13, 98]⟩,
  ⟨(some 100), .ld (some 5), [.r 17], none, [17]⟩,
  ⟨(some 101), .ld (some 5), [.r 16], none, []⟩,
  ⟨(some 102), .bslice 5 2 [.int .i64 0, .int .i64 0, .int .i64 0, .int .i64 0, .int .i64 0] [(0, 5), (5, 5)], [.r 100, .r 101], none, [100, 101]⟩,
  ⟨(some 103), .build [.int .i64 0, .slice none 0 0, .slice none 0 0, .slice none 0 0] [(0, 1), (3, 1)], [.k (.int .i64 200), .r 102], none, [102]⟩,
  ⟨(some 104), .ld (some 5), [.r 16], none, [16]⟩,
  ⟨(some 105), .call 22, [.r 99, .r 103, .r 104], none, [99, 103, 104]⟩,
  ⟨(some 106), .mov, [.r 19], none, [19]⟩,
  ⟨(some 107), .bin .eql, [.r 105, .r 106], none, [105, 106]⟩,
  ⟨(some 12), .mov, [.r 107], none, [107]⟩]) <|
.ret⟩
theorem c4 : cFn Try.prog 4 = some m4.bare := by kernel_rfl

/-- 'swingbridge/swingbridgelaw25.LegalTells' -/
def m13 : MFn := ⟨[.tmp 10], .seq (.ops [⟨(some 5), .box, [.r 0], none, [0]⟩,
  ⟨(some 6), .box, [.r 1], none, [1]⟩,
  ⟨(some 10), .mov, [.k (.bool false)], none, [10]⟩]) <|
.seq (.seq (.ops [⟨(some 15), .call 53, [], none, []⟩,
  ⟨(some 16), .un .not, [.r 15], none, [15]⟩]) <|
.cond (.r 16)
  (.seq (.ops [⟨(some 10), .mov, [.k (.bool false)], none, [2, 3, 4, 5, 6, 16]⟩]) <|
  .ret)
  (.skip)) <|
.seq (.seq (.ops [⟨(some 17), .ld (some 4), [.r 5], none, [16]⟩,
  ⟨(some 18), .call 54, [.r 17], none, [17]⟩,
  ⟨(some 19), .un .not, [.r 18], none, [18]⟩,
  ⟨(some 20), .mov, [.r 19], none, [19]⟩,
  ⟨(some 21), .ld (some 4), [.r 6], (some (20, false)), []⟩,
  ⟨(some 22), .call 55, [.r 21], (some (20, false)), [21]⟩,
  ⟨(some 23), .un .not, [.r 22], (some (20, false)), [22]⟩,
  ⟨(some 24), .pick, [.r 20, .k (.bool true), .r 23], none, [20, 23]⟩]) <|
.cond (.r 24)
  (.seq (.ops [⟨(some 10), .mov, [.k (.bool true)], none, [2, 3, 4, 5, 6, 24]⟩]) <|
  .ret)
  (.skip)) <|
.seq (.ops [⟨(some 26), .ld (some 4), [.r 6], none, [24]⟩,
  ⟨(some 27), .ld (some 4), [.r 5], none, []⟩,
  ⟨(some 28), .mov, [.r 2], none, []⟩,
  ⟨(some 29), .mov, [.r 4], none, []⟩,
  ⟨(some 30), .call 56, [.r 26, .r 27, .r 28, .r 29], none, [26, 27, 28, 29]⟩,
  ⟨(some 25), .mov, [.r 30], none, [30]⟩,
  ⟨(some 31), .extract 0, [.r 25], none, []⟩,
  ⟨(some 32), .extract 1, [.r 25], none, [25]⟩,
  ⟨(some 11), .mov, [.r 31], none, [31]⟩,
  ⟨(some 12), .mov, [.r 32], none, [32]⟩]) <|
.seq (.ops [⟨(some 34), .ld (some 4), [.r 6], none, []⟩,
  ⟨(some 35), .ld (some 4), [.r 5], none, []⟩,
  ⟨(some 36), .mov, [.r 2], none, []⟩,
  ⟨(some 37), .mov, [.r 4], none, [4]⟩,
  ⟨(some 38), .call 57, [.r 34, .r 35, .r 36, .r 37], none, [34, 35, 36, 37]⟩,
  ⟨(some 33), .mov, [.r 38], none, [38]⟩,
  ⟨(some 39), .extract 0, [.r 33], none, []⟩,
  ⟨(some 40), .extract 1, [.r 33], none, [33]⟩,
  ⟨(some 13), .mov, [.r 39], none, [39]⟩,
  ⟨(some 14), .mov, [.r 40], none, [40]⟩]) <|
.seq (.draw [⟨(some 41), .ld (some 4), [.r 5], none, []⟩,
  ⟨(some 42), .ld (some 4), [.r 6], none, []⟩,
  ⟨(some 43), .call 58, [.r 41, .r 42], none, [41, 42]⟩,
  ⟨(some 44), .ld (some 4), [.r 5], none, [5]⟩,
  ⟨(some 45), .ld (some 4), [.r 6], none, []⟩,
  ⟨(some 46), .call 59, [.r 44, .r 45], none, [44, 45]⟩,
  ⟨(some 47), .eqv false .bool, [.r 43, .r 46], none, [43, 46]⟩,
  ⟨(some 48), .mov, [.r 47], none, [47]⟩,
  ⟨(some 49), .ld (some 4), [.r 6], (some (48, true)), []⟩,
  ⟨(some 50), .mov, [.r 2], (some (48, true)), []⟩,
  ⟨(some 51), .mov, [.r 3], (some (48, true)), []⟩,
  ⟨(some 52), .call 60, [.r 49, .r 50, .r 51], (some (48, true)), [49, 50, 51]⟩,
  ⟨(some 53), .ld (some 4), [.r 6], (some (48, true)), [6]⟩,
  ⟨(some 54), .mov, [.r 2], (some (48, true)), [2]⟩,
  ⟨(some 55), .mov, [.r 3], (some (48, true)), [3]⟩,
  ⟨(some 56), .call 61, [.r 53, .r 54, .r 55], (some (48, true)), [53, 54, 55]⟩,
  ⟨(some 57), .call 38, [.r 52, .r 56], (some (48, true)), [52, 56]⟩,
  ⟨(some 58), .pick, [.r 48, .r 57, .k (.bool false)], none, [48, 57]⟩,
  ⟨(some 59), .mov, [.r 58], none, [58]⟩,
  ⟨(some 60), .mov, [.r 11], (some (59, true)), [11]⟩,
  ⟨(some 61), .mov, [.r 13], (some (59, true)), [13]⟩,
  ⟨(some 62), .bin .eql, [.r 60, .r 61], (some (59, true)), [60, 61]⟩,
  ⟨(some 63), .pick, [.r 59, .r 62, .k (.bool false)], none, [59, 62]⟩,
  ⟨(some 64), .mov, [.r 63], none, [63]⟩,
  ⟨(some 65), .mov, [.r 12], (some (64, true)), [12]⟩,
  ⟨(some 66), .mov, [.r 14], (some (64, true)), [14]⟩,
  ⟨(some 67), .eqv false .bool, [.r 65, .r 66], (some (64, true)), [65, 66]⟩,
  ⟨(some 68), .pick, [.r 64, .r 67, .k (.bool false)], none, [64, 67]⟩,
  ⟨(some 10), .mov, [.r 68], none, [68]⟩] [(3, 2), (4, 2), (12, 11)]) <|
.ret⟩
theorem c13 : cFn Try.prog 13 = some m13.bare := by kernel_rfl

/-- 'swingbridge/swingbridgelaw25.LegalShapes' -/
def m14 : MFn := ⟨[.tmp 4], .seq (.ops [⟨(some 4), .mov, [.k (.bool false)], none, [4]⟩]) <|
.seq (.seq (.ops [⟨(some 9), .call 53, [], none, []⟩,
  ⟨(some 10), .un .not, [.r 9], none, [9]⟩]) <|
.cond (.r 10)
  (.seq (.ops [⟨(some 4), .mov, [.k (.bool false)], none, [0, 1, 10]⟩]) <|
  .ret)
  (.skip)) <|
.seq (.ops [⟨(some 11), .call 62, [.k (.int .i64 1), .k (.int .i64 1), .k (.int .i64 3), .k (.int .i64 1), .k (.int .i64 3)], none, [10]⟩,
  ⟨(some 5), .new 0 [.int .i64 0, .slice none 0 0, .slice none 0 0, .slice none 0 0], [], none, []⟩,
  ⟨none, .st 4, [.r 5, .r 11], none, [11]⟩]) <|
.seq (.ops [⟨(some 12), .mov, [.r 1], none, [1]⟩,
  ⟨(some 13), .bin .rem, [.r 12, .k (.int .u8 20)], none, [12]⟩,
  ⟨(some 14), .conv .i64, [.r 13], none, [13]⟩,
  ⟨(some 6), .mov, [.r 14], none, [14]⟩]) <|
.seq (.ops [⟨(some 15), .mov, [.r 6], none, []⟩,
  ⟨(some 16), .build [.int .i64 0, .int .i64 0, .int .i64 0, .bool false] [(0, 1)], [.r 15], none, [15]⟩,
  ⟨(some 17), .mov, [.r 6], none, []⟩,
  ⟨(some 18), .bin .add, [.r 17, .k (.int .i64 1)], none, [17]⟩,
  ⟨(some 19), .build [.int .i64 0, .int .i64 0, .int .i64 0, .bool false] [(0, 1), (2, 1)], [.r 18, .k (.int .i64 1)], none, [18]⟩,
  ⟨(some 20), .bslice 4 2 [.int .i64 0, .int .i64 0, .int .i64 0, .bool false] [(0, 4), (4, 4)], [.r 16, .r 19], none, [16, 19]⟩,
  ⟨(some 21), .mov, [.r 6], none, []⟩,
  ⟨(some 22), .mov, [.r 6], none, []⟩,
  ⟨(some 23), .bin .add, [.r 22, .k (.int .i64 5)], none, [22]⟩,
  ⟨(some 24), .build [.int .i64 0, .int .i64 0, .int .i64 0] [(1, 1), (2, 1)], [.r 21, .r 23], none, [21, 23]⟩,
  ⟨(some 25), .mov, [.r 6], none, []⟩,
  ⟨(some 26), .bin .add, [.r 25, .k (.int .i64 100)], none, [25]⟩,
  ⟨(some 27), .mov, [.r 6], none, []⟩,
  ⟨(some 28), .bin .add, [.r 27, .k (.int .i64 105)], none, [27]⟩,
  ⟨(some 29), .build [.int .i64 0, .int .i64 0, .int .i64 0] [(1, 1), (2, 1)], [.r 26, .r 28], none, [26, 28]⟩,
  ⟨(some 30), .bslice 3 2 [.int .i64 0, .int .i64 0, .int .i64 0] [(0, 3), (3, 3)], [.r 24, .r 29], none, [24, 29]⟩,
  ⟨(some 31), .mov, [.r 6], none, []⟩,
  ⟨(some 32), .mov, [.r 6], none, []⟩,
  ⟨(some 33), .mov, [.r 6], none, []⟩,
  ⟨(some 34), .bin .add, [.r 33, .k (.int .i64 3)], none, [33]⟩,
  ⟨(some 35), .build [.int .i64 0, .int .i64 0, .int .i64 0, .int .i64 0, .int .i64 0] [(1, 1), (2, 1), (3, 1), (4, 1)], [.k (.int .i64 1), .r 31, .r 32, .r 34], none, [31, 32, 34]⟩,
  ⟨(some 36), .mov, [.r 6], none, []⟩,
  ⟨(some 37), .mov, [.r 6], none, []⟩,
  ⟨(some 38), .bin .add, [.r 37, .k (.int .i64 3)], none, [37]⟩,
  ⟨(some 39), .mov, [.r 6], none, []⟩,
  ⟨(some 40), .bin .add, [.r 39, .k (.int .i64 6)], none, [39]⟩,
  ⟨(some 41), .build [.int .i64 0, .int .i64 0, .int .i64 0, .int .i64 0, .int .i64 0] [(0, 1), (1, 1), (2, 1), (3, 1), (4, 1)], [.k (.int .i64 1), .k (.int .i64 1), .r 36, .r 38, .r 40], none, [36, 38, 40]⟩,
  ⟨(some 42), .bslice 5 2 [.int .i64 0, .int .i64 0, .int .i64 0, .int .i64 0, .int .i64 0] [(0, 5), (5, 5)], [.r 35, .r 41], none, [35, 41]⟩,
  ⟨(some 43), .build [.int .i64 0, .slice none 0 0, .slice none 0 0, .slice none 0 0] [(0, 1), (1, 1), (2, 1), (3, 1)], [.k (.int .i64 500), .r 20, .r 30, .r 42], none, [20, 30, 42]⟩,
  ⟨(some 7), .new 0 [.int .i64 0, .slice none 0 0, .slice none 0 0, .slice none 0 0], [], none, []⟩,
  ⟨none, .st 4, [.r 7, .r 43], none, [43]⟩]) <|
.seq (.draw [⟨(some 44), .fa 0, [.r 7], none, []⟩,
  ⟨(some 45), .ld none, [.r 44], none, [44]⟩,
  ⟨(some 46), .fa 1, [.r 7], none, []⟩,
  ⟨(some 47), .ld none, [.r 46], none, [46]⟩,
  ⟨(some 48), .app 4 32, [.k (.slice none 0 0), .r 47], none, [47]⟩,
  ⟨(some 49), .fa 2, [.r 7], none, []⟩,
  ⟨(some 50), .ld none, [.r 49], none, [49]⟩,
  ⟨(some 51), .app 3 24, [.k (.slice none 0 0), .r 50], none, [50]⟩,
  ⟨(some 52), .fa 3, [.r 7], none, []⟩,
  ⟨(some 53), .ld none, [.r 52], none, [52]⟩,
  ⟨(some 54), .app 5 40, [.k (.slice none 0 0), .r 53], none, [53]⟩,
  ⟨(some 55), .build [.int .i64 0, .slice none 0 0, .slice none 0 0, .slice none 0 0] [(0, 1), (1, 1), (2, 1), (3, 1)], [.r 45, .r 48, .r 51, .r 54], none, [45, 48, 51, 54]⟩,
  ⟨(some 8), .new 0 [.int .i64 0, .slice none 0 0, .slice none 0 0, .slice none 0 0], [], none, []⟩,
  ⟨none, .st 4, [.r 8, .r 55], none, [55]⟩] [(1, 4), (1, 7), (1, 10), (6, 4), (9, 4), (9, 7), (12, 4), (12, 7), (12, 10)]) <|
.seq (.seq (.ops [⟨(some 56), .mov, [.r 0], none, [0]⟩,
  ⟨(some 57), .bin .rem, [.r 56, .k (.int .u8 9)], none, [56]⟩]) <|
.block 0 (.seq (.ops [⟨(some 60), .bin .eql, [.r 57, .k (.int .u8 0)], none, []⟩,
    ⟨(some 59), .mov, [.r 60], none, [60]⟩]) <|
  .cond (.r 59)
    (.draw [⟨(some 61), .fa 1, [.r 8], none, [6, 57, 59]⟩,
      ⟨(some 62), .ld none, [.r 61], none, [61]⟩,
      ⟨(some 63), .fa 1, [.r 8], none, []⟩,
      ⟨(some 64), .ld none, [.r 63], none, [63]⟩,
      ⟨(some 65), .fa 1, [.r 8], none, []⟩,
      ⟨(some 66), .ld none, [.r 65], none, [65]⟩,
      ⟨(some 67), .ia 4, [.r 66, .k (.int .i64 1)], none, [66]⟩,
      ⟨(some 68), .ld (some 4), [.r 67], none, [67]⟩,
      ⟨(some 69), .fa 1, [.r 8], none, []⟩,
      ⟨(some 70), .ld none, [.r 69], none, [69]⟩,
      ⟨(some 71), .ia 4, [.r 70, .k (.int .i64 0)], none, [70]⟩,
      ⟨(some 72), .ld (some 4), [.r 71], none, [71]⟩,
      ⟨(some 73), .ia 4, [.r 62, .k (.int .i64 0)], none, [62]⟩,
      ⟨none, .st 4, [.r 73, .r 68], none, [68, 73]⟩,
      ⟨(some 74), .ia 4, [.r 64, .k (.int .i64 1)], none, [64]⟩,
      ⟨none, .st 4, [.r 74, .r 72], none, [72, 74]⟩] [(3, 13)])
    (.seq (.ops [⟨(some 76), .bin .eql, [.r 57, .k (.int .u8 1)], none, [59]⟩,
      ⟨(some 75), .mov, [.r 76], none, [76]⟩]) <|
    .cond (.r 75)
      (.ops [⟨(some 77), .fa 1, [.r 8], none, [57, 75]⟩,
        ⟨(some 78), .ld none, [.r 77], none, [77]⟩,
        ⟨(some 79), .mov, [.r 6], none, [6]⟩,
        ⟨(some 80), .ia 4, [.r 78, .k (.int .i64 1)], none, [78]⟩,
        ⟨(some 81), .fa 0, [.r 80], none, [80]⟩,
        ⟨none, .st 1, [.r 81, .r 79], none, [79, 81]⟩])
      (.seq (.ops [⟨(some 83), .bin .eql, [.r 57, .k (.int .u8 2)], none, [75]⟩,
        ⟨(some 82), .mov, [.r 83], none, [83]⟩]) <|
      .cond (.r 82)
        (.ops [⟨(some 84), .fa 1, [.r 8], none, [6, 57, 82]⟩,
          ⟨(some 85), .ld none, [.r 84], none, [84]⟩,
          ⟨(some 86), .ia 4, [.r 85, .k (.int .i64 0)], none, [85]⟩,
          ⟨(some 87), .fa 1, [.r 86], none, [86]⟩,
          ⟨none, .st 1, [.r 87, .k (.int .i64 1)], none, [87]⟩])
        (.seq (.ops [⟨(some 89), .bin .eql, [.r 57, .k (.int .u8 3)], none, [82]⟩,
          ⟨(some 88), .mov, [.r 89], none, [89]⟩]) <|
        .cond (.r 88)
          (.ops [⟨(some 90), .fa 2, [.r 8], none, [57, 88]⟩,
            ⟨(some 91), .ld none, [.r 90], none, [90]⟩,
            ⟨(some 92), .mov, [.r 6], none, [6]⟩,
            ⟨(some 93), .bin .add, [.r 92, .k (.int .i64 99)], none, [92]⟩,
            ⟨(some 94), .ia 3, [.r 91, .k (.int .i64 1)], none, [91]⟩,
            ⟨(some 95), .fa 1, [.r 94], none, [94]⟩,
            ⟨none, .st 1, [.r 95, .r 93], none, [93, 95]⟩])
          (.seq (.ops [⟨(some 97), .bin .eql, [.r 57, .k (.int .u8 4)], none, [88]⟩,
            ⟨(some 96), .mov, [.r 97], none, [97]⟩]) <|
          .cond (.r 96)
            (.ops [⟨(some 98), .fa 2, [.r 8], none, [57, 96]⟩,
              ⟨(some 99), .ld none, [.r 98], none, [98]⟩,
              ⟨(some 100), .mov, [.r 6], none, [6]⟩,
              ⟨(some 101), .ia 3, [.r 99, .k (.int .i64 0)], none, [99]⟩,
              ⟨(some 102), .fa 2, [.r 101], none, [101]⟩,
              ⟨none, .st 1, [.r 102, .r 100], none, [100, 102]⟩])
            (.seq (.ops [⟨(some 104), .bin .eql, [.r 57, .k (.int .u8 5)], none, [96]⟩,
              ⟨(some 103), .mov, [.r 104], none, [104]⟩]) <|
            .cond (.r 103)
              (.ops [⟨(some 105), .fa 3, [.r 8], none, [57, 103]⟩,
                ⟨(some 106), .ld none, [.r 105], none, [105]⟩,
                ⟨(some 107), .mov, [.r 6], none, [6]⟩,
                ⟨(some 108), .bin .add, [.r 107, .k (.int .i64 2)], none, [107]⟩,
                ⟨(some 109), .ia 5, [.r 106, .k (.int .i64 1)], none, [106]⟩,
                ⟨(some 110), .fa 3, [.r 109], none, [109]⟩,
                ⟨none, .st 1, [.r 110, .r 108], none, [108, 110]⟩])
              (.seq (.ops [⟨(some 112), .bin .eql, [.r 57, .k (.int .u8 6)], none, [103]⟩,
                ⟨(some 111), .mov, [.r 112], none, [112]⟩]) <|
              .cond (.r 111)
                (.ops [⟨(some 113), .fa 3, [.r 8], none, [6, 57, 111]⟩,
                  ⟨(some 114), .ld none, [.r 113], none, [113]⟩,
                  ⟨(some 115), .ia 5, [.r 114, .k (.int .i64 0)], none, [114]⟩,
                  ⟨(some 116), .fa 1, [.r 115], none, [115]⟩,
                  ⟨none, .st 1, [.r 116, .k (.int .i64 0)], none, [116]⟩])
                (.seq (.ops [⟨(some 118), .bin .eql, [.r 57, .k (.int .u8 7)], none, [57, 111]⟩,
                  ⟨(some 117), .mov, [.r 118], none, [118]⟩]) <|
                .cond (.r 117)
                  (.ops [⟨(some 119), .fa 3, [.r 8], none, [117]⟩,
                    ⟨(some 120), .ld none, [.r 119], none, [119]⟩,
                    ⟨(some 121), .mov, [.r 6], none, [6]⟩,
                    ⟨(some 122), .bin .add, [.r 121, .k (.int .i64 1)], none, [121]⟩,
                    ⟨(some 123), .ia 5, [.r 120, .k (.int .i64 0)], none, [120]⟩,
                    ⟨(some 124), .fa 2, [.r 123], none, [123]⟩,
                    ⟨none, .st 1, [.r 124, .r 122], none, [122, 124]⟩])
                  (.ops [⟨(some 58), .fa 0, [.r 8], none, [6, 117]⟩,
                    ⟨none, .st 1, [.r 58, .k (.int .i64 (-1))], none, [58]⟩])))))))))) <|
.seq (.ops [⟨(some 125), .ld (some 4), [.r 5], none, []⟩,
  ⟨(some 126), .ld (some 4), [.r 7], none, [7]⟩,
  ⟨(some 127), .call 58, [.r 125, .r 126], none, [125, 126]⟩,
  ⟨(some 128), .mov, [.r 127], none, [127]⟩,
  ⟨(some 129), .ld (some 4), [.r 5], (some (128, true)), [5]⟩,
  ⟨(some 130), .ld (some 4), [.r 8], (some (128, true)), [8]⟩,
  ⟨(some 131), .call 58, [.r 129, .r 130], (some (128, true)), [129, 130]⟩,
  ⟨(some 132), .un .not, [.r 131], (some (128, true)), [131]⟩,
  ⟨(some 133), .pick, [.r 128, .r 132, .k (.bool false)], none, [128, 132]⟩,
  ⟨(some 4), .mov, [.r 133], none, [133]⟩]) <|
.ret⟩
theorem c14 : cFn Try.prog 14 = some m14.bare := by kernel_rfl

/-- 'swingbridge/swingbridgelaw25.LegalHolders' -/
def m15 : MFn := ⟨[.tmp 8], .seq (.ops [⟨(some 8), .mov, [.k (.bool false)], none, [8]⟩]) <|
.seq (.seq (.ops [⟨(some 17), .call 53, [], none, []⟩,
  ⟨(some 18), .un .not, [.r 17], none, [17]⟩]) <|
.cond (.r 18)
  (.seq (.ops [⟨(some 8), .mov, [.k (.bool false)], none, [0, 1, 2, 3, 18]⟩]) <|
  .ret)
  (.skip)) <|
.seq (.ops [⟨(some 19), .call 62, [.k (.int .i64 1), .k (.int .i64 1), .k (.int .i64 9), .k (.int .i64 1), .k (.int .i64 9)], none, [18]⟩,
  ⟨(some 9), .new 0 [.int .i64 0, .slice none 0 0, .slice none 0 0, .slice none 0 0], [], none, []⟩,
  ⟨none, .st 4, [.r 9, .r 19], none, [19]⟩]) <|
.seq (.ops [⟨(some 20), .bslice 1 2 [.int .i64 0] [(0, 1), (1, 1)], [.k (.int .i64 0), .k (.int .i64 0)], none, []⟩,
  ⟨(some 21), .fa 2, [.r 9], none, []⟩,
  ⟨none, .st 1, [.r 21, .r 20], none, [20, 21]⟩]) <|
.seq (.ops [⟨(some 22), .mov, [.r 0], none, [0]⟩,
  ⟨(some 23), .bin .rem, [.r 22, .k (.int .u8 50)], none, [22]⟩,
  ⟨(some 24), .conv .i64, [.r 23], none, [23]⟩,
  ⟨(some 25), .mov, [.r 1], none, [1]⟩,
  ⟨(some 26), .bin .rem, [.r 25, .k (.int .u8 20)], none, [25]⟩,
  ⟨(some 27), .conv .i64, [.r 26], none, [26]⟩,
  ⟨(some 28), .bin .add, [.r 27, .k (.int .i64 1)], none, [27]⟩,
  ⟨(some 29), .mov, [.r 2], none, [2]⟩,
  ⟨(some 30), .bin .rem, [.r 29, .k (.int .u8 80)], none, [29]⟩,
  ⟨(some 31), .conv .i64, [.r 30], none, [30]⟩,
  ⟨(some 10), .mov, [.r 24], none, [24]⟩,
  ⟨(some 11), .mov, [.r 28], none, [28]⟩,
  ⟨(some 12), .mov, [.r 31], none, [31]⟩]) <|
.seq (.ops [⟨(some 32), .mov, [.r 10], none, []⟩,
  ⟨(some 33), .mov, [.r 10], none, []⟩,
  ⟨(some 34), .mov, [.r 10], none, []⟩,
  ⟨(some 35), .mov, [.r 11], none, []⟩,
  ⟨(some 36), .bin .add, [.r 34, .r 35], none, [34, 35]⟩,
  ⟨(some 37), .build [.int .i64 0, .int .i64 0, .int .i64 0, .int .i64 0, .int .i64 0] [(0, 1), (1, 1), (2, 1), (3, 1), (4, 1)], [.k (.int .i64 1), .k (.int .i64 1), .r 32, .r 33, .r 36], none, [32, 33, 36]⟩,
  ⟨(some 38), .mov, [.r 10], none, []⟩,
  ⟨(some 39), .mov, [.r 10], none, []⟩,
  ⟨(some 40), .mov, [.r 11], none, []⟩,
  ⟨(some 41), .bin .add, [.r 39, .r 40], none, [39, 40]⟩,
  ⟨(some 42), .build [.int .i64 0, .int .i64 0, .int .i64 0, .int .i64 0, .int .i64 0] [(0, 1), (1, 1), (3, 1), (4, 1)], [.k (.int .i64 0), .k (.int .i64 0), .r 38, .r 41], none, [38, 41]⟩,
  ⟨(some 43), .bslice 5 2 [.int .i64 0, .int .i64 0, .int .i64 0, .int .i64 0, .int .i64 0] [(0, 5), (5, 5)], [.r 37, .r 42], none, [37, 42]⟩,
  ⟨(some 44), .build [.int .i64 0, .slice none 0 0, .slice none 0 0, .slice none 0 0] [(0, 1), (3, 1)], [.k (.int .i64 100), .r 43], none, [43]⟩,
  ⟨(some 13), .new 0 [.int .i64 0, .slice none 0 0, .slice none 0 0, .slice none 0 0], [], none, []⟩,
  ⟨none, .st 4, [.r 13, .r 44], none, [44]⟩]) <|
.seq (.ops [⟨(some 46), .ld (some 4), [.r 13], none, [13]⟩,
  ⟨(some 47), .ld (some 4), [.r 9], none, [9]⟩,
  ⟨(some 48), .mov, [.r 12], none, []⟩,
  ⟨(some 49), .mov, [.r 3], none, []⟩,
  ⟨(some 50), .bin .rem, [.r 49, .k (.int .u8 3)], none, [49]⟩,
  ⟨(some 51), .conv .i64, [.r 50], none, [50]⟩,
  ⟨(some 52), .call 56, [.r 46, .r 47, .r 48, .r 51], none, [46, 47, 48, 51]⟩,
  ⟨(some 45), .mov, [.r 52], none, [52]⟩,
  ⟨(some 53), .extract 0, [.r 45], none, []⟩,
  ⟨(some 54), .extract 1, [.r 45], none, [45]⟩,
  ⟨(some 14), .mov, [.r 53], none, [53]⟩,
  ⟨(some 15), .mov, [.r 54], none, [54]⟩]) <|
.seq (.ops [⟨(some 55), .mov, [.r 12], none, []⟩,
  ⟨(some 56), .mov, [.r 10], none, []⟩,
  ⟨(some 57), .bin .geq, [.r 55, .r 56], none, [55, 56]⟩,
  ⟨(some 58), .mov, [.r 57], none, [57]⟩,
  ⟨(some 59), .mov, [.r 12], (some (58, true)), [12]⟩,
  ⟨(some 60), .mov, [.r 10], (some (58, true)), [10]⟩,
  ⟨(some 61), .mov, [.r 11], (some (58, true)), [11]⟩,
  ⟨(some 62), .bin .add, [.r 60, .r 61], (some (58, true)), [60, 61]⟩,
  ⟨(some 63), .bin .lss, [.r 59, .r 62], (some (58, true)), [59, 62]⟩,
  ⟨(some 64), .pick, [.r 58, .r 63, .k (.bool false)], none, [58, 63]⟩,
  ⟨(some 65), .mov, [.r 64], none, [64]⟩,
  ⟨(some 66), .mov, [.r 3], (some (65, true)), [3]⟩,
  ⟨(some 67), .bin .rem, [.r 66, .k (.int .u8 3)], (some (65, true)), [66]⟩,
  ⟨(some 68), .bin .eql, [.r 67, .k (.int .u8 0)], (some (65, true)), [67]⟩,
  ⟨(some 69), .pick, [.r 65, .r 68, .k (.bool false)], none, [65, 68]⟩,
  ⟨(some 16), .mov, [.r 69], none, [69]⟩]) <|
.seq (.ops [⟨(some 70), .mov, [.r 15], none, [15]⟩,
  ⟨(some 71), .mov, [.r 16], none, []⟩,
  ⟨(some 72), .eqv false .bool, [.r 70, .r 71], none, [70, 71]⟩,
  ⟨(some 73), .mov, [.r 72], none, [72]⟩,
  ⟨(some 74), .mov, [.r 16], (some (73, true)), []⟩,
  ⟨(some 75), .un .not, [.r 74], (some (73, true)), [74]⟩,
  ⟨(some 76), .mov, [.r 75], (some (73, true)), [75]⟩,
  ⟨(some 77), .mov, [.r 14], (some (76, false)), []⟩,
  ⟨(some 78), .bin .eql, [.r 77, .k (.int .i64 1)], (some (76, false)), [77]⟩,
  ⟨(some 79), .pick, [.r 76, .k (.bool true), .r 78], (some (73, true)), [76, 78]⟩,
  ⟨(some 80), .pick, [.r 73, .r 79, .k (.bool false)], none, [73, 79]⟩,
  ⟨(some 81), .mov, [.r 80], none, [80]⟩,
  ⟨(some 82), .mov, [.r 16], (some (81, true)), [16]⟩,
  ⟨(some 83), .mov, [.r 82], (some (81, true)), [82]⟩,
  ⟨(some 84), .mov, [.r 14], (some (83, false)), [14]⟩,
  ⟨(some 85), .bin .eql, [.r 84, .k (.int .i64 0)], (some (83, false)), [84]⟩,
  ⟨(some 86), .pick, [.r 83, .k (.bool true), .r 85], (some (81, true)), [83, 85]⟩,
  ⟨(some 87), .pick, [.r 81, .r 86, .k (.bool false)], none, [81, 86]⟩,
  ⟨(some 8), .mov, [.r 87], none, [87]⟩]) <|
.ret⟩
theorem c15 : cFn Try.prog 15 = some m15.bare := by kernel_rfl

/-- 'swingbridge/swingbridgelaw26.known' -/
def m17 : MFn := ⟨[.tmp 0], .seq (.ops [⟨(some 0), .mov, [.k (.bool false)], none, [0]⟩]) <|
.seq (.ops [⟨(some 4), .call 26, [.k (.int .i64 1), .k (.int .i64 1), .k (.int .i64 2), .k (.int .i64 1), .k (.int .i64 2)], none, []⟩,
  ⟨(some 1), .new 0 [.int .i64 0, .slice none 0 0, .slice none 0 0, .slice none 0 0], [], none, []⟩,
  ⟨none, .st 4, [.r 1, .r 4], none, [4]⟩]) <|
.seq (.ops [⟨(some 5), .build [.int .i64 0, .int .i64 0, .int .i64 0, .int .i64 0, .int .i64 0] [(1, 1), (2, 1), (3, 1), (4, 1)], [.k (.int .i64 1), .k (.int .i64 3), .k (.int .i64 5), .k (.int .i64 8)], none, []⟩,
  ⟨(some 2), .new 0 [.int .i64 0, .int .i64 0, .int .i64 0, .int .i64 0, .int .i64 0], [], none, []⟩,
  ⟨none, .st 5, [.r 2, .r 5], none, [5]⟩]) <|
.seq (.ops [⟨(some 6), .build [.int .i64 0, .int .i64 0, .int .i64 0, .bool false] [(0, 1), (2, 1)], [.k (.int .i64 3), .k (.int .i64 1)], none, []⟩,
  ⟨(some 7), .build [.int .i64 0, .int .i64 0, .int .i64 0, .bool false] [(0, 1), (2, 1)], [.k (.int .i64 4), .k (.int .i64 1)], none, []⟩,
  ⟨(some 8), .bslice 4 2 [.int .i64 0, .int .i64 0, .int .i64 0, .bool false] [(0, 4), (4, 4)], [.r 6, .r 7], none, [6, 7]⟩,
  ⟨(some 9), .build [.int .i64 0, .int .i64 0, .int .i64 0, .int .i64 0, .int .i64 0] [(0, 1), (1, 1), (2, 1), (3, 1), (4, 1)], [.k (.int .i64 1), .k (.int .i64 1), .k (.int .i64 1), .k (.int .i64 2), .k (.int .i64 5)], none, []⟩,
  ⟨(some 10), .ld (some 5), [.r 2], none, []⟩,
  ⟨(some 11), .bslice 5 2 [.int .i64 0, .int .i64 0, .int .i64 0, .int .i64 0, .int .i64 0] [(0, 5), (5, 5)], [.r 9, .r 10], none, [9, 10]⟩,
  ⟨(some 12), .build [.int .i64 0, .slice none 0 0, .slice none 0 0, .slice none 0 0] [(0, 1), (1, 1), (3, 1)], [.k (.int .i64 9), .r 8, .r 11], none, [8, 11]⟩,
  ⟨(some 3), .new 0 [.int .i64 0, .slice none 0 0, .slice none 0 0, .slice none 0 0], [], none, []⟩,
  ⟨none, .st 4, [.r 3, .r 12], none, [12]⟩]) <|
.seq (.ops [⟨(some 13), .ld (some 5), [.r 2], none, []⟩,
  ⟨(some 14), .call 20, [.r 13], none, [13]⟩,
  ⟨(some 15), .bin .eql, [.r 14, .k (.int .i64 5)], none, [14]⟩,
  ⟨(some 16), .mov, [.r 15], none, [15]⟩,
  ⟨(some 17), .build [.int .i64 0, .int .i64 0, .int .i64 0] [(1, 1), (2, 1)], [.k (.int .i64 2), .k (.int .i64 8)], (some (16, true)), []⟩,
  ⟨(some 18), .call 21, [.r 17], (some (16, true)), [17]⟩,
  ⟨(some 19), .bin .eql, [.r 18, .k (.int .i64 6)], (some (16, true)), [18]⟩,
  ⟨(some 20), .pick, [.r 16, .r 19, .k (.bool false)], none, [16, 19]⟩,
  ⟨(some 21), .mov, [.r 20], none, [20]⟩,
  ⟨(some 22), .ld (some 4), [.r 1], (some (21, true)), []⟩,
  ⟨(some 23), .ld (some 4), [.r 3], (some (21, true)), []⟩,
  ⟨(some 24), .ld (some 5), [.r 2], (some (21, true)), [2]⟩,
  ⟨(some 25), .call 22, [.r 22, .r 23, .r 24], (some (21, true)), [22, 23, 24]⟩,
  ⟨(some 26), .bin .eql, [.r 25, .k (.int .i64 1)], (some (21, true)), [25]⟩,
  ⟨(some 27), .pick, [.r 21, .r 26, .k (.bool false)], none, [21, 26]⟩,
  ⟨(some 28), .mov, [.r 27], none, [27]⟩,
  ⟨(some 29), .ld (some 4), [.r 1], (some (28, true)), [1]⟩,
  ⟨(some 30), .ld (some 4), [.r 3], (some (28, true)), [3]⟩,
  ⟨(some 31), .build [.int .i64 0, .int .i64 0, .int .i64 0] [(1, 1), (2, 1)], [.k (.int .i64 2), .k (.int .i64 8)], (some (28, true)), []⟩,
  ⟨(some 32), .call 24, [.r 29, .r 30, .r 31], (some (28, true)), [29, 30, 31]⟩,
  ⟨(some 33), .bin .eql, [.r 32, .k (.int .i64 2)], (some (28, true)), [32]⟩,
  ⟨(some 34), .pick, [.r 28, .r 33, .k (.bool false)], none, [28, 33]⟩,
  ⟨(some 0), .mov, [.r 34], none, [34]⟩]) <|
.ret⟩
theorem c17 : cFn Try.prog 17 = some m17.bare := by kernel_rfl

/-- 'swingbridge/swingbridgelaw26.few' -/
def m18_0 : MCode := .seq (.seq (.ops [⟨(some 20), .mov, [.r 3], none, []⟩,
      ⟨(some 21), .fa 3, [.r 1], none, []⟩,
      ⟨(some 22), .ld none, [.r 21], none, [21]⟩,
      ⟨(some 23), .len, [.r 22], none, [22]⟩,
      ⟨(some 24), .bin .lss, [.r 20, .r 23], none, [20, 23]⟩]) <|
    .cond (.r 24)
      (.skip)
      (.exit 0)) <|
    .seq (.block 1 (.seq (.ops [⟨(some 27), .fa 3, [.r 1], none, [24]⟩,
        ⟨(some 28), .ld none, [.r 27], none, [27]⟩,
        ⟨(some 29), .mov, [.r 3], none, []⟩,
        ⟨(some 30), .ia 6, [.r 28, .r 29], none, [28, 29]⟩,
        ⟨(some 31), .fa 0, [.r 30], none, [30]⟩,
        ⟨(some 32), .ld none, [.r 31], none, [31]⟩,
        ⟨(some 33), .lens, [.r 32], none, [32]⟩,
        ⟨(some 34), .bin .gtr, [.r 33, .k (.int .i64 20)], none, [33]⟩,
        ⟨(some 35), .mov, [.r 34], none, [34]⟩,
        ⟨(some 36), .fa 3, [.r 1], (some (35, false)), []⟩,
        ⟨(some 37), .ld none, [.r 36], (some (35, false)), [36]⟩,
        ⟨(some 38), .mov, [.r 3], (some (35, false)), []⟩,
        ⟨(some 39), .ia 6, [.r 37, .r 38], (some (35, false)), [37, 38]⟩,
        ⟨(some 40), .fa 5, [.r 39], (some (35, false)), [39]⟩,
        ⟨(some 41), .ld none, [.r 40], (some (35, false)), [40]⟩,
        ⟨(some 42), .len, [.r 41], (some (35, false)), [41]⟩,
        ⟨(some 43), .bin .gtr, [.r 42, .k (.int .i64 10)], (some (35, false)), [42]⟩,
        ⟨(some 44), .pick, [.r 35, .k (.bool true), .r 43], none, [35, 43]⟩]) <|
      .cond (.r 44)
        (.seq (.ops [⟨(some 2), .mov, [.k (.bool false)], none, [1, 3, 44]⟩]) <|
        .ret)
        (.skip))) <|
    .ops [⟨(some 25), .mov, [.r 3], none, [3, 44]⟩,
      ⟨(some 26), .bin .add, [.r 25, .k (.int .i64 1)], none, [25]⟩,
      ⟨(some 3), .mov, [.r 26], none, [26]⟩]
def m18 : MFn := ⟨[.tmp 2], .seq (.ops [⟨(some 1), .box, [.r 0], none, [0]⟩,
  ⟨(some 2), .mov, [.k (.bool false)], none, [2]⟩]) <|
.seq (.seq (.ops [⟨(some 4), .fa 1, [.r 1], none, []⟩,
  ⟨(some 5), .ld none, [.r 4], none, [4]⟩,
  ⟨(some 6), .len, [.r 5], none, [5]⟩,
  ⟨(some 7), .bin .gtr, [.r 6, .k (.int .i64 8)], none, [6]⟩,
  ⟨(some 8), .mov, [.r 7], none, [7]⟩,
  ⟨(some 9), .fa 2, [.r 1], (some (8, false)), []⟩,
  ⟨(some 10), .ld none, [.r 9], (some (8, false)), [9]⟩,
  ⟨(some 11), .len, [.r 10], (some (8, false)), [10]⟩,
  ⟨(some 12), .bin .gtr, [.r 11, .k (.int .i64 10)], (some (8, false)), [11]⟩,
  ⟨(some 13), .pick, [.r 8, .k (.bool true), .r 12], none, [8, 12]⟩,
  ⟨(some 14), .mov, [.r 13], none, [13]⟩,
  ⟨(some 15), .fa 3, [.r 1], (some (14, false)), []⟩,
  ⟨(some 16), .ld none, [.r 15], (some (14, false)), [15]⟩,
  ⟨(some 17), .len, [.r 16], (some (14, false)), [16]⟩,
  ⟨(some 18), .bin .gtr, [.r 17, .k (.int .i64 9)], (some (14, false)), [17]⟩,
  ⟨(some 19), .pick, [.r 14, .k (.bool true), .r 18], none, [14, 18]⟩]) <|
.cond (.r 19)
  (.seq (.ops [⟨(some 2), .mov, [.k (.bool false)], none, [1, 19]⟩]) <|
  .ret)
  (.skip)) <|
.seq (.seq (.ops [⟨(some 3), .mov, [.k (.int .i64 0)], none, [19]⟩]) <|
.block 0 (.loop m18_0)) <|
.seq (.ops [⟨(some 2), .mov, [.k (.bool true)], none, [1, 3, 24]⟩]) <|
.ret⟩
theorem c18 : cFn Try.prog 18 = some m18.bare := by kernel_rfl

/-- 'swingbridge/swingbridgelaw26.fewTrace' -/
def m19_0 : MCode := .seq (.seq (.ops [⟨(some 4), .mov, [.r 3], none, []⟩,
      ⟨(some 5), .fa 1, [.r 1], none, []⟩,
      ⟨(some 6), .ld none, [.r 5], none, [5]⟩,
      ⟨(some 7), .len, [.r 6], none, [6]⟩,
      ⟨(some 8), .bin .lss, [.r 4, .r 7], none, [4, 7]⟩]) <|
    .cond (.r 8)
      (.skip)
      (.exit 0)) <|
    .seq (.block 1 (.seq (.ops [⟨(some 11), .fa 1, [.r 1], none, [8]⟩,
        ⟨(some 12), .ld none, [.r 11], none, [11]⟩,
        ⟨(some 13), .mov, [.r 3], none, []⟩,
        ⟨(some 14), .ia 4, [.r 12, .r 13], none, [12, 13]⟩,
        ⟨(some 15), .fa 0, [.r 14], none, [14]⟩,
        ⟨(some 16), .ld none, [.r 15], none, [15]⟩,
        ⟨(some 17), .bin .lss, [.r 16, .k (.int .i64 0)], none, [16]⟩,
        ⟨(some 18), .mov, [.r 17], none, [17]⟩,
        ⟨(some 19), .fa 1, [.r 1], (some (18, false)), []⟩,
        ⟨(some 20), .ld none, [.r 19], (some (18, false)), [19]⟩,
        ⟨(some 21), .mov, [.r 3], (some (18, false)), []⟩,
        ⟨(some 22), .ia 4, [.r 20, .r 21], (some (18, false)), [20, 21]⟩,
        ⟨(some 23), .fa 0, [.r 22], (some (18, false)), [22]⟩,
        ⟨(some 24), .ld none, [.r 23], (some (18, false)), [23]⟩,
        ⟨(some 25), .bin .gtr, [.r 24, .k (.int .i64 5000)], (some (18, false)), [24]⟩,
        ⟨(some 26), .pick, [.r 18, .k (.bool true), .r 25], none, [18, 25]⟩]) <|
      .cond (.r 26)
        (.seq (.ops [⟨(some 2), .mov, [.k (.bool false)], none, [1, 3, 26]⟩]) <|
        .ret)
        (.skip))) <|
    .ops [⟨(some 9), .mov, [.r 3], none, [3, 26]⟩,
      ⟨(some 10), .bin .add, [.r 9, .k (.int .i64 1)], none, [9]⟩,
      ⟨(some 3), .mov, [.r 10], none, [10]⟩]
def m19 : MFn := ⟨[.tmp 2], .seq (.ops [⟨(some 1), .box, [.r 0], none, [0]⟩,
  ⟨(some 2), .mov, [.k (.bool false)], none, [2]⟩]) <|
.seq (.seq (.ops [⟨(some 3), .mov, [.k (.int .i64 0)], none, []⟩]) <|
.block 0 (.loop m19_0)) <|
.seq (.ops [⟨(some 27), .fa 1, [.r 1], none, [3, 8]⟩,
  ⟨(some 28), .ld none, [.r 27], none, [27]⟩,
  ⟨(some 29), .len, [.r 28], none, [28]⟩,
  ⟨(some 30), .bin .leq, [.r 29, .k (.int .i64 60)], none, [29]⟩,
  ⟨(some 31), .mov, [.r 30], none, [30]⟩,
  ⟨(some 32), .fa 2, [.r 1], (some (31, true)), []⟩,
  ⟨(some 33), .ld none, [.r 32], (some (31, true)), [32]⟩,
  ⟨(some 34), .len, [.r 33], (some (31, true)), [33]⟩,
  ⟨(some 35), .bin .leq, [.r 34, .k (.int .i64 30)], (some (31, true)), [34]⟩,
  ⟨(some 36), .pick, [.r 31, .r 35, .k (.bool false)], none, [31, 35]⟩,
  ⟨(some 37), .mov, [.r 36], none, [36]⟩,
  ⟨(some 38), .fa 3, [.r 1], (some (37, true)), [1]⟩,
  ⟨(some 39), .ld none, [.r 38], (some (37, true)), [38]⟩,
  ⟨(some 40), .len, [.r 39], (some (37, true)), [39]⟩,
  ⟨(some 41), .bin .leq, [.r 40, .k (.int .i64 30)], (some (37, true)), [40]⟩,
  ⟨(some 42), .pick, [.r 37, .r 41, .k (.bool false)], none, [37, 41]⟩,
  ⟨(some 2), .mov, [.r 42], none, [42]⟩]) <|
.ret⟩
theorem c19 : cFn Try.prog 19 = some m19.bare := by kernel_rfl

/-- 'swingbridge/delay.Wait' -/
def m20 : MFn := ⟨[.tmp 2], .seq (.ops [⟨(some 1), .box, [.r 0], none, [0]⟩,
  ⟨(some 2), .mov, [.k (.int .i64 0)], none, [2]⟩]) <|
.seq (.ops [⟨(some 3), .fa 4, [.r 1], none, []⟩,
  ⟨(some 4), .ld none, [.r 3], none, [3]⟩,
  ⟨(some 5), .fa 2, [.r 1], none, [1]⟩,
  ⟨(some 6), .ld none, [.r 5], none, [5]⟩,
  ⟨(some 7), .bin .sub, [.r 4, .r 6], none, [4, 6]⟩,
  ⟨(some 2), .mov, [.r 7], none, [7]⟩]) <|
.ret⟩
theorem c20 : cFn Try.prog 20 = some m20.bare := by kernel_rfl

/-- 'swingbridge/delay.Response' -/
def m21 : MFn := ⟨[.tmp 2], .seq (.ops [⟨(some 1), .box, [.r 0], none, [0]⟩,
  ⟨(some 2), .mov, [.k (.int .i64 0)], none, [2]⟩]) <|
.seq (.ops [⟨(some 3), .fa 2, [.r 1], none, []⟩,
  ⟨(some 4), .ld none, [.r 3], none, [3]⟩,
  ⟨(some 5), .fa 1, [.r 1], none, [1]⟩,
  ⟨(some 6), .ld none, [.r 5], none, [5]⟩,
  ⟨(some 7), .bin .sub, [.r 4, .r 6], none, [4, 6]⟩,
  ⟨(some 2), .mov, [.r 7], none, [7]⟩]) <|
.ret⟩
theorem c21 : cFn Try.prog 21 = some m21.bare := by kernel_rfl

/-- 'swingbridge/delay.Passed' -/
def m22_0 : MCode := .seq (.ops [⟨(some 40), .bin .lss, [.r 39, .r 38], none, []⟩]) <|
    .seq (.cond (.r 40)
      (.skip)
      (.exit 0)) <|
    .seq (.block 1 (.seq (.ops [⟨(some 41), .ia 5, [.r 37, .r 39], none, [40]⟩,
        ⟨(some 42), .ld (some 5), [.r 41], none, [41]⟩,
        ⟨(some 13), .new 0 [.int .i64 0, .int .i64 0, .int .i64 0, .int .i64 0, .int .i64 0], [], none, []⟩,
        ⟨none, .st 5, [.r 13, .r 42], none, [42]⟩]) <|
      .seq (.ops [⟨(some 44), .ld (some 4), [.r 3], none, []⟩,
        ⟨(some 45), .fa 0, [.r 13], none, []⟩,
        ⟨(some 46), .ld none, [.r 45], none, [45]⟩,
        ⟨(some 47), .fa 1, [.r 13], none, []⟩,
        ⟨(some 48), .ld none, [.r 47], none, [47]⟩,
        ⟨(some 49), .call 64, [.r 44, .r 46, .r 48], none, [44, 46, 48]⟩,
        ⟨(some 43), .mov, [.r 49], none, [49]⟩,
        ⟨(some 50), .extract 0, [.r 43], none, []⟩,
        ⟨(some 51), .extract 1, [.r 43], none, [43]⟩,
        ⟨(some 14), .new 0 [.int .i64 0, .int .i64 0, .int .i64 0], [], none, []⟩,
        ⟨none, .st 3, [.r 14, .r 50], none, [50]⟩,
        ⟨(some 15), .mov, [.r 51], none, [51]⟩]) <|
      .block 2 (.seq (.ops [⟨(some 53), .mov, [.r 15], none, [15]⟩,
          ⟨(some 54), .un .not, [.r 53], none, [53]⟩,
          ⟨(some 55), .mov, [.r 54], none, [54]⟩,
          ⟨(some 56), .fa 0, [.r 13], (some (55, false)), []⟩,
          ⟨(some 57), .ld none, [.r 56], (some (55, false)), [56]⟩,
          ⟨(some 58), .fa 0, [.r 5], (some (55, false)), []⟩,
          ⟨(some 59), .ld none, [.r 58], (some (55, false)), [58]⟩,
          ⟨(some 60), .bin .eql, [.r 57, .r 59], (some (55, false)), [57, 59]⟩,
          ⟨(some 61), .pick, [.r 55, .k (.bool true), .r 60], none, [55, 60]⟩,
          ⟨(some 62), .mov, [.r 61], none, [61]⟩,
          ⟨(some 63), .fa 2, [.r 14], (some (62, false)), [14]⟩,
          ⟨(some 64), .ld none, [.r 63], (some (62, false)), [63]⟩,
          ⟨(some 65), .fa 2, [.r 9], (some (62, false)), []⟩,
          ⟨(some 66), .ld none, [.r 65], (some (62, false)), [65]⟩,
          ⟨(some 67), .bin .neq, [.r 64, .r 66], (some (62, false)), [64, 66]⟩,
          ⟨(some 68), .pick, [.r 62, .k (.bool true), .r 67], none, [62, 67]⟩,
          ⟨(some 52), .mov, [.r 68], none, [68]⟩]) <|
        .cond (.r 52)
          (.exit 1)
          (.seq (.ops [⟨(some 70), .fa 3, [.r 13], none, [52]⟩,
            ⟨(some 71), .ld none, [.r 70], none, [70]⟩,
            ⟨(some 72), .fa 2, [.r 5], none, []⟩,
            ⟨(some 73), .ld none, [.r 72], none, [72]⟩,
            ⟨(some 74), .bin .geq, [.r 71, .r 73], none, [71, 73]⟩,
            ⟨(some 75), .mov, [.r 74], none, [74]⟩,
            ⟨(some 76), .fa 3, [.r 13], (some (75, true)), []⟩,
            ⟨(some 77), .ld none, [.r 76], (some (75, true)), [76]⟩,
            ⟨(some 78), .fa 3, [.r 5], (some (75, true)), []⟩,
            ⟨(some 79), .ld none, [.r 78], (some (75, true)), [78]⟩,
            ⟨(some 80), .bin .lss, [.r 77, .r 79], (some (75, true)), [77, 79]⟩,
            ⟨(some 81), .pick, [.r 75, .r 80, .k (.bool false)], none, [75, 80]⟩,
            ⟨(some 69), .mov, [.r 81], none, [81]⟩]) <|
          .cond (.r 69)
            (.ops [⟨(some 82), .mov, [.r 11], none, [11, 13, 69]⟩,
              ⟨(some 83), .bin .add, [.r 82, .k (.int .i64 1)], none, [82]⟩,
              ⟨(some 11), .mov, [.r 83], none, [83]⟩])
            (.seq (.ops [⟨(some 85), .fa 3, [.r 13], none, [69]⟩,
              ⟨(some 86), .ld none, [.r 85], none, [85]⟩,
              ⟨(some 87), .fa 2, [.r 5], none, []⟩,
              ⟨(some 88), .ld none, [.r 87], none, [87]⟩,
              ⟨(some 89), .bin .lss, [.r 86, .r 88], none, [86, 88]⟩,
              ⟨(some 90), .mov, [.r 89], none, [89]⟩,
              ⟨(some 91), .fa 4, [.r 13], (some (90, true)), [13]⟩,
              ⟨(some 92), .ld none, [.r 91], (some (90, true)), [91]⟩,
              ⟨(some 93), .fa 2, [.r 5], (some (90, true)), []⟩,
              ⟨(some 94), .ld none, [.r 93], (some (90, true)), [93]⟩,
              ⟨(some 95), .bin .gtr, [.r 92, .r 94], (some (90, true)), [92, 94]⟩,
              ⟨(some 96), .pick, [.r 90, .r 95, .k (.bool false)], none, [90, 95]⟩,
              ⟨(some 84), .mov, [.r 96], none, [96]⟩]) <|
            .cond (.r 84)
              (.ops [⟨(some 97), .mov, [.r 11], none, [11, 84]⟩,
                ⟨(some 98), .bin .add, [.r 97, .k (.int .i64 1)], none, [97]⟩,
                ⟨(some 11), .mov, [.r 98], none, [98]⟩])
              (.skip)))))) <|
    .ops [⟨(some 99), .bin .add, [.r 39, .k (.int .i64 1)], none, [13, 39, 52, 84]⟩,
      ⟨(some 39), .mov, [.r 99], none, [99]⟩]
def m22 : MFn := ⟨[.tmp 6], .seq (.ops [⟨(some 3), .box, [.r 0], none, [0]⟩,
  ⟨(some 4), .box, [.r 1], none, [1]⟩,
  ⟨(some 5), .box, [.r 2], none, [2]⟩,
  ⟨(some 6), .mov, [.k (.int .i64 0)], none, [6]⟩]) <|
.seq (.ops [⟨(some 17), .ld (some 4), [.r 3], none, []⟩,
  ⟨(some 18), .call 63, [.r 17], none, [17]⟩,
  ⟨(some 16), .mov, [.r 18], none, [18]⟩,
  ⟨(some 19), .extract 0, [.r 16], none, []⟩,
  ⟨(some 20), .extract 1, [.r 16], none, [16]⟩,
  ⟨(some 7), .mov, [.r 19], none, [7, 19]⟩,
  ⟨(some 8), .mov, [.r 20], none, [20]⟩]) <|
.seq (.ops [⟨(some 22), .ld (some 4), [.r 3], none, []⟩,
  ⟨(some 23), .fa 0, [.r 5], none, []⟩,
  ⟨(some 24), .ld none, [.r 23], none, [23]⟩,
  ⟨(some 25), .fa 1, [.r 5], none, []⟩,
  ⟨(some 26), .ld none, [.r 25], none, [25]⟩,
  ⟨(some 27), .call 64, [.r 22, .r 24, .r 26], none, [22, 24, 26]⟩,
  ⟨(some 21), .mov, [.r 27], none, [27]⟩,
  ⟨(some 28), .extract 0, [.r 21], none, []⟩,
  ⟨(some 29), .extract 1, [.r 21], none, [21]⟩,
  ⟨(some 9), .new 0 [.int .i64 0, .int .i64 0, .int .i64 0], [], none, []⟩,
  ⟨none, .st 3, [.r 9, .r 28], none, [28]⟩,
  ⟨(some 10), .mov, [.r 29], none, [29]⟩]) <|
.seq (.seq (.ops [⟨(some 30), .mov, [.r 8], none, [8]⟩,
  ⟨(some 31), .bin .neq, [.r 30, .k (.int .i64 0)], none, [30]⟩,
  ⟨(some 32), .mov, [.r 31], none, [31]⟩,
  ⟨(some 33), .mov, [.r 10], (some (32, false)), [10]⟩,
  ⟨(some 34), .un .not, [.r 33], (some (32, false)), [33]⟩,
  ⟨(some 35), .pick, [.r 32, .k (.bool true), .r 34], none, [32, 34]⟩]) <|
.cond (.r 35)
  (.seq (.ops [⟨(some 6), .mov, [.k (.int .i64 0)], none, [3, 4, 5, 9, 35]⟩]) <|
  .ret)
  (.skip)) <|
.seq (.ops [⟨(some 11), .mov, [.k (.int .i64 0)], none, [35]⟩]) <|
.seq (.skip) <|
.seq (.seq (.ops [⟨(some 36), .fa 3, [.r 4], none, [4]⟩,
  ⟨(some 37), .ld none, [.r 36], none, [36]⟩,
  ⟨(some 38), .len, [.r 37], none, []⟩,
  ⟨(some 39), .mov, [.k (.int .i64 0)], none, []⟩]) <|
.block 0 (.loop m22_0)) <|
.seq (.ops [⟨(some 100), .mov, [.r 11], none, [3, 5, 9, 11, 37, 38, 39, 40]⟩,
  ⟨(some 6), .mov, [.r 100], none, [100]⟩]) <|
.ret⟩
theorem c22 : cFn Try.prog 22 = some m22.bare := by kernel_rfl

/-- 'swingbridge/swingbridgeref25.Passed' -/
def m23_0 : MCode := .seq (.seq (.ops [⟨(some 20), .mov, [.r 10], none, []⟩,
      ⟨(some 21), .fa 3, [.r 4], none, []⟩,
      ⟨(some 22), .ld none, [.r 21], none, [21]⟩,
      ⟨(some 23), .len, [.r 22], none, [22]⟩,
      ⟨(some 24), .bin .lss, [.r 20, .r 23], none, [20, 23]⟩,
      ⟨(some 25), .mov, [.r 24], none, [24]⟩,
      ⟨(some 26), .mov, [.r 8], (some (25, true)), []⟩,
      ⟨(some 27), .pick, [.r 25, .r 26, .k (.bool false)], none, [25, 26]⟩]) <|
    .cond (.r 27)
      (.skip)
      (.exit 0)) <|
    .seq (.block 1 (.seq (.ops [⟨(some 30), .fa 3, [.r 4], none, [27]⟩,
        ⟨(some 31), .ld none, [.r 30], none, [30]⟩,
        ⟨(some 32), .mov, [.r 10], none, []⟩,
        ⟨(some 33), .ia 5, [.r 31, .r 32], none, [31, 32]⟩,
        ⟨(some 34), .ld (some 5), [.r 33], none, [33]⟩,
        ⟨(some 11), .new 0 [.int .i64 0, .int .i64 0, .int .i64 0, .int .i64 0, .int .i64 0], [], none, []⟩,
        ⟨none, .st 5, [.r 11, .r 34], none, [34]⟩]) <|
      .seq (.ops [⟨(some 36), .ld (some 4), [.r 3], none, []⟩,
        ⟨(some 37), .ld (some 5), [.r 11], none, []⟩,
        ⟨(some 38), .call 65, [.r 36, .r 37], none, [36, 37]⟩,
        ⟨(some 35), .mov, [.r 38], none, [38]⟩,
        ⟨(some 39), .extract 0, [.r 35], none, []⟩,
        ⟨(some 40), .extract 1, [.r 35], none, [35]⟩,
        ⟨(some 12), .mov, [.r 39], none, [39]⟩,
        ⟨(some 13), .mov, [.r 40], none, [40]⟩]) <|
      .seq (.ops [⟨(some 41), .mov, [.r 13], none, [13]⟩,
        ⟨(some 42), .mov, [.r 41], none, [41]⟩,
        ⟨(some 43), .mov, [.r 12], (some (42, true)), [12]⟩,
        ⟨(some 44), .mov, [.r 7], (some (42, true)), []⟩,
        ⟨(some 45), .bin .eql, [.r 43, .r 44], (some (42, true)), [43, 44]⟩,
        ⟨(some 46), .pick, [.r 42, .r 45, .k (.bool false)], none, [42, 45]⟩,
        ⟨(some 47), .mov, [.r 46], none, [46]⟩,
        ⟨(some 48), .fa 0, [.r 11], (some (47, true)), []⟩,
        ⟨(some 49), .ld none, [.r 48], (some (47, true)), [48]⟩,
        ⟨(some 50), .fa 0, [.r 5], (some (47, true)), []⟩,
        ⟨(some 51), .ld none, [.r 50], (some (47, true)), [50]⟩,
        ⟨(some 52), .bin .neq, [.r 49, .r 51], (some (47, true)), [49, 51]⟩,
        ⟨(some 53), .pick, [.r 47, .r 52, .k (.bool false)], none, [47, 52]⟩,
        ⟨(some 54), .mov, [.r 53], none, [53]⟩,
        ⟨(some 55), .fa 3, [.r 11], (some (54, true)), []⟩,
        ⟨(some 56), .ld none, [.r 55], (some (54, true)), [55]⟩,
        ⟨(some 57), .fa 2, [.r 5], (some (54, true)), []⟩,
        ⟨(some 58), .ld none, [.r 57], (some (54, true)), [57]⟩,
        ⟨(some 59), .bin .geq, [.r 56, .r 58], (some (54, true)), [56, 58]⟩,
        ⟨(some 60), .mov, [.r 59], (some (54, true)), [59]⟩,
        ⟨(some 61), .fa 3, [.r 11], (some (60, true)), []⟩,
        ⟨(some 62), .ld none, [.r 61], (some (60, true)), [61]⟩,
        ⟨(some 63), .fa 3, [.r 5], (some (60, true)), []⟩,
        ⟨(some 64), .ld none, [.r 63], (some (60, true)), [63]⟩,
        ⟨(some 65), .bin .lss, [.r 62, .r 64], (some (60, true)), [62, 64]⟩,
        ⟨(some 66), .pick, [.r 60, .r 65, .k (.bool false)], (some (54, true)), [60, 65]⟩,
        ⟨(some 67), .mov, [.r 66], (some (54, true)), [66]⟩,
        ⟨(some 68), .fa 3, [.r 11], (some (67, false)), []⟩,
        ⟨(some 69), .ld none, [.r 68], (some (67, false)), [68]⟩,
        ⟨(some 70), .fa 2, [.r 5], (some (67, false)), []⟩,
        ⟨(some 71), .ld none, [.r 70], (some (67, false)), [70]⟩,
        ⟨(some 72), .bin .lss, [.r 69, .r 71], (some (67, false)), [69, 71]⟩,
        ⟨(some 73), .mov, [.r 72], (some (67, false)), [72]⟩,
        ⟨(some 74), .fa 4, [.r 11], (some (73, true)), [11]⟩,
        ⟨(some 75), .ld none, [.r 74], (some (73, true)), [74]⟩,
        ⟨(some 76), .fa 2, [.r 5], (some (73, true)), []⟩,
        ⟨(some 77), .ld none, [.r 76], (some (73, true)), [76]⟩,
        ⟨(some 78), .bin .gtr, [.r 75, .r 77], (some (73, true)), [75, 77]⟩,
        ⟨(some 79), .pick, [.r 73, .r 78, .k (.bool false)], (some (67, false)), [73, 78]⟩,
        ⟨(some 80), .pick, [.r 67, .k (.bool true), .r 79], (some (54, true)), [67, 79]⟩,
        ⟨(some 81), .pick, [.r 54, .r 80, .k (.bool false)], none, [54, 80]⟩]) <|
      .cond (.r 81)
        (.ops [⟨(some 82), .mov, [.r 9], none, [9, 81]⟩,
          ⟨(some 83), .bin .add, [.r 82, .k (.int .i64 1)], none, [82]⟩,
          ⟨(some 9), .mov, [.r 83], none, [83]⟩])
        (.skip))) <|
    .ops [⟨(some 28), .mov, [.r 10], none, [10, 81]⟩,
      ⟨(some 29), .bin .add, [.r 28, .k (.int .i64 1)], none, [28]⟩,
      ⟨(some 10), .mov, [.r 29], none, [29]⟩]
def m23 : MFn := ⟨[.tmp 6], .seq (.ops [⟨(some 3), .box, [.r 0], none, [0]⟩,
  ⟨(some 4), .box, [.r 1], none, [1]⟩,
  ⟨(some 5), .box, [.r 2], none, [2]⟩,
  ⟨(some 6), .mov, [.k (.int .i64 0)], none, [6]⟩]) <|
.seq (.ops [⟨(some 15), .ld (some 4), [.r 3], none, []⟩,
  ⟨(some 16), .ld (some 5), [.r 5], none, []⟩,
  ⟨(some 17), .call 65, [.r 15, .r 16], none, [15, 16]⟩,
  ⟨(some 14), .mov, [.r 17], none, [17]⟩,
  ⟨(some 18), .extract 0, [.r 14], none, []⟩,
  ⟨(some 19), .extract 1, [.r 14], none, [14]⟩,
  ⟨(some 7), .mov, [.r 18], none, [18]⟩,
  ⟨(some 8), .mov, [.r 19], none, [19]⟩]) <|
.seq (.ops [⟨(some 9), .mov, [.k (.int .i64 0)], none, []⟩]) <|
.seq (.seq (.ops [⟨(some 10), .mov, [.k (.int .i64 0)], none, []⟩]) <|
.block 0 (.loop m23_0)) <|
.seq (.ops [⟨(some 84), .mov, [.r 9], none, [3, 4, 5, 7, 8, 9, 10, 27]⟩,
  ⟨(some 6), .mov, [.r 84], none, [84]⟩]) <|
.ret⟩
theorem c23 : cFn Try.prog 23 = some m23.bare := by kernel_rfl

/-- 'swingbridge/delay.Inverted' -/
def m24_0 : MCode := .seq (.ops [⟨(some 46), .bin .lss, [.r 45, .r 44], none, []⟩]) <|
    .seq (.cond (.r 46)
      (.skip)
      (.exit 0)) <|
    .seq (.block 1 (.seq (.ops [⟨(some 47), .ia 4, [.r 43, .r 45], none, [46]⟩,
        ⟨(some 48), .ld (some 4), [.r 47], none, [47]⟩,
        ⟨(some 13), .new 0 [.int .i64 0, .int .i64 0, .int .i64 0, .bool false], [], none, []⟩,
        ⟨none, .st 4, [.r 13, .r 48], none, [48]⟩]) <|
      .seq (.ops [⟨(some 49), .fa 0, [.r 13], none, []⟩,
        ⟨(some 50), .ld none, [.r 49], none, [49]⟩,
        ⟨(some 51), .fa 1, [.r 5], none, []⟩,
        ⟨(some 52), .ld none, [.r 51], none, [51]⟩,
        ⟨(some 53), .minmax true, [.r 52, .k (.int .i64 0)], none, [52]⟩,
        ⟨(some 54), .bin .geq, [.r 50, .r 53], none, [50, 53]⟩,
        ⟨(some 55), .mov, [.r 54], none, [54]⟩,
        ⟨(some 56), .fa 0, [.r 13], (some (55, true)), []⟩,
        ⟨(some 57), .ld none, [.r 56], (some (55, true)), [56]⟩,
        ⟨(some 58), .fa 2, [.r 5], (some (55, true)), []⟩,
        ⟨(some 59), .ld none, [.r 58], (some (55, true)), [58]⟩,
        ⟨(some 60), .bin .lss, [.r 57, .r 59], (some (55, true)), [57, 59]⟩,
        ⟨(some 61), .pick, [.r 55, .r 60, .k (.bool false)], none, [55, 60]⟩,
        ⟨(some 62), .mov, [.r 61], none, [61]⟩,
        ⟨(some 63), .fa 0, [.r 13], (some (62, true)), []⟩,
        ⟨(some 64), .ld none, [.r 63], (some (62, true)), [63]⟩,
        ⟨(some 65), .bin .leq, [.r 64, .k (.int .i64 20000)], (some (62, true)), [64]⟩,
        ⟨(some 66), .pick, [.r 62, .r 65, .k (.bool false)], none, [62, 65]⟩,
        ⟨(some 67), .mov, [.r 66], none, [66]⟩,
        ⟨(some 68), .fa 1, [.r 13], (some (67, true)), []⟩,
        ⟨(some 69), .ld none, [.r 68], (some (67, true)), [68]⟩,
        ⟨(some 70), .fa 4, [.r 9], (some (67, true)), []⟩,
        ⟨(some 71), .ld none, [.r 70], (some (67, true)), [70]⟩,
        ⟨(some 72), .bin .eql, [.r 69, .r 71], (some (67, true)), [69, 71]⟩,
        ⟨(some 73), .pick, [.r 67, .r 72, .k (.bool false)], none, [67, 72]⟩,
        ⟨(some 14), .mov, [.r 73], none, [73]⟩]) <|
      .seq (.seq (.draw [⟨(some 74), .mov, [.r 14], none, [14]⟩,
        ⟨(some 75), .un .not, [.r 74], none, [74]⟩,
        ⟨(some 76), .mov, [.r 75], none, [75]⟩,
        ⟨(some 77), .fa 2, [.r 13], (some (76, false)), []⟩,
        ⟨(some 78), .ld none, [.r 77], (some (76, false)), [77]⟩,
        ⟨(some 79), .bin .lss, [.r 78, .k (.int .i64 0)], (some (76, false)), [78]⟩,
        ⟨(some 80), .pick, [.r 76, .k (.bool true), .r 79], none, [76, 79]⟩,
        ⟨(some 81), .mov, [.r 80], none, [80]⟩,
        ⟨(some 82), .fa 2, [.r 13], (some (81, false)), []⟩,
        ⟨(some 83), .ld none, [.r 82], (some (81, false)), [82]⟩,
        ⟨(some 84), .fa 3, [.r 3], (some (81, false)), []⟩,
        ⟨(some 85), .ld none, [.r 84], (some (81, false)), [84]⟩,
        ⟨(some 86), .len, [.r 85], (some (81, false)), [85]⟩,
        ⟨(some 87), .bin .geq, [.r 83, .r 86], (some (81, false)), [83, 86]⟩,
        ⟨(some 88), .pick, [.r 81, .k (.bool true), .r 87], none, [81, 87]⟩,
        ⟨(some 89), .mov, [.r 88], none, [88]⟩,
        ⟨(some 90), .fa 3, [.r 3], (some (89, false)), []⟩,
        ⟨(some 91), .ld none, [.r 90], (some (89, false)), [90]⟩,
        ⟨(some 92), .fa 2, [.r 13], (some (89, false)), []⟩,
        ⟨(some 93), .ld none, [.r 92], (some (89, false)), [92]⟩,
        ⟨(some 94), .ia 6, [.r 91, .r 93], (some (89, false)), [91, 93]⟩,
        ⟨(some 95), .fa 3, [.r 94], (some (89, false)), [94]⟩,
        ⟨(some 96), .ld none, [.r 95], (some (89, false)), [95]⟩,
        ⟨(some 97), .fa 3, [.r 9], (some (89, false)), []⟩,
        ⟨(some 98), .ld none, [.r 97], (some (89, false)), [97]⟩,
        ⟨(some 99), .bin .leq, [.r 96, .r 98], (some (89, false)), [96, 98]⟩,
        ⟨(some 100), .pick, [.r 89, .k (.bool true), .r 99], none, [89, 99]⟩,
        ⟨(some 101), .mov, [.r 100], none, [100]⟩,
        ⟨(some 102), .mov, [.r 10], (some (101, false)), []⟩,
        ⟨(some 103), .fa 0, [.r 13], (some (101, false)), []⟩,
        ⟨(some 104), .ld none, [.r 103], (some (101, false)), [103]⟩,
        ⟨(some 105), .look (.bool false) false, [.r 102, .r 104], (some (101, false)), [102, 104]⟩,
        ⟨(some 106), .pick, [.r 101, .k (.bool true), .r 105], none, [101, 105]⟩] []) <|
      .cond (.r 106)
        (.exit 1)
        (.skip)) <|
      .seq (.ops [⟨(some 107), .mov, [.r 10], none, [106]⟩,
        ⟨(some 108), .fa 0, [.r 13], none, []⟩,
        ⟨(some 109), .ld none, [.r 108], none, [108]⟩,
        ⟨none, .mset, [.r 107, .r 109, .k (.bool true)], none, [107, 109]⟩]) <|
      .seq (.ops [⟨(some 110), .ld (some 4), [.r 3], none, []⟩,
        ⟨(some 111), .ld (some 4), [.r 4], none, []⟩,
        ⟨(some 112), .fa 0, [.r 5], none, []⟩,
        ⟨(some 113), .ld none, [.r 112], none, [112]⟩,
        ⟨(some 114), .fa 0, [.r 13], none, [13]⟩,
        ⟨(some 115), .ld none, [.r 114], none, [114]⟩,
        ⟨(some 116), .call 66, [.r 110, .r 111, .r 113, .r 115], none, [110, 111, 113, 115]⟩,
        ⟨(some 117), .un .not, [.r 116], none, [116]⟩]) <|
      .cond (.r 117)
        (.ops [⟨(some 118), .mov, [.r 11], none, [11, 117]⟩,
          ⟨(some 119), .bin .add, [.r 118, .k (.int .i64 1)], none, [118]⟩,
          ⟨(some 11), .mov, [.r 119], none, [119]⟩])
        (.skip))) <|
    .ops [⟨(some 120), .bin .add, [.r 45, .k (.int .i64 1)], none, [13, 45, 106, 117]⟩,
      ⟨(some 45), .mov, [.r 120], none, [120]⟩]
def m24 : MFn := ⟨[.tmp 6], .seq (.ops [⟨(some 3), .box, [.r 0], none, [0]⟩,
  ⟨(some 4), .box, [.r 1], none, [1]⟩,
  ⟨(some 5), .box, [.r 2], none, [2]⟩,
  ⟨(some 6), .mov, [.k (.int .i64 0)], none, [6]⟩]) <|
.seq (.ops [⟨(some 16), .ld (some 4), [.r 3], none, []⟩,
  ⟨(some 17), .call 63, [.r 16], none, [16]⟩,
  ⟨(some 15), .mov, [.r 17], none, [17]⟩,
  ⟨(some 18), .extract 0, [.r 15], none, []⟩,
  ⟨(some 19), .extract 1, [.r 15], none, [15]⟩,
  ⟨(some 7), .mov, [.r 18], none, [7, 18]⟩,
  ⟨(some 8), .mov, [.r 19], none, [19]⟩]) <|
.seq (.seq (.ops [⟨(some 20), .mov, [.r 8], none, [8]⟩,
  ⟨(some 21), .bin .neq, [.r 20, .k (.int .i64 0)], none, [20]⟩,
  ⟨(some 22), .mov, [.r 21], none, [21]⟩,
  ⟨(some 23), .fa 0, [.r 5], (some (22, false)), []⟩,
  ⟨(some 24), .ld none, [.r 23], (some (22, false)), [23]⟩,
  ⟨(some 25), .bin .lss, [.r 24, .k (.int .i64 0)], (some (22, false)), [24]⟩,
  ⟨(some 26), .pick, [.r 22, .k (.bool true), .r 25], none, [22, 25]⟩,
  ⟨(some 27), .mov, [.r 26], none, [26]⟩,
  ⟨(some 28), .fa 0, [.r 5], (some (27, false)), []⟩,
  ⟨(some 29), .ld none, [.r 28], (some (27, false)), [28]⟩,
  ⟨(some 30), .fa 3, [.r 3], (some (27, false)), []⟩,
  ⟨(some 31), .ld none, [.r 30], (some (27, false)), [30]⟩,
  ⟨(some 32), .len, [.r 31], (some (27, false)), [31]⟩,
  ⟨(some 33), .bin .geq, [.r 29, .r 32], (some (27, false)), [29, 32]⟩,
  ⟨(some 34), .pick, [.r 27, .k (.bool true), .r 33], none, [27, 33]⟩]) <|
.cond (.r 34)
  (.seq (.ops [⟨(some 6), .mov, [.k (.int .i64 0)], none, [3, 4, 5, 34]⟩]) <|
  .ret)
  (.skip)) <|
.seq (.ops [⟨(some 35), .fa 3, [.r 3], none, [34]⟩,
  ⟨(some 36), .ld none, [.r 35], none, [35]⟩,
  ⟨(some 37), .fa 0, [.r 5], none, []⟩,
  ⟨(some 38), .ld none, [.r 37], none, [37]⟩,
  ⟨(some 39), .ia 6, [.r 36, .r 38], none, [36, 38]⟩,
  ⟨(some 40), .ld (some 6), [.r 39], none, [39]⟩,
  ⟨(some 9), .new 0 [.string ⟨#[]⟩, .int .i64 0, .int .i64 0, .int .i64 0, .int .i64 0, .slice none 0 0], [], none, []⟩,
  ⟨none, .st 6, [.r 9, .r 40], none, [40]⟩]) <|
.seq (.ops [⟨(some 41), .mkmap, [], none, []⟩,
  ⟨(some 10), .mov, [.r 41], none, [41]⟩]) <|
.seq (.ops [⟨(some 11), .mov, [.k (.int .i64 0)], none, []⟩]) <|
.seq (.skip) <|
.seq (.seq (.ops [⟨(some 42), .fa 1, [.r 4], none, []⟩,
  ⟨(some 43), .ld none, [.r 42], none, [42]⟩,
  ⟨(some 44), .len, [.r 43], none, []⟩,
  ⟨(some 45), .mov, [.k (.int .i64 0)], none, []⟩]) <|
.block 0 (.loop m24_0)) <|
.seq (.ops [⟨(some 121), .mov, [.r 11], none, [3, 4, 5, 9, 10, 11, 43, 44, 45, 46]⟩,
  ⟨(some 6), .mov, [.r 121], none, [121]⟩]) <|
.ret⟩
theorem c24 : cFn Try.prog 24 = some m24.bare := by kernel_rfl

/-- 'swingbridge/swingbridgeref25.Inverted' -/
def m25_0 : MCode := .seq (.seq (.ops [⟨(some 97), .mov, [.r 14], none, []⟩,
            ⟨(some 98), .fa 3, [.r 4], none, []⟩,
            ⟨(some 99), .ld none, [.r 98], none, [98]⟩,
            ⟨(some 100), .len, [.r 99], none, [99]⟩,
            ⟨(some 101), .bin .lss, [.r 97, .r 100], none, [97, 100]⟩]) <|
          .cond (.r 101)
            (.skip)
            (.exit 4)) <|
          .seq (.block 5 (.seq (.ops [⟨(some 104), .fa 3, [.r 4], none, [101]⟩,
              ⟨(some 105), .ld none, [.r 104], none, [104]⟩,
              ⟨(some 106), .mov, [.r 14], none, []⟩,
              ⟨(some 107), .ia 5, [.r 105, .r 106], none, [105, 106]⟩,
              ⟨(some 108), .ld (some 5), [.r 107], none, [107]⟩,
              ⟨(some 15), .new 0 [.int .i64 0, .int .i64 0, .int .i64 0, .int .i64 0, .int .i64 0], [], none, []⟩,
              ⟨none, .st 5, [.r 15, .r 108], none, [108]⟩]) <|
            .ops [⟨(some 109), .mov, [.r 10], none, [10]⟩,
              ⟨(some 110), .mov, [.r 109], none, [109]⟩,
              ⟨(some 111), .fa 0, [.r 15], (some (110, false)), []⟩,
              ⟨(some 112), .ld none, [.r 111], (some (110, false)), [111]⟩,
              ⟨(some 113), .fa 0, [.r 5], (some (110, false)), []⟩,
              ⟨(some 114), .ld none, [.r 113], (some (110, false)), [113]⟩,
              ⟨(some 115), .bin .eql, [.r 112, .r 114], (some (110, false)), [112, 114]⟩,
              ⟨(some 116), .mov, [.r 115], (some (110, false)), [115]⟩,
              ⟨(some 117), .fa 3, [.r 15], (some (116, true)), []⟩,
              ⟨(some 118), .ld none, [.r 117], (some (116, true)), [117]⟩,
              ⟨(some 119), .mov, [.r 9], (some (116, true)), []⟩,
              ⟨(some 120), .bin .leq, [.r 118, .r 119], (some (116, true)), [118, 119]⟩,
              ⟨(some 121), .pick, [.r 116, .r 120, .k (.bool false)], (some (110, false)), [116, 120]⟩,
              ⟨(some 122), .mov, [.r 121], (some (110, false)), [121]⟩,
              ⟨(some 123), .fa 4, [.r 15], (some (122, true)), [15]⟩,
              ⟨(some 124), .ld none, [.r 123], (some (122, true)), [123]⟩,
              ⟨(some 125), .mov, [.r 9], (some (122, true)), []⟩,
              ⟨(some 126), .bin .gtr, [.r 124, .r 125], (some (122, true)), [124, 125]⟩,
              ⟨(some 127), .pick, [.r 122, .r 126, .k (.bool false)], (some (110, false)), [122, 126]⟩,
              ⟨(some 128), .pick, [.r 110, .k (.bool true), .r 127], none, [110, 127]⟩,
              ⟨(some 10), .mov, [.r 128], none, [128]⟩])) <|
          .ops [⟨(some 102), .mov, [.r 14], none, [14]⟩,
            ⟨(some 103), .bin .add, [.r 102, .k (.int .i64 1)], none, [102]⟩,
            ⟨(some 14), .mov, [.r 103], none, [103]⟩]
def m25_1 : MCode := .seq (.seq (.ops [⟨(some 40), .mov, [.r 12], none, []⟩,
            ⟨(some 41), .fa 1, [.r 4], none, []⟩,
            ⟨(some 42), .ld none, [.r 41], none, [41]⟩,
            ⟨(some 43), .len, [.r 42], none, [42]⟩,
            ⟨(some 44), .bin .lss, [.r 40, .r 43], none, [40, 43]⟩]) <|
          .cond (.r 44)
            (.skip)
            (.exit 2)) <|
          .seq (.block 3 (.seq (.ops [⟨(some 47), .fa 1, [.r 4], none, [44]⟩,
              ⟨(some 48), .ld none, [.r 47], none, [47]⟩,
              ⟨(some 49), .mov, [.r 12], none, []⟩,
              ⟨(some 50), .ia 4, [.r 48, .r 49], none, [48, 49]⟩,
              ⟨(some 51), .ld (some 4), [.r 50], none, [50]⟩,
              ⟨(some 13), .new 0 [.int .i64 0, .int .i64 0, .int .i64 0, .bool false], [], none, []⟩,
              ⟨none, .st 4, [.r 13, .r 51], none, [51]⟩]) <|
            .seq (.seq (.ops [⟨(some 52), .fa 0, [.r 13], none, []⟩,
              ⟨(some 53), .ld none, [.r 52], none, [52]⟩,
              ⟨(some 54), .mov, [.r 9], none, []⟩,
              ⟨(some 55), .bin .neq, [.r 53, .r 54], none, [53, 54]⟩]) <|
            .cond (.r 55)
              (.exit 3)
              (.skip)) <|
            .seq (.ops [⟨(some 56), .mov, [.r 10], none, [10, 55]⟩,
              ⟨(some 57), .mov, [.r 56], none, [56]⟩,
              ⟨(some 58), .fa 2, [.r 13], (some (57, false)), []⟩,
              ⟨(some 59), .ld none, [.r 58], (some (57, false)), [58]⟩,
              ⟨(some 60), .fa 0, [.r 5], (some (57, false)), []⟩,
              ⟨(some 61), .ld none, [.r 60], (some (57, false)), [60]⟩,
              ⟨(some 62), .bin .eql, [.r 59, .r 61], (some (57, false)), [59, 61]⟩,
              ⟨(some 63), .pick, [.r 57, .k (.bool true), .r 62], none, [57, 62]⟩,
              ⟨(some 10), .mov, [.r 63], none, [63]⟩]) <|
            .draw [⟨(some 64), .mov, [.r 11], none, [11]⟩,
              ⟨(some 65), .mov, [.r 64], none, [64]⟩,
              ⟨(some 66), .fa 1, [.r 13], (some (65, false)), []⟩,
              ⟨(some 67), .ld none, [.r 66], (some (65, false)), [66]⟩,
              ⟨(some 68), .fa 4, [.r 8], (some (65, false)), []⟩,
              ⟨(some 69), .ld none, [.r 68], (some (65, false)), [68]⟩,
              ⟨(some 70), .bin .eql, [.r 67, .r 69], (some (65, false)), [67, 69]⟩,
              ⟨(some 71), .mov, [.r 70], (some (65, false)), [70]⟩,
              ⟨(some 72), .fa 2, [.r 13], (some (71, true)), []⟩,
              ⟨(some 73), .ld none, [.r 72], (some (71, true)), [72]⟩,
              ⟨(some 74), .bin .geq, [.r 73, .k (.int .i64 0)], (some (71, true)), [73]⟩,
              ⟨(some 75), .pick, [.r 71, .r 74, .k (.bool false)], (some (65, false)), [71, 74]⟩,
              ⟨(some 76), .mov, [.r 75], (some (65, false)), [75]⟩,
              ⟨(some 77), .fa 2, [.r 13], (some (76, true)), []⟩,
              ⟨(some 78), .ld none, [.r 77], (some (76, true)), [77]⟩,
              ⟨(some 79), .fa 3, [.r 3], (some (76, true)), []⟩,
              ⟨(some 80), .ld none, [.r 79], (some (76, true)), [79]⟩,
              ⟨(some 81), .len, [.r 80], (some (76, true)), [80]⟩,
              ⟨(some 82), .bin .lss, [.r 78, .r 81], (some (76, true)), [78, 81]⟩,
              ⟨(some 83), .pick, [.r 76, .r 82, .k (.bool false)], (some (65, false)), [76, 82]⟩,
              ⟨(some 84), .mov, [.r 83], (some (65, false)), [83]⟩,
              ⟨(some 85), .fa 3, [.r 3], (some (84, true)), []⟩,
              ⟨(some 86), .ld none, [.r 85], (some (84, true)), [85]⟩,
              ⟨(some 87), .fa 2, [.r 13], (some (84, true)), [13]⟩,
              ⟨(some 88), .ld none, [.r 87], (some (84, true)), [87]⟩,
              ⟨(some 89), .ia 6, [.r 86, .r 88], (some (84, true)), [86, 88]⟩,
              ⟨(some 90), .fa 3, [.r 89], (some (84, true)), [89]⟩,
              ⟨(some 91), .ld none, [.r 90], (some (84, true)), [90]⟩,
              ⟨(some 92), .fa 3, [.r 8], (some (84, true)), []⟩,
              ⟨(some 93), .ld none, [.r 92], (some (84, true)), [92]⟩,
              ⟨(some 94), .bin .gtr, [.r 91, .r 93], (some (84, true)), [91, 93]⟩,
              ⟨(some 95), .pick, [.r 84, .r 94, .k (.bool false)], (some (65, false)), [84, 94]⟩,
              ⟨(some 96), .pick, [.r 65, .k (.bool true), .r 95], none, [65, 95]⟩,
              ⟨(some 11), .mov, [.r 96], none, [96]⟩] [])) <|
          .ops [⟨(some 45), .mov, [.r 12], none, [12, 13, 55]⟩,
            ⟨(some 46), .bin .add, [.r 45, .k (.int .i64 1)], none, [45]⟩,
            ⟨(some 12), .mov, [.r 46], none, [46]⟩]
def m25_2 : MCode := .seq (.seq (.ops [⟨(some 30), .mov, [.r 9], none, []⟩,
      ⟨(some 31), .fa 2, [.r 5], none, []⟩,
      ⟨(some 32), .ld none, [.r 31], none, [31]⟩,
      ⟨(some 33), .bin .lss, [.r 30, .r 32], none, [30, 32]⟩,
      ⟨(some 34), .mov, [.r 33], none, [33]⟩,
      ⟨(some 35), .mov, [.r 9], (some (34, true)), []⟩,
      ⟨(some 36), .bin .leq, [.r 35, .k (.int .i64 20000)], (some (34, true)), [35]⟩,
      ⟨(some 37), .pick, [.r 34, .r 36, .k (.bool false)], none, [34, 36]⟩]) <|
    .cond (.r 37)
      (.skip)
      (.exit 0)) <|
    .seq (.block 1 (.seq (.ops [⟨(some 10), .mov, [.k (.bool false)], none, [37]⟩,
        ⟨(some 11), .mov, [.k (.bool false)], none, []⟩]) <|
      .seq (.seq (.ops [⟨(some 12), .mov, [.k (.int .i64 0)], none, []⟩]) <|
      .block 2 (.loop m25_1)) <|
      .seq (.seq (.ops [⟨(some 14), .mov, [.k (.int .i64 0)], none, [12, 44]⟩]) <|
      .block 4 (.loop m25_0)) <|
      .seq (.ops [⟨(some 129), .mov, [.r 11], none, [11, 14, 101]⟩,
        ⟨(some 130), .mov, [.r 129], none, [129]⟩,
        ⟨(some 131), .mov, [.r 10], (some (130, true)), [10]⟩,
        ⟨(some 132), .un .not, [.r 131], (some (130, true)), [131]⟩,
        ⟨(some 133), .pick, [.r 130, .r 132, .k (.bool false)], none, [130, 132]⟩]) <|
      .cond (.r 133)
        (.ops [⟨(some 134), .mov, [.r 7], none, [7, 133]⟩,
          ⟨(some 135), .bin .add, [.r 134, .k (.int .i64 1)], none, [134]⟩,
          ⟨(some 7), .mov, [.r 135], none, [135]⟩])
        (.skip))) <|
    .ops [⟨(some 38), .mov, [.r 9], none, [9, 133]⟩,
      ⟨(some 39), .bin .add, [.r 38, .k (.int .i64 1)], none, [38]⟩,
      ⟨(some 9), .mov, [.r 39], none, [39]⟩]
def m25 : MFn := ⟨[.tmp 6], .seq (.ops [⟨(some 3), .box, [.r 0], none, [0]⟩,
  ⟨(some 4), .box, [.r 1], none, [1]⟩,
  ⟨(some 5), .box, [.r 2], none, [2]⟩,
  ⟨(some 6), .mov, [.k (.int .i64 0)], none, [6]⟩]) <|
.seq (.seq (.ops [⟨(some 16), .ld (some 4), [.r 3], none, []⟩,
  ⟨(some 17), .fa 0, [.r 5], none, []⟩,
  ⟨(some 18), .ld none, [.r 17], none, [17]⟩,
  ⟨(some 19), .call 67, [.r 16, .r 18], none, [16, 18]⟩,
  ⟨(some 20), .un .not, [.r 19], none, [19]⟩]) <|
.cond (.r 20)
  (.seq (.ops [⟨(some 6), .mov, [.k (.int .i64 0)], none, [3, 4, 5, 20]⟩]) <|
  .ret)
  (.skip)) <|
.seq (.ops [⟨(some 7), .mov, [.k (.int .i64 0)], none, [20]⟩]) <|
.seq (.ops [⟨(some 21), .fa 3, [.r 3], none, []⟩,
  ⟨(some 22), .ld none, [.r 21], none, [21]⟩,
  ⟨(some 23), .fa 0, [.r 5], none, []⟩,
  ⟨(some 24), .ld none, [.r 23], none, [23]⟩,
  ⟨(some 25), .ia 6, [.r 22, .r 24], none, [22, 24]⟩,
  ⟨(some 26), .ld (some 6), [.r 25], none, [25]⟩,
  ⟨(some 8), .new 0 [.string ⟨#[]⟩, .int .i64 0, .int .i64 0, .int .i64 0, .int .i64 0, .slice none 0 0], [], none, []⟩,
  ⟨none, .st 6, [.r 8, .r 26], none, [26]⟩]) <|
.seq (.seq (.ops [⟨(some 27), .fa 1, [.r 5], none, []⟩,
  ⟨(some 28), .ld none, [.r 27], none, [27]⟩,
  ⟨(some 29), .minmax true, [.k (.int .i64 0), .r 28], none, [28]⟩,
  ⟨(some 9), .mov, [.r 29], none, [29]⟩]) <|
.block 0 (.loop m25_2)) <|
.seq (.ops [⟨(some 136), .mov, [.r 7], none, [3, 4, 5, 7, 8, 9, 37]⟩,
  ⟨(some 6), .mov, [.r 136], none, [136]⟩]) <|
.ret⟩
theorem c25 : cFn Try.prog 25 = some m25.bare := by kernel_rfl

/-- 'swingbridge/swingbridgelaw26.two' -/
def m26 : MFn := ⟨[.cell 10 (some 4)], .seq (.ops [⟨(some 10), .new 0 [.int .i64 0, .slice none 0 0, .slice none 0 0, .slice none 0 0], [], none, []⟩]) <|
.seq (.ops [⟨(some 12), .mov, [.r 0], none, [0]⟩,
  ⟨(some 13), .mov, [.r 1], none, [1]⟩,
  ⟨(some 14), .build [.int .i64 0, .int .i64 0, .int .i64 0] [(0, 1), (1, 1)], [.k (.int .i64 1), .r 13], none, [13]⟩,
  ⟨(some 15), .mov, [.r 2], none, [2]⟩,
  ⟨(some 16), .build [.int .i64 0, .int .i64 0, .int .i64 0] [(0, 1), (1, 1)], [.k (.int .i64 3), .r 15], none, [15]⟩,
  ⟨(some 17), .bslice 3 2 [.int .i64 0, .int .i64 0, .int .i64 0] [(0, 3), (3, 3)], [.r 14, .r 16], none, [14, 16]⟩,
  ⟨(some 18), .call 68, [.r 12, .r 17], none, [12, 17]⟩,
  ⟨(some 11), .new 0 [.int .i64 0, .slice none 0 0, .slice none 0 0, .slice none 0 0], [], none, []⟩,
  ⟨none, .st 4, [.r 11, .r 18], none, [18]⟩]) <|
.seq (.ops [⟨(some 19), .fa 3, [.r 11], none, []⟩,
  ⟨(some 20), .ld none, [.r 19], none, [19]⟩,
  ⟨(some 21), .mov, [.r 3], none, [3]⟩,
  ⟨(some 22), .build [.int .i64 0, .int .i64 0, .int .i64 0] [(0, 1), (1, 1)], [.k (.int .i64 1), .r 21], none, [21]⟩,
  ⟨(some 23), .mov, [.r 4], none, [4]⟩,
  ⟨(some 24), .build [.int .i64 0, .int .i64 0, .int .i64 0] [(0, 1), (1, 1)], [.k (.int .i64 3), .r 23], none, [23]⟩,
  ⟨(some 25), .bslice 3 2 [.int .i64 0, .int .i64 0, .int .i64 0] [(0, 3), (3, 3)], [.r 22, .r 24], none, [22, 24]⟩,
  ⟨(some 26), .build [.string ⟨#[]⟩, .int .i64 0, .int .i64 0, .int .i64 0, .int .i64 0, .slice none 0 0] [(0, 1), (1, 1), (2, 1), (3, 1), (5, 1)], [.k (.string ⟨#[98]⟩), .k (.int .i64 200), .k (.int .i64 200), .k (.int .i64 2), .r 25], none, [25]⟩,
  ⟨(some 27), .bslice 6 1 [.string ⟨#[]⟩, .int .i64 0, .int .i64 0, .int .i64 0, .int .i64 0, .slice none 0 0] [(0, 6)], [.r 26], none, [26]⟩,
  ⟨(some 28), .app 6 72, [.r 20, .r 27], none, [20, 27]⟩,
  ⟨(some 29), .fa 3, [.r 11], none, []⟩,
  ⟨none, .st 1, [.r 29, .r 28], none, [28, 29]⟩]) <|
.seq (.ops [⟨(some 30), .ld (some 4), [.r 11], none, [11]⟩,
  ⟨none, .st 4, [.r 10, .r 30], none, [30]⟩]) <|
.ret⟩
theorem c26 : cFn Try.prog 26 = some m26.bare := by kernel_rfl

/-- 'swingbridge/swingbridgeref2.SameInts' -/
def m38_0 : MCode := .seq (.seq (.ops [⟨(some 11), .mov, [.r 5], none, []⟩,
      ⟨(some 12), .mov, [.r 0], none, []⟩,
      ⟨(some 13), .len, [.r 12], none, [12]⟩,
      ⟨(some 14), .bin .lss, [.r 11, .r 13], none, [11, 13]⟩]) <|
    .cond (.r 14)
      (.skip)
      (.exit 0)) <|
    .seq (.block 1 (.seq (.draw [⟨(some 17), .mov, [.r 0], none, [14]⟩,
        ⟨(some 18), .mov, [.r 5], none, []⟩,
        ⟨(some 19), .ia 1, [.r 17, .r 18], none, [17, 18]⟩,
        ⟨(some 20), .ld none, [.r 19], none, [19]⟩,
        ⟨(some 21), .mov, [.r 1], none, []⟩,
        ⟨(some 22), .mov, [.r 5], none, []⟩,
        ⟨(some 23), .ia 1, [.r 21, .r 22], none, [21, 22]⟩,
        ⟨(some 24), .ld none, [.r 23], none, [23]⟩,
        ⟨(some 25), .bin .neq, [.r 20, .r 24], none, [20, 24]⟩] []) <|
      .cond (.r 25)
        (.seq (.ops [⟨(some 4), .mov, [.k (.bool false)], none, [0, 1, 5, 25]⟩]) <|
        .ret)
        (.skip))) <|
    .ops [⟨(some 15), .mov, [.r 5], none, [5, 25]⟩,
      ⟨(some 16), .bin .add, [.r 15, .k (.int .i64 1)], none, [15]⟩,
      ⟨(some 5), .mov, [.r 16], none, [16]⟩]
def m38 : MFn := ⟨[.tmp 4], .seq (.ops [⟨(some 4), .mov, [.k (.bool false)], none, [4]⟩]) <|
.seq (.seq (.ops [⟨(some 6), .mov, [.r 0], none, []⟩,
  ⟨(some 7), .len, [.r 6], none, [6]⟩,
  ⟨(some 8), .mov, [.r 1], none, []⟩,
  ⟨(some 9), .len, [.r 8], none, [8]⟩,
  ⟨(some 10), .bin .neq, [.r 7, .r 9], none, [7, 9]⟩]) <|
.cond (.r 10)
  (.seq (.ops [⟨(some 4), .mov, [.k (.bool false)], none, [0, 1, 10]⟩]) <|
  .ret)
  (.skip)) <|
.seq (.seq (.ops [⟨(some 5), .mov, [.k (.int .i64 0)], none, [10]⟩]) <|
.block 0 (.loop m38_0)) <|
.seq (.ops [⟨(some 4), .mov, [.k (.bool true)], none, [0, 1, 5, 14]⟩]) <|
.ret⟩
theorem c38 : cFn Try.prog 38 = some m38.bare := by kernel_rfl

/-- 'swingbridge/swingbridgelaw25.known' -/
def m53 : MFn := ⟨[.tmp 0], .seq (.ops [⟨(some 0), .mov, [.k (.bool false)], none, [0]⟩]) <|
.seq (.ops [⟨(some 9), .build [.int .i64 0, .int .i64 0, .int .i64 0] [(0, 1), (1, 1)], [.k (.int .i64 3), .k (.int .i64 2)], none, []⟩,
  ⟨(some 10), .bslice 3 1 [.int .i64 0, .int .i64 0, .int .i64 0] [(0, 3)], [.r 9], none, [9]⟩,
  ⟨(some 11), .call 80, [.k (.int .i64 1), .r 10], none, [10]⟩,
  ⟨(some 1), .new 0 [.int .i64 0, .slice none 0 0, .slice none 0 0, .slice none 0 0], [], none, []⟩,
  ⟨none, .st 4, [.r 1, .r 11], none, [11]⟩]) <|
.seq (.ops [⟨(some 12), .build [.int .i64 0, .int .i64 0, .int .i64 0, .bool false] [(0, 1), (3, 1)], [.k (.int .i64 1), .k (.bool true)], none, []⟩,
  ⟨(some 13), .build [.int .i64 0, .int .i64 0, .int .i64 0, .bool false] [(0, 1), (3, 1)], [.k (.int .i64 2), .k (.bool true)], none, []⟩,
  ⟨(some 14), .bslice 4 2 [.int .i64 0, .int .i64 0, .int .i64 0, .bool false] [(0, 4), (4, 4)], [.r 12, .r 13], none, [12, 13]⟩,
  ⟨(some 15), .build [.int .i64 0, .int .i64 0, .int .i64 0] [(1, 1), (2, 1)], [.k (.int .i64 1), .k (.int .i64 3)], none, []⟩,
  ⟨(some 16), .bslice 3 1 [.int .i64 0, .int .i64 0, .int .i64 0] [(0, 3)], [.r 15], none, [15]⟩,
  ⟨(some 17), .build [.int .i64 0, .int .i64 0, .int .i64 0, .int .i64 0, .int .i64 0] [(2, 1), (3, 1), (4, 1)], [.k (.int .i64 1), .k (.int .i64 1), .k (.int .i64 3)], none, []⟩,
  ⟨(some 18), .bslice 5 1 [.int .i64 0, .int .i64 0, .int .i64 0, .int .i64 0, .int .i64 0] [(0, 5)], [.r 17], none, [17]⟩,
  ⟨(some 19), .build [.int .i64 0, .slice none 0 0, .slice none 0 0, .slice none 0 0] [(0, 1), (1, 1), (2, 1), (3, 1)], [.k (.int .i64 5), .r 14, .r 16, .r 18], none, [14, 16, 18]⟩,
  ⟨(some 2), .new 0 [.int .i64 0, .slice none 0 0, .slice none 0 0, .slice none 0 0], [], none, []⟩,
  ⟨none, .st 4, [.r 2, .r 19], none, [19]⟩]) <|
.seq (.ops [⟨(some 21), .ld (some 4), [.r 2], none, []⟩,
  ⟨(some 22), .ld (some 4), [.r 1], none, []⟩,
  ⟨(some 23), .call 56, [.r 21, .r 22, .k (.int .i64 2), .k (.int .i64 0)], none, [21, 22]⟩,
  ⟨(some 20), .mov, [.r 23], none, [23]⟩,
  ⟨(some 24), .extract 0, [.r 20], none, []⟩,
  ⟨(some 25), .extract 1, [.r 20], none, [20]⟩,
  ⟨(some 3), .mov, [.r 24], none, [24]⟩,
  ⟨(some 4), .mov, [.r 25], none, [25]⟩]) <|
.seq (.ops [⟨(some 27), .ld (some 4), [.r 2], none, []⟩,
  ⟨(some 28), .ld (some 4), [.r 1], none, []⟩,
  ⟨(some 29), .call 56, [.r 27, .r 28, .k (.int .i64 3), .k (.int .i64 0)], none, [27, 28]⟩,
  ⟨(some 26), .mov, [.r 29], none, [29]⟩,
  ⟨(some 30), .extract 0, [.r 26], none, []⟩,
  ⟨(some 31), .extract 1, [.r 26], none, [26]⟩,
  ⟨(some 5), .mov, [.r 30], none, [5, 30]⟩,
  ⟨(some 6), .mov, [.r 31], none, [31]⟩]) <|
.seq (.ops [⟨(some 32), .ld (some 4), [.r 2], none, []⟩,
  ⟨(some 33), .call 60, [.r 32, .k (.int .i64 2), .k (.int .i64 0)], none, [32]⟩,
  ⟨(some 7), .mov, [.r 33], none, [33]⟩]) <|
.seq (.ops [⟨(some 34), .ld (some 4), [.r 2], none, []⟩,
  ⟨(some 8), .new 0 [.int .i64 0, .slice none 0 0, .slice none 0 0, .slice none 0 0], [], none, []⟩,
  ⟨none, .st 4, [.r 8, .r 34], none, [34]⟩]) <|
.seq (.ops [⟨(some 35), .fa 0, [.r 8], none, []⟩,
  ⟨none, .st 1, [.r 35, .k (.int .i64 2)], none, [35]⟩]) <|
.seq (.ops [⟨(some 36), .ld (some 4), [.r 1], none, []⟩,
  ⟨(some 37), .ld (some 4), [.r 2], none, [2]⟩,
  ⟨(some 38), .call 58, [.r 36, .r 37], none, [36, 37]⟩,
  ⟨(some 39), .mov, [.r 38], none, [38]⟩,
  ⟨(some 40), .ld (some 4), [.r 1], (some (39, true)), []⟩,
  ⟨(some 41), .ld (some 4), [.r 8], (some (39, true)), [8]⟩,
  ⟨(some 42), .call 58, [.r 40, .r 41], (some (39, true)), [40, 41]⟩,
  ⟨(some 43), .un .not, [.r 42], (some (39, true)), [42]⟩,
  ⟨(some 44), .pick, [.r 39, .r 43, .k (.bool false)], none, [39, 43]⟩,
  ⟨(some 45), .mov, [.r 44], none, [44]⟩,
  ⟨(some 46), .mov, [.r 4], (some (45, true)), [4]⟩,
  ⟨(some 47), .pick, [.r 45, .r 46, .k (.bool false)], none, [45, 46]⟩,
  ⟨(some 48), .mov, [.r 47], none, [47]⟩,
  ⟨(some 49), .mov, [.r 3], (some (48, true)), [3]⟩,
  ⟨(some 50), .bin .eql, [.r 49, .k (.int .i64 0)], (some (48, true)), [49]⟩,
  ⟨(some 51), .pick, [.r 48, .r 50, .k (.bool false)], none, [48, 50]⟩,
  ⟨(some 52), .mov, [.r 51], none, [51]⟩,
  ⟨(some 53), .mov, [.r 6], (some (52, true)), [6]⟩,
  ⟨(some 54), .un .not, [.r 53], (some (52, true)), [53]⟩,
  ⟨(some 55), .pick, [.r 52, .r 54, .k (.bool false)], none, [52, 54]⟩,
  ⟨(some 56), .mov, [.r 55], none, [55]⟩,
  ⟨(some 57), .mov, [.r 7], (some (56, true)), [7]⟩,
  ⟨(some 58), .len, [.r 57], (some (56, true)), [57]⟩,
  ⟨(some 59), .bin .eql, [.r 58, .k (.int .i64 1)], (some (56, true)), [58]⟩,
  ⟨(some 60), .pick, [.r 56, .r 59, .k (.bool false)], none, [56, 59]⟩,
  ⟨(some 61), .mov, [.r 60], none, [60]⟩,
  ⟨(some 62), .ld (some 4), [.r 1], (some (61, true)), [1]⟩,
  ⟨(some 63), .build [.int .i64 0, .slice none 0 0, .slice none 0 0, .slice none 0 0] [], [], (some (61, true)), []⟩,
  ⟨(some 64), .call 58, [.r 62, .r 63], (some (61, true)), [62, 63]⟩,
  ⟨(some 65), .pick, [.r 61, .r 64, .k (.bool false)], none, [61, 64]⟩,
  ⟨(some 66), .mov, [.r 65], none, [65]⟩,
  ⟨(some 67), .build [.int .i64 0, .slice none 0 0, .slice none 0 0, .slice none 0 0] [], [], (some (66, true)), []⟩,
  ⟨(some 68), .build [.int .i64 0, .slice none 0 0, .slice none 0 0, .slice none 0 0] [], [], (some (66, true)), []⟩,
  ⟨(some 69), .call 58, [.r 67, .r 68], (some (66, true)), [67, 68]⟩,
  ⟨(some 70), .un .not, [.r 69], (some (66, true)), [69]⟩,
  ⟨(some 71), .pick, [.r 66, .r 70, .k (.bool false)], none, [66, 70]⟩,
  ⟨(some 0), .mov, [.r 71], none, [71]⟩]) <|
.ret⟩
theorem c53 : cFn Try.prog 53 = some m53.bare := by kernel_rfl

/-- 'swingbridge/swingbridgelaw25.few' -/
def m54_0 : MCode := .seq (.seq (.ops [⟨(some 20), .mov, [.r 3], none, []⟩,
      ⟨(some 21), .fa 3, [.r 1], none, []⟩,
      ⟨(some 22), .ld none, [.r 21], none, [21]⟩,
      ⟨(some 23), .len, [.r 22], none, [22]⟩,
      ⟨(some 24), .bin .lss, [.r 20, .r 23], none, [20, 23]⟩]) <|
    .cond (.r 24)
      (.skip)
      (.exit 0)) <|
    .seq (.block 1 (.seq (.ops [⟨(some 27), .fa 3, [.r 1], none, [24]⟩,
        ⟨(some 28), .ld none, [.r 27], none, [27]⟩,
        ⟨(some 29), .mov, [.r 3], none, []⟩,
        ⟨(some 30), .ia 6, [.r 28, .r 29], none, [28, 29]⟩,
        ⟨(some 31), .fa 0, [.r 30], none, [30]⟩,
        ⟨(some 32), .ld none, [.r 31], none, [31]⟩,
        ⟨(some 33), .lens, [.r 32], none, [32]⟩,
        ⟨(some 34), .bin .gtr, [.r 33, .k (.int .i64 20)], none, [33]⟩,
        ⟨(some 35), .mov, [.r 34], none, [34]⟩,
        ⟨(some 36), .fa 3, [.r 1], (some (35, false)), []⟩,
        ⟨(some 37), .ld none, [.r 36], (some (35, false)), [36]⟩,
        ⟨(some 38), .mov, [.r 3], (some (35, false)), []⟩,
        ⟨(some 39), .ia 6, [.r 37, .r 38], (some (35, false)), [37, 38]⟩,
        ⟨(some 40), .fa 5, [.r 39], (some (35, false)), [39]⟩,
        ⟨(some 41), .ld none, [.r 40], (some (35, false)), [40]⟩,
        ⟨(some 42), .len, [.r 41], (some (35, false)), [41]⟩,
        ⟨(some 43), .bin .gtr, [.r 42, .k (.int .i64 10)], (some (35, false)), [42]⟩,
        ⟨(some 44), .pick, [.r 35, .k (.bool true), .r 43], none, [35, 43]⟩]) <|
      .cond (.r 44)
        (.seq (.ops [⟨(some 2), .mov, [.k (.bool false)], none, [1, 3, 44]⟩]) <|
        .ret)
        (.skip))) <|
    .ops [⟨(some 25), .mov, [.r 3], none, [3, 44]⟩,
      ⟨(some 26), .bin .add, [.r 25, .k (.int .i64 1)], none, [25]⟩,
      ⟨(some 3), .mov, [.r 26], none, [26]⟩]
def m54 : MFn := ⟨[.tmp 2], .seq (.ops [⟨(some 1), .box, [.r 0], none, [0]⟩,
  ⟨(some 2), .mov, [.k (.bool false)], none, [2]⟩]) <|
.seq (.seq (.ops [⟨(some 4), .fa 1, [.r 1], none, []⟩,
  ⟨(some 5), .ld none, [.r 4], none, [4]⟩,
  ⟨(some 6), .len, [.r 5], none, [5]⟩,
  ⟨(some 7), .bin .gtr, [.r 6, .k (.int .i64 8)], none, [6]⟩,
  ⟨(some 8), .mov, [.r 7], none, [7]⟩,
  ⟨(some 9), .fa 2, [.r 1], (some (8, false)), []⟩,
  ⟨(some 10), .ld none, [.r 9], (some (8, false)), [9]⟩,
  ⟨(some 11), .len, [.r 10], (some (8, false)), [10]⟩,
  ⟨(some 12), .bin .gtr, [.r 11, .k (.int .i64 10)], (some (8, false)), [11]⟩,
  ⟨(some 13), .pick, [.r 8, .k (.bool true), .r 12], none, [8, 12]⟩,
  ⟨(some 14), .mov, [.r 13], none, [13]⟩,
  ⟨(some 15), .fa 3, [.r 1], (some (14, false)), []⟩,
  ⟨(some 16), .ld none, [.r 15], (some (14, false)), [15]⟩,
  ⟨(some 17), .len, [.r 16], (some (14, false)), [16]⟩,
  ⟨(some 18), .bin .gtr, [.r 17, .k (.int .i64 9)], (some (14, false)), [17]⟩,
  ⟨(some 19), .pick, [.r 14, .k (.bool true), .r 18], none, [14, 18]⟩]) <|
.cond (.r 19)
  (.seq (.ops [⟨(some 2), .mov, [.k (.bool false)], none, [1, 19]⟩]) <|
  .ret)
  (.skip)) <|
.seq (.seq (.ops [⟨(some 3), .mov, [.k (.int .i64 0)], none, [19]⟩]) <|
.block 0 (.loop m54_0)) <|
.seq (.ops [⟨(some 2), .mov, [.k (.bool true)], none, [1, 3, 24]⟩]) <|
.ret⟩
theorem c54 : cFn Try.prog 54 = some m54.bare := by kernel_rfl

/-- 'swingbridge/swingbridgelaw25.fewTrace' -/
def m55 : MFn := ⟨[.tmp 2], .seq (.ops [⟨(some 1), .box, [.r 0], none, [0]⟩,
  ⟨(some 2), .mov, [.k (.bool false)], none, [2]⟩]) <|
.seq (.ops [⟨(some 3), .fa 1, [.r 1], none, []⟩,
  ⟨(some 4), .ld none, [.r 3], none, [3]⟩,
  ⟨(some 5), .len, [.r 4], none, [4]⟩,
  ⟨(some 6), .bin .leq, [.r 5, .k (.int .i64 60)], none, [5]⟩,
  ⟨(some 7), .mov, [.r 6], none, [6]⟩,
  ⟨(some 8), .fa 2, [.r 1], (some (7, true)), []⟩,
  ⟨(some 9), .ld none, [.r 8], (some (7, true)), [8]⟩,
  ⟨(some 10), .len, [.r 9], (some (7, true)), [9]⟩,
  ⟨(some 11), .bin .leq, [.r 10, .k (.int .i64 30)], (some (7, true)), [10]⟩,
  ⟨(some 12), .pick, [.r 7, .r 11, .k (.bool false)], none, [7, 11]⟩,
  ⟨(some 13), .mov, [.r 12], none, [12]⟩,
  ⟨(some 14), .fa 3, [.r 1], (some (13, true)), [1]⟩,
  ⟨(some 15), .ld none, [.r 14], (some (13, true)), [14]⟩,
  ⟨(some 16), .len, [.r 15], (some (13, true)), [15]⟩,
  ⟨(some 17), .bin .leq, [.r 16, .k (.int .i64 30)], (some (13, true)), [16]⟩,
  ⟨(some 18), .pick, [.r 13, .r 17, .k (.bool false)], none, [13, 17]⟩,
  ⟨(some 2), .mov, [.r 18], none, [18]⟩]) <|
.ret⟩
theorem c55 : cFn Try.prog 55 = some m55.bare := by kernel_rfl

/-- 'swingbridge/legal.Holder' -/
def m56_0 : MCode := .seq (.ops [⟨(some 27), .bin .lss, [.r 26, .r 25], none, []⟩]) <|
    .seq (.cond (.r 27)
      (.skip)
      (.exit 0)) <|
    .seq (.block 1 (.seq (.ops [⟨(some 28), .ia 5, [.r 24, .r 26], none, [27]⟩,
        ⟨(some 29), .ld (some 5), [.r 28], none, [28]⟩,
        ⟨(some 13), .new 0 [.int .i64 0, .int .i64 0, .int .i64 0, .int .i64 0, .int .i64 0], [], none, []⟩,
        ⟨none, .st 5, [.r 13, .r 29], none, [29]⟩]) <|
      .seq (.ops [⟨(some 31), .ld (some 4), [.r 5], none, []⟩,
        ⟨(some 32), .fa 0, [.r 13], none, []⟩,
        ⟨(some 33), .ld none, [.r 32], none, [32]⟩,
        ⟨(some 34), .fa 1, [.r 13], none, []⟩,
        ⟨(some 35), .ld none, [.r 34], none, [34]⟩,
        ⟨(some 36), .call 81, [.r 31, .r 33, .r 35], none, [31, 33, 35]⟩,
        ⟨(some 30), .mov, [.r 36], none, [36]⟩,
        ⟨(some 37), .extract 0, [.r 30], none, []⟩,
        ⟨(some 38), .extract 1, [.r 30], none, [30]⟩,
        ⟨(some 14), .new 0 [.int .i64 0, .int .i64 0, .int .i64 0], [], none, []⟩,
        ⟨none, .st 3, [.r 14, .r 37], none, [37]⟩,
        ⟨(some 15), .mov, [.r 38], none, [38]⟩]) <|
      .seq (.ops [⟨(some 39), .mov, [.r 15], none, [15]⟩,
        ⟨(some 40), .mov, [.r 39], none, [39]⟩,
        ⟨(some 41), .fa 2, [.r 14], (some (40, true)), [14]⟩,
        ⟨(some 42), .ld none, [.r 41], (some (40, true)), [41]⟩,
        ⟨(some 43), .mov, [.r 3], (some (40, true)), []⟩,
        ⟨(some 44), .bin .eql, [.r 42, .r 43], (some (40, true)), [42, 43]⟩,
        ⟨(some 45), .pick, [.r 40, .r 44, .k (.bool false)], none, [40, 44]⟩,
        ⟨(some 46), .mov, [.r 45], none, [45]⟩,
        ⟨(some 47), .fa 3, [.r 13], (some (46, true)), []⟩,
        ⟨(some 48), .ld none, [.r 47], (some (46, true)), [47]⟩,
        ⟨(some 49), .mov, [.r 2], (some (46, true)), []⟩,
        ⟨(some 50), .bin .leq, [.r 48, .r 49], (some (46, true)), [48, 49]⟩,
        ⟨(some 51), .pick, [.r 46, .r 50, .k (.bool false)], none, [46, 50]⟩,
        ⟨(some 52), .mov, [.r 51], none, [51]⟩,
        ⟨(some 53), .fa 4, [.r 13], (some (52, true)), []⟩,
        ⟨(some 54), .ld none, [.r 53], (some (52, true)), [53]⟩,
        ⟨(some 55), .mov, [.r 2], (some (52, true)), []⟩,
        ⟨(some 56), .bin .gtr, [.r 54, .r 55], (some (52, true)), [54, 55]⟩,
        ⟨(some 57), .pick, [.r 52, .r 56, .k (.bool false)], none, [52, 56]⟩]) <|
      .cond (.r 57)
        (.seq (.ops [⟨(some 58), .fa 0, [.r 13], none, [2, 3, 5, 13, 24, 25, 26, 57]⟩,
          ⟨(some 59), .ld none, [.r 58], none, [58]⟩,
          ⟨(some 8), .mov, [.r 59], none, [59]⟩,
          ⟨(some 9), .mov, [.k (.bool true)], none, []⟩]) <|
        .ret)
        (.skip))) <|
    .ops [⟨(some 60), .bin .add, [.r 26, .k (.int .i64 1)], none, [13, 26, 57]⟩,
      ⟨(some 26), .mov, [.r 60], none, [60]⟩]
def m56 : MFn := ⟨[.tmp 8, .tmp 9], .seq (.ops [⟨(some 4), .box, [.r 0], none, [0]⟩,
  ⟨(some 5), .box, [.r 1], none, [1]⟩,
  ⟨(some 8), .mov, [.k (.int .i64 0)], none, [8]⟩,
  ⟨(some 9), .mov, [.k (.bool false)], none, [9]⟩]) <|
.seq (.seq (.ops [⟨(some 17), .ld (some 4), [.r 5], none, []⟩,
  ⟨(some 18), .call 63, [.r 17], none, [17]⟩,
  ⟨(some 16), .mov, [.r 18], none, [18]⟩,
  ⟨(some 19), .extract 0, [.r 16], none, []⟩,
  ⟨(some 20), .extract 1, [.r 16], none, [16]⟩,
  ⟨(some 10), .mov, [.r 19], none, [10, 19]⟩,
  ⟨(some 11), .mov, [.r 20], none, [20]⟩]) <|
.seq (.ops [⟨(some 21), .mov, [.r 11], none, [11]⟩,
  ⟨(some 22), .bin .neq, [.r 21, .k (.int .i64 0)], none, [21]⟩]) <|
.cond (.r 22)
  (.seq (.ops [⟨(some 8), .mov, [.k (.int .i64 0)], none, [2, 3, 4, 5, 22]⟩,
    ⟨(some 9), .mov, [.k (.bool false)], none, []⟩]) <|
  .ret)
  (.skip)) <|
.seq (.seq (.ops [⟨(some 23), .fa 3, [.r 4], none, [4, 22]⟩,
  ⟨(some 24), .ld none, [.r 23], none, [23]⟩,
  ⟨(some 25), .len, [.r 24], none, []⟩,
  ⟨(some 26), .mov, [.k (.int .i64 0)], none, []⟩]) <|
.block 0 (.loop m56_0)) <|
.seq (.ops [⟨(some 8), .mov, [.k (.int .i64 0)], none, [2, 3, 5, 24, 25, 26, 27]⟩,
  ⟨(some 9), .mov, [.k (.bool false)], none, []⟩]) <|
.ret⟩
theorem c56 : cFn Try.prog 56 = some m56.bare := by kernel_rfl

/-- 'swingbridge/swingbridgeref25.Holder' -/
def m57_0 : MCode := .seq (.seq (.ops [⟨(some 14), .mov, [.r 10], none, []⟩,
      ⟨(some 15), .fa 3, [.r 4], none, []⟩,
      ⟨(some 16), .ld none, [.r 15], none, [15]⟩,
      ⟨(some 17), .len, [.r 16], none, [16]⟩,
      ⟨(some 18), .bin .lss, [.r 14, .r 17], none, [14, 17]⟩]) <|
    .cond (.r 18)
      (.skip)
      (.exit 0)) <|
    .seq (.block 1 (.seq (.ops [⟨(some 21), .fa 3, [.r 4], none, [18]⟩,
        ⟨(some 22), .ld none, [.r 21], none, [21]⟩,
        ⟨(some 23), .mov, [.r 10], none, []⟩,
        ⟨(some 24), .ia 5, [.r 22, .r 23], none, [22, 23]⟩,
        ⟨(some 25), .ld (some 5), [.r 24], none, [24]⟩,
        ⟨(some 11), .new 0 [.int .i64 0, .int .i64 0, .int .i64 0, .int .i64 0, .int .i64 0], [], none, []⟩,
        ⟨none, .st 5, [.r 11, .r 25], none, [25]⟩]) <|
      .seq (.ops [⟨(some 27), .ld (some 4), [.r 5], none, []⟩,
        ⟨(some 28), .ld (some 5), [.r 11], none, []⟩,
        ⟨(some 29), .call 65, [.r 27, .r 28], none, [27, 28]⟩,
        ⟨(some 26), .mov, [.r 29], none, [29]⟩,
        ⟨(some 30), .extract 0, [.r 26], none, []⟩,
        ⟨(some 31), .extract 1, [.r 26], none, [26]⟩,
        ⟨(some 12), .mov, [.r 30], none, [30]⟩,
        ⟨(some 13), .mov, [.r 31], none, [31]⟩]) <|
      .seq (.ops [⟨(some 32), .mov, [.r 13], none, [13]⟩,
        ⟨(some 33), .mov, [.r 32], none, [32]⟩,
        ⟨(some 34), .mov, [.r 12], (some (33, true)), [12]⟩,
        ⟨(some 35), .mov, [.r 3], (some (33, true)), []⟩,
        ⟨(some 36), .bin .eql, [.r 34, .r 35], (some (33, true)), [34, 35]⟩,
        ⟨(some 37), .pick, [.r 33, .r 36, .k (.bool false)], none, [33, 36]⟩,
        ⟨(some 38), .mov, [.r 37], none, [37]⟩,
        ⟨(some 39), .fa 3, [.r 11], (some (38, true)), []⟩,
        ⟨(some 40), .ld none, [.r 39], (some (38, true)), [39]⟩,
        ⟨(some 41), .mov, [.r 2], (some (38, true)), []⟩,
        ⟨(some 42), .bin .leq, [.r 40, .r 41], (some (38, true)), [40, 41]⟩,
        ⟨(some 43), .pick, [.r 38, .r 42, .k (.bool false)], none, [38, 42]⟩,
        ⟨(some 44), .mov, [.r 43], none, [43]⟩,
        ⟨(some 45), .fa 4, [.r 11], (some (44, true)), []⟩,
        ⟨(some 46), .ld none, [.r 45], (some (44, true)), [45]⟩,
        ⟨(some 47), .mov, [.r 2], (some (44, true)), []⟩,
        ⟨(some 48), .bin .gtr, [.r 46, .r 47], (some (44, true)), [46, 47]⟩,
        ⟨(some 49), .pick, [.r 44, .r 48, .k (.bool false)], none, [44, 48]⟩]) <|
      .cond (.r 49)
        (.seq (.ops [⟨(some 50), .fa 0, [.r 11], none, [2, 3, 4, 5, 10, 11, 49]⟩,
          ⟨(some 51), .ld none, [.r 50], none, [50]⟩,
          ⟨(some 8), .mov, [.r 51], none, [51]⟩,
          ⟨(some 9), .mov, [.k (.bool true)], none, []⟩]) <|
        .ret)
        (.skip))) <|
    .ops [⟨(some 19), .mov, [.r 10], none, [10, 11, 49]⟩,
      ⟨(some 20), .bin .add, [.r 19, .k (.int .i64 1)], none, [19]⟩,
      ⟨(some 10), .mov, [.r 20], none, [20]⟩]
def m57 : MFn := ⟨[.tmp 8, .tmp 9], .seq (.ops [⟨(some 4), .box, [.r 0], none, [0]⟩,
  ⟨(some 5), .box, [.r 1], none, [1]⟩,
  ⟨(some 8), .mov, [.k (.int .i64 0)], none, [8]⟩,
  ⟨(some 9), .mov, [.k (.bool false)], none, [9]⟩]) <|
.seq (.seq (.ops [⟨(some 10), .mov, [.k (.int .i64 0)], none, []⟩]) <|
.block 0 (.loop m57_0)) <|
.seq (.ops [⟨(some 8), .mov, [.k (.int .i64 0)], none, [2, 3, 4, 5, 10, 18]⟩,
  ⟨(some 9), .mov, [.k (.bool false)], none, []⟩]) <|
.ret⟩
theorem c57 : cFn Try.prog 57 = some m57.bare := by kernel_rfl

/-- 'swingbridge/legal.Check' -/
def m58 : MFn := ⟨[.tmp 4], .seq (.ops [⟨(some 2), .box, [.r 0], none, [0]⟩,
  ⟨(some 3), .box, [.r 1], none, [1]⟩,
  ⟨(some 4), .mov, [.k (.bool false)], none, [4]⟩]) <|
.seq (.ops [⟨(some 8), .ld (some 4), [.r 2], none, []⟩,
  ⟨(some 9), .call 63, [.r 8], none, [8]⟩,
  ⟨(some 7), .mov, [.r 9], none, [9]⟩,
  ⟨(some 10), .extract 0, [.r 7], none, []⟩,
  ⟨(some 11), .extract 1, [.r 7], none, [7]⟩,
  ⟨(some 5), .mov, [.r 10], none, [5, 10]⟩,
  ⟨(some 6), .mov, [.r 11], none, [11]⟩]) <|
.seq (.ops [⟨(some 12), .mov, [.r 6], none, [6]⟩,
  ⟨(some 13), .bin .eql, [.r 12, .k (.int .i64 0)], none, [12]⟩,
  ⟨(some 14), .mov, [.r 13], none, [13]⟩,
  ⟨(some 15), .fa 0, [.r 3], (some (14, true)), []⟩,
  ⟨(some 16), .ld none, [.r 15], (some (14, true)), [15]⟩,
  ⟨(some 17), .bin .geq, [.r 16, .k (.int .i64 0)], (some (14, true)), [16]⟩,
  ⟨(some 18), .pick, [.r 14, .r 17, .k (.bool false)], none, [14, 17]⟩,
  ⟨(some 19), .mov, [.r 18], none, [18]⟩,
  ⟨(some 20), .fa 0, [.r 3], (some (19, true)), []⟩,
  ⟨(some 21), .ld none, [.r 20], (some (19, true)), [20]⟩,
  ⟨(some 22), .bin .leq, [.r 21, .k (.int .i64 20000)], (some (19, true)), [21]⟩,
  ⟨(some 23), .pick, [.r 19, .r 22, .k (.bool false)], none, [19, 22]⟩,
  ⟨(some 24), .mov, [.r 23], none, [23]⟩,
  ⟨(some 25), .ld (some 4), [.r 2], (some (24, true)), []⟩,
  ⟨(some 26), .ld (some 4), [.r 3], (some (24, true)), []⟩,
  ⟨(some 27), .call 82, [.r 25, .r 26], (some (24, true)), [25, 26]⟩,
  ⟨(some 28), .pick, [.r 24, .r 27, .k (.bool false)], none, [24, 27]⟩,
  ⟨(some 29), .mov, [.r 28], none, [28]⟩,
  ⟨(some 30), .ld (some 4), [.r 2], (some (29, true)), []⟩,
  ⟨(some 31), .ld (some 4), [.r 3], (some (29, true)), []⟩,
  ⟨(some 32), .call 83, [.r 30, .r 31], (some (29, true)), [30, 31]⟩,
  ⟨(some 33), .pick, [.r 29, .r 32, .k (.bool false)], none, [29, 32]⟩,
  ⟨(some 34), .mov, [.r 33], none, [33]⟩,
  ⟨(some 35), .ld (some 4), [.r 2], (some (34, true)), [2]⟩,
  ⟨(some 36), .ld (some 4), [.r 3], (some (34, true)), [3]⟩,
  ⟨(some 37), .call 84, [.r 35, .r 36], (some (34, true)), [35, 36]⟩,
  ⟨(some 38), .pick, [.r 34, .r 37, .k (.bool false)], none, [34, 37]⟩,
  ⟨(some 4), .mov, [.r 38], none, [38]⟩]) <|
.ret⟩
theorem c58 : cFn Try.prog 58 = some m58.bare := by kernel_rfl

/-- 'swingbridge/swingbridgeref25.Check' -/
def m59 : MFn := ⟨[.tmp 4], .seq (.ops [⟨(some 2), .box, [.r 0], none, [0]⟩,
  ⟨(some 3), .box, [.r 1], none, [1]⟩,
  ⟨(some 4), .mov, [.k (.bool false)], none, [4]⟩]) <|
.seq (.ops [⟨(some 5), .ld (some 4), [.r 2], none, []⟩,
  ⟨(some 6), .call 85, [.r 5], none, [5]⟩,
  ⟨(some 7), .mov, [.r 6], none, [6]⟩,
  ⟨(some 8), .fa 0, [.r 3], (some (7, true)), []⟩,
  ⟨(some 9), .ld none, [.r 8], (some (7, true)), [8]⟩,
  ⟨(some 10), .bin .geq, [.r 9, .k (.int .i64 0)], (some (7, true)), [9]⟩,
  ⟨(some 11), .pick, [.r 7, .r 10, .k (.bool false)], none, [7, 10]⟩,
  ⟨(some 12), .mov, [.r 11], none, [11]⟩,
  ⟨(some 13), .fa 0, [.r 3], (some (12, true)), []⟩,
  ⟨(some 14), .ld none, [.r 13], (some (12, true)), [13]⟩,
  ⟨(some 15), .bin .leq, [.r 14, .k (.int .i64 20000)], (some (12, true)), [14]⟩,
  ⟨(some 16), .pick, [.r 12, .r 15, .k (.bool false)], none, [12, 15]⟩,
  ⟨(some 17), .mov, [.r 16], none, [16]⟩,
  ⟨(some 18), .ld (some 4), [.r 2], (some (17, true)), []⟩,
  ⟨(some 19), .ld (some 4), [.r 3], (some (17, true)), []⟩,
  ⟨(some 20), .call 86, [.r 18, .r 19], (some (17, true)), [18, 19]⟩,
  ⟨(some 21), .pick, [.r 17, .r 20, .k (.bool false)], none, [17, 20]⟩,
  ⟨(some 22), .mov, [.r 21], none, [21]⟩,
  ⟨(some 23), .ld (some 4), [.r 2], (some (22, true)), []⟩,
  ⟨(some 24), .ld (some 4), [.r 3], (some (22, true)), []⟩,
  ⟨(some 25), .call 87, [.r 23, .r 24], (some (22, true)), [23, 24]⟩,
  ⟨(some 26), .pick, [.r 22, .r 25, .k (.bool false)], none, [22, 25]⟩,
  ⟨(some 27), .mov, [.r 26], none, [26]⟩,
  ⟨(some 28), .ld (some 4), [.r 2], (some (27, true)), [2]⟩,
  ⟨(some 29), .ld (some 4), [.r 3], (some (27, true)), [3]⟩,
  ⟨(some 30), .call 88, [.r 28, .r 29], (some (27, true)), [28, 29]⟩,
  ⟨(some 31), .pick, [.r 27, .r 30, .k (.bool false)], none, [27, 30]⟩,
  ⟨(some 4), .mov, [.r 31], none, [31]⟩]) <|
.ret⟩
theorem c59 : cFn Try.prog 59 = some m59.bare := by kernel_rfl

/-- 'swingbridge/legal.Busy' -/
def m60_0 : MCode := .seq (.ops [⟨(some 14), .bin .lss, [.r 13, .r 12], none, []⟩]) <|
    .seq (.cond (.r 14)
      (.skip)
      (.exit 0)) <|
    .seq (.block 1 (.seq (.ops [⟨(some 15), .ia 4, [.r 11, .r 13], none, [14]⟩,
        ⟨(some 16), .ld (some 4), [.r 15], none, [15]⟩,
        ⟨(some 9), .new 0 [.int .i64 0, .int .i64 0, .int .i64 0, .bool false], [], none, []⟩,
        ⟨none, .st 4, [.r 9, .r 16], none, [16]⟩]) <|
      .seq (.seq (.ops [⟨(some 17), .fa 0, [.r 9], none, []⟩,
        ⟨(some 18), .ld none, [.r 17], none, [17]⟩,
        ⟨(some 19), .mov, [.r 1], none, []⟩,
        ⟨(some 20), .bin .neq, [.r 18, .r 19], none, [18, 19]⟩,
        ⟨(some 21), .mov, [.r 20], none, [20]⟩,
        ⟨(some 22), .fa 1, [.r 9], (some (21, false)), []⟩,
        ⟨(some 23), .ld none, [.r 22], (some (21, false)), [22]⟩,
        ⟨(some 24), .mov, [.r 2], (some (21, false)), []⟩,
        ⟨(some 25), .bin .neq, [.r 23, .r 24], (some (21, false)), [23, 24]⟩,
        ⟨(some 26), .pick, [.r 21, .k (.bool true), .r 25], none, [21, 25]⟩]) <|
      .cond (.r 26)
        (.exit 1)
        (.skip)) <|
      .ops [⟨(some 27), .mov, [.r 7], none, [7, 26]⟩,
        ⟨(some 28), .fa 2, [.r 9], none, [9]⟩,
        ⟨(some 29), .ld none, [.r 28], none, [28]⟩,
        ⟨(some 30), .bslice 1 1 [.int .i64 0] [(0, 1)], [.r 29], none, [29]⟩,
        ⟨(some 31), .app 1 8, [.r 27, .r 30], none, [27, 30]⟩,
        ⟨(some 7), .mov, [.r 31], none, [31]⟩])) <|
    .ops [⟨(some 32), .bin .add, [.r 13, .k (.int .i64 1)], none, [9, 13, 26]⟩,
      ⟨(some 13), .mov, [.r 32], none, [32]⟩]
def m60 : MFn := ⟨[.tmp 6], .seq (.ops [⟨(some 3), .box, [.r 0], none, [0]⟩,
  ⟨(some 6), .mov, [.k (.slice none 0 0)], none, [6]⟩]) <|
.seq (.ops [⟨(some 7), .mov, [.k (.slice none 0 0)], none, []⟩]) <|
.seq (.skip) <|
.seq (.seq (.ops [⟨(some 10), .fa 1, [.r 3], none, [3]⟩,
  ⟨(some 11), .ld none, [.r 10], none, [10]⟩,
  ⟨(some 12), .len, [.r 11], none, []⟩,
  ⟨(some 13), .mov, [.k (.int .i64 0)], none, []⟩]) <|
.block 0 (.loop m60_0)) <|
.seq (.ops [⟨(some 33), .mov, [.r 7], none, [1, 2, 7, 11, 12, 13, 14]⟩,
  ⟨(some 6), .mov, [.r 33], none, [33]⟩]) <|
.ret⟩
theorem c60 : cFn Try.prog 60 = some m60.bare := by kernel_rfl

/-- 'swingbridge/swingbridgeref25.Busy' -/
def m61_0 : MCode := .seq (.seq (.ops [⟨(some 9), .mov, [.r 8], none, []⟩,
      ⟨(some 10), .fa 1, [.r 3], none, []⟩,
      ⟨(some 11), .ld none, [.r 10], none, [10]⟩,
      ⟨(some 12), .len, [.r 11], none, [11]⟩,
      ⟨(some 13), .bin .lss, [.r 9, .r 12], none, [9, 12]⟩]) <|
    .cond (.r 13)
      (.skip)
      (.exit 0)) <|
    .seq (.block 1 (.seq (.ops [⟨(some 16), .fa 1, [.r 3], none, [13]⟩,
        ⟨(some 17), .ld none, [.r 16], none, [16]⟩,
        ⟨(some 18), .mov, [.r 8], none, []⟩,
        ⟨(some 19), .ia 4, [.r 17, .r 18], none, [17, 18]⟩,
        ⟨(some 20), .fa 0, [.r 19], none, [19]⟩,
        ⟨(some 21), .ld none, [.r 20], none, [20]⟩,
        ⟨(some 22), .mov, [.r 1], none, []⟩,
        ⟨(some 23), .bin .eql, [.r 21, .r 22], none, [21, 22]⟩,
        ⟨(some 24), .mov, [.r 23], none, [23]⟩,
        ⟨(some 25), .fa 1, [.r 3], (some (24, true)), []⟩,
        ⟨(some 26), .ld none, [.r 25], (some (24, true)), [25]⟩,
        ⟨(some 27), .mov, [.r 8], (some (24, true)), []⟩,
        ⟨(some 28), .ia 4, [.r 26, .r 27], (some (24, true)), [26, 27]⟩,
        ⟨(some 29), .fa 1, [.r 28], (some (24, true)), [28]⟩,
        ⟨(some 30), .ld none, [.r 29], (some (24, true)), [29]⟩,
        ⟨(some 31), .mov, [.r 2], (some (24, true)), []⟩,
        ⟨(some 32), .bin .eql, [.r 30, .r 31], (some (24, true)), [30, 31]⟩,
        ⟨(some 33), .pick, [.r 24, .r 32, .k (.bool false)], none, [24, 32]⟩]) <|
      .cond (.r 33)
        (.ops [⟨(some 34), .mov, [.r 7], none, [7, 33]⟩,
          ⟨(some 35), .fa 1, [.r 3], none, []⟩,
          ⟨(some 36), .ld none, [.r 35], none, [35]⟩,
          ⟨(some 37), .mov, [.r 8], none, []⟩,
          ⟨(some 38), .ia 4, [.r 36, .r 37], none, [36, 37]⟩,
          ⟨(some 39), .fa 2, [.r 38], none, [38]⟩,
          ⟨(some 40), .ld none, [.r 39], none, [39]⟩,
          ⟨(some 41), .bslice 1 1 [.int .i64 0] [(0, 1)], [.r 40], none, [40]⟩,
          ⟨(some 42), .app 1 8, [.r 34, .r 41], none, [34, 41]⟩,
          ⟨(some 7), .mov, [.r 42], none, [42]⟩])
        (.skip))) <|
    .ops [⟨(some 14), .mov, [.r 8], none, [8, 33]⟩,
      ⟨(some 15), .bin .add, [.r 14, .k (.int .i64 1)], none, [14]⟩,
      ⟨(some 8), .mov, [.r 15], none, [15]⟩]
def m61 : MFn := ⟨[.tmp 6], .seq (.ops [⟨(some 3), .box, [.r 0], none, [0]⟩,
  ⟨(some 6), .mov, [.k (.slice none 0 0)], none, [6]⟩]) <|
.seq (.ops [⟨(some 7), .mov, [.k (.slice none 0 0)], none, []⟩]) <|
.seq (.seq (.ops [⟨(some 8), .mov, [.k (.int .i64 0)], none, []⟩]) <|
.block 0 (.loop m61_0)) <|
.seq (.ops [⟨(some 43), .mov, [.r 7], none, [1, 2, 3, 7, 8, 13]⟩,
  ⟨(some 6), .mov, [.r 43], none, [43]⟩]) <|
.ret⟩
theorem c61 : cFn Try.prog 61 = some m61.bare := by kernel_rfl

/-- 'swingbridge/swingbridgelaw25.two' -/
def m62 : MFn := ⟨[.cell 10 (some 4)], .seq (.ops [⟨(some 10), .new 0 [.int .i64 0, .slice none 0 0, .slice none 0 0, .slice none 0 0], [], none, []⟩]) <|
.seq (.ops [⟨(some 12), .mov, [.r 0], none, [0]⟩,
  ⟨(some 13), .mov, [.r 1], none, [1]⟩,
  ⟨(some 14), .build [.int .i64 0, .int .i64 0, .int .i64 0] [(0, 1), (1, 1)], [.k (.int .i64 1), .r 13], none, [13]⟩,
  ⟨(some 15), .mov, [.r 2], none, [2]⟩,
  ⟨(some 16), .build [.int .i64 0, .int .i64 0, .int .i64 0] [(0, 1), (1, 1)], [.k (.int .i64 3), .r 15], none, [15]⟩,
  ⟨(some 17), .bslice 3 2 [.int .i64 0, .int .i64 0, .int .i64 0] [(0, 3), (3, 3)], [.r 14, .r 16], none, [14, 16]⟩,
  ⟨(some 18), .call 80, [.r 12, .r 17], none, [12, 17]⟩,
  ⟨(some 11), .new 0 [.int .i64 0, .slice none 0 0, .slice none 0 0, .slice none 0 0], [], none, []⟩,
  ⟨none, .st 4, [.r 11, .r 18], none, [18]⟩]) <|
.seq (.ops [⟨(some 19), .fa 3, [.r 11], none, []⟩,
  ⟨(some 20), .ld none, [.r 19], none, [19]⟩,
  ⟨(some 21), .mov, [.r 3], none, [3]⟩,
  ⟨(some 22), .build [.int .i64 0, .int .i64 0, .int .i64 0] [(0, 1), (1, 1)], [.k (.int .i64 1), .r 21], none, [21]⟩,
  ⟨(some 23), .mov, [.r 4], none, [4]⟩,
  ⟨(some 24), .build [.int .i64 0, .int .i64 0, .int .i64 0] [(0, 1), (1, 1)], [.k (.int .i64 3), .r 23], none, [23]⟩,
  ⟨(some 25), .bslice 3 2 [.int .i64 0, .int .i64 0, .int .i64 0] [(0, 3), (3, 3)], [.r 22, .r 24], none, [22, 24]⟩,
  ⟨(some 26), .build [.string ⟨#[]⟩, .int .i64 0, .int .i64 0, .int .i64 0, .int .i64 0, .slice none 0 0] [(0, 1), (1, 1), (2, 1), (3, 1), (5, 1)], [.k (.string ⟨#[98]⟩), .k (.int .i64 200), .k (.int .i64 200), .k (.int .i64 2), .r 25], none, [25]⟩,
  ⟨(some 27), .bslice 6 1 [.string ⟨#[]⟩, .int .i64 0, .int .i64 0, .int .i64 0, .int .i64 0, .slice none 0 0] [(0, 6)], [.r 26], none, [26]⟩,
  ⟨(some 28), .app 6 72, [.r 20, .r 27], none, [20, 27]⟩,
  ⟨(some 29), .fa 3, [.r 11], none, []⟩,
  ⟨none, .st 1, [.r 29, .r 28], none, [28, 29]⟩]) <|
.seq (.ops [⟨(some 30), .ld (some 4), [.r 11], none, [11]⟩,
  ⟨none, .st 4, [.r 10, .r 30], none, [30]⟩]) <|
.ret⟩
theorem c62 : cFn Try.prog 62 = some m62.bare := by kernel_rfl

/-- 'swingbridge/task.Check' -/
def m63_0 : MCode := .seq (.ops [⟨(some 29), .bin .lss, [.r 28, .r 27], none, []⟩]) <|
    .seq (.cond (.r 29)
      (.skip)
      (.exit 1)) <|
    .seq (.block 2 (.seq (.ops [⟨(some 30), .mov, [.r 28], none, [29]⟩,
        ⟨(some 4), .mov, [.r 30], none, [30]⟩]) <|
      .seq (.ops [⟨(some 31), .ld (some 4), [.r 1], none, []⟩,
        ⟨(some 32), .mov, [.r 4], none, []⟩,
        ⟨(some 33), .call 91, [.r 31, .r 32], none, [31, 32]⟩,
        ⟨(some 5), .mov, [.r 33], none, [33]⟩]) <|
      .seq (.ops [⟨(some 34), .mov, [.r 5], none, []⟩,
        ⟨(some 35), .bin .neq, [.r 34, .k (.int .i64 0)], none, [34]⟩]) <|
      .cond (.r 35)
        (.seq (.ops [⟨(some 36), .mov, [.r 4], none, [1, 4, 27, 28, 35]⟩,
          ⟨(some 37), .mov, [.r 5], none, [5]⟩,
          ⟨(some 2), .mov, [.r 36], none, [36]⟩,
          ⟨(some 3), .mov, [.r 37], none, [37]⟩]) <|
        .ret)
        (.skip))) <|
    .ops [⟨(some 38), .bin .add, [.r 28, .k (.int .i64 1)], none, [4, 5, 28, 35]⟩,
      ⟨(some 28), .mov, [.r 38], none, [38]⟩]
def m63 : MFn := ⟨[.tmp 2, .tmp 3], .seq (.ops [⟨(some 1), .box, [.r 0], none, [0]⟩,
  ⟨(some 2), .mov, [.k (.int .i64 0)], none, [2]⟩,
  ⟨(some 3), .mov, [.k (.int .i64 0)], none, [3]⟩]) <|
.seq (.block 0 (.seq (.ops [⟨(some 7), .fa 0, [.r 1], none, []⟩,
    ⟨(some 8), .ld none, [.r 7], none, [7]⟩,
    ⟨(some 9), .call 89, [.r 8, .k (.int .i64 1), .k (.int .i64 3)], none, [8]⟩,
    ⟨(some 10), .un .not, [.r 9], none, [9]⟩,
    ⟨(some 6), .mov, [.r 10], none, [10]⟩]) <|
  .cond (.r 6)
    (.seq (.ops [⟨(some 2), .mov, [.k (.int .i64 (-1))], none, [1, 6]⟩,
      ⟨(some 3), .mov, [.k (.int .i64 10)], none, []⟩]) <|
    .ret)
    (.seq (.ops [⟨(some 12), .ld (some 4), [.r 1], none, [6]⟩,
      ⟨(some 13), .call 90, [.r 12], none, [12]⟩,
      ⟨(some 14), .un .not, [.r 13], none, [13]⟩,
      ⟨(some 11), .mov, [.r 14], none, [14]⟩]) <|
    .cond (.r 11)
      (.seq (.ops [⟨(some 2), .mov, [.k (.int .i64 (-1))], none, [1, 11]⟩,
        ⟨(some 3), .mov, [.k (.int .i64 16)], none, []⟩]) <|
      .ret)
      (.seq (.ops [⟨(some 16), .fa 3, [.r 1], none, [11]⟩,
        ⟨(some 17), .ld none, [.r 16], none, [16]⟩,
        ⟨(some 18), .len, [.r 17], none, [17]⟩,
        ⟨(some 19), .bin .gtr, [.r 18, .k (.int .i64 6)], none, [18]⟩,
        ⟨(some 15), .mov, [.r 19], none, [19]⟩]) <|
      .cond (.r 15)
        (.seq (.ops [⟨(some 2), .mov, [.k (.int .i64 (-1))], none, [1, 15]⟩,
          ⟨(some 3), .mov, [.k (.int .i64 11)], none, []⟩]) <|
        .ret)
        (.seq (.ops [⟨(some 21), .fa 3, [.r 1], none, [15]⟩,
          ⟨(some 22), .ld none, [.r 21], none, [21]⟩,
          ⟨(some 23), .len, [.r 22], none, [22]⟩,
          ⟨(some 24), .bin .eql, [.r 23, .k (.int .i64 0)], none, [23]⟩,
          ⟨(some 20), .mov, [.r 24], none, [24]⟩]) <|
        .cond (.r 20)
          (.seq (.ops [⟨(some 2), .mov, [.k (.int .i64 (-1))], none, [1, 20]⟩,
            ⟨(some 3), .mov, [.k (.int .i64 14)], none, []⟩]) <|
          .ret)
          (.skip)))))) <|
.seq (.seq (.ops [⟨(some 25), .fa 3, [.r 1], none, [20]⟩,
  ⟨(some 26), .ld none, [.r 25], none, [25]⟩,
  ⟨(some 27), .len, [.r 26], none, [26]⟩,
  ⟨(some 28), .mov, [.k (.int .i64 0)], none, []⟩]) <|
.block 1 (.loop m63_0)) <|
.seq (.ops [⟨(some 2), .mov, [.k (.int .i64 (-1))], none, [1, 27, 28, 29]⟩,
  ⟨(some 3), .mov, [.k (.int .i64 0)], none, []⟩]) <|
.ret⟩
theorem c63 : cFn Try.prog 63 = some m63.bare := by kernel_rfl

/-- 'swingbridge/delay.lock' -/
def m64 : MFn := ⟨[.cell 6 (some 3), .tmp 7], .seq (.ops [⟨(some 3), .box, [.r 0], none, [0]⟩,
  ⟨(some 6), .new 0 [.int .i64 0, .int .i64 0, .int .i64 0], [], none, []⟩,
  ⟨(some 7), .mov, [.k (.bool false)], none, [7]⟩]) <|
.seq (.seq (.ops [⟨(some 9), .mov, [.r 1], none, []⟩,
  ⟨(some 10), .bin .lss, [.r 9, .k (.int .i64 0)], none, [9]⟩,
  ⟨(some 11), .mov, [.r 10], none, [10]⟩,
  ⟨(some 12), .mov, [.r 1], (some (11, false)), []⟩,
  ⟨(some 13), .fa 3, [.r 3], (some (11, false)), []⟩,
  ⟨(some 14), .ld none, [.r 13], (some (11, false)), [13]⟩,
  ⟨(some 15), .len, [.r 14], (some (11, false)), [14]⟩,
  ⟨(some 16), .bin .geq, [.r 12, .r 15], (some (11, false)), [12, 15]⟩,
  ⟨(some 17), .pick, [.r 11, .k (.bool true), .r 16], none, [11, 16]⟩,
  ⟨(some 18), .mov, [.r 17], none, [17]⟩,
  ⟨(some 19), .mov, [.r 2], (some (18, false)), []⟩,
  ⟨(some 20), .bin .lss, [.r 19, .k (.int .i64 0)], (some (18, false)), [19]⟩,
  ⟨(some 21), .pick, [.r 18, .k (.bool true), .r 20], none, [18, 20]⟩,
  ⟨(some 22), .mov, [.r 21], none, [21]⟩,
  ⟨(some 23), .mov, [.r 2], (some (22, false)), []⟩,
  ⟨(some 24), .fa 3, [.r 3], (some (22, false)), []⟩,
  ⟨(some 25), .ld none, [.r 24], (some (22, false)), [24]⟩,
  ⟨(some 26), .mov, [.r 1], (some (22, false)), []⟩,
  ⟨(some 27), .ia 6, [.r 25, .r 26], (some (22, false)), [25, 26]⟩,
  ⟨(some 28), .fa 5, [.r 27], (some (22, false)), [27]⟩,
  ⟨(some 29), .ld none, [.r 28], (some (22, false)), [28]⟩,
  ⟨(some 30), .len, [.r 29], (some (22, false)), [29]⟩,
  ⟨(some 31), .bin .geq, [.r 23, .r 30], (some (22, false)), [23, 30]⟩,
  ⟨(some 32), .pick, [.r 22, .k (.bool true), .r 31], none, [22, 31]⟩]) <|
.cond (.r 32)
  (.seq (.ops [⟨(some 33), .build [.int .i64 0, .int .i64 0, .int .i64 0] [], [], none, [1, 2, 3, 32]⟩,
    ⟨none, .st 3, [.r 6, .r 33], none, [33]⟩,
    ⟨(some 7), .mov, [.k (.bool false)], none, []⟩]) <|
  .ret)
  (.skip)) <|
.seq (.ops [⟨(some 34), .fa 3, [.r 3], none, [3, 32]⟩,
  ⟨(some 35), .ld none, [.r 34], none, [34]⟩,
  ⟨(some 36), .mov, [.r 1], none, [1]⟩,
  ⟨(some 37), .ia 6, [.r 35, .r 36], none, [35, 36]⟩,
  ⟨(some 38), .fa 5, [.r 37], none, [37]⟩,
  ⟨(some 39), .ld none, [.r 38], none, [38]⟩,
  ⟨(some 40), .mov, [.r 2], none, [2]⟩,
  ⟨(some 41), .ia 3, [.r 39, .r 40], none, [39, 40]⟩,
  ⟨(some 42), .ld (some 3), [.r 41], none, [41]⟩,
  ⟨(some 8), .new 0 [.int .i64 0, .int .i64 0, .int .i64 0], [], none, []⟩,
  ⟨none, .st 3, [.r 8, .r 42], none, [42]⟩]) <|
.seq (.draw [⟨(some 43), .ld (some 3), [.r 8], none, []⟩,
  ⟨(some 44), .fa 0, [.r 8], none, [8]⟩,
  ⟨(some 45), .ld none, [.r 44], none, [44]⟩,
  ⟨(some 46), .bin .eql, [.r 45, .k (.int .i64 3)], none, [45]⟩,
  ⟨none, .st 3, [.r 6, .r 43], none, [43]⟩,
  ⟨(some 7), .mov, [.r 46], none, [46]⟩] [(2, 4)]) <|
.ret⟩
theorem c64 : cFn Try.prog 64 = some m64.bare := by kernel_rfl

/-- 'swingbridge/swingbridgeref25.Lock' -/
def m65 : MFn := ⟨[.tmp 4, .tmp 5], .seq (.ops [⟨(some 2), .box, [.r 0], none, [0]⟩,
  ⟨(some 3), .box, [.r 1], none, [1]⟩,
  ⟨(some 4), .mov, [.k (.int .i64 0)], none, [4]⟩,
  ⟨(some 5), .mov, [.k (.bool false)], none, [5]⟩]) <|
.seq (.seq (.draw [⟨(some 6), .ld (some 4), [.r 2], none, []⟩,
  ⟨(some 7), .fa 0, [.r 3], none, []⟩,
  ⟨(some 8), .ld none, [.r 7], none, [7]⟩,
  ⟨(some 9), .call 67, [.r 6, .r 8], none, [6, 8]⟩,
  ⟨(some 10), .un .not, [.r 9], none, [9]⟩,
  ⟨(some 11), .mov, [.r 10], none, [10]⟩,
  ⟨(some 12), .fa 1, [.r 3], (some (11, false)), []⟩,
  ⟨(some 13), .ld none, [.r 12], (some (11, false)), [12]⟩,
  ⟨(some 14), .bin .lss, [.r 13, .k (.int .i64 0)], (some (11, false)), [13]⟩,
  ⟨(some 15), .pick, [.r 11, .k (.bool true), .r 14], none, [11, 14]⟩,
  ⟨(some 16), .mov, [.r 15], none, [15]⟩,
  ⟨(some 17), .fa 1, [.r 3], (some (16, false)), []⟩,
  ⟨(some 18), .ld none, [.r 17], (some (16, false)), [17]⟩,
  ⟨(some 19), .fa 3, [.r 2], (some (16, false)), []⟩,
  ⟨(some 20), .ld none, [.r 19], (some (16, false)), [19]⟩,
  ⟨(some 21), .fa 0, [.r 3], (some (16, false)), []⟩,
  ⟨(some 22), .ld none, [.r 21], (some (16, false)), [21]⟩,
  ⟨(some 23), .ia 6, [.r 20, .r 22], (some (16, false)), [20, 22]⟩,
  ⟨(some 24), .fa 5, [.r 23], (some (16, false)), [23]⟩,
  ⟨(some 25), .ld none, [.r 24], (some (16, false)), [24]⟩,
  ⟨(some 26), .len, [.r 25], (some (16, false)), [25]⟩,
  ⟨(some 27), .bin .geq, [.r 18, .r 26], (some (16, false)), [18, 26]⟩,
  ⟨(some 28), .pick, [.r 16, .k (.bool true), .r 27], none, [16, 27]⟩,
  ⟨(some 29), .mov, [.r 28], none, [28]⟩,
  ⟨(some 30), .fa 3, [.r 2], (some (29, false)), []⟩,
  ⟨(some 31), .ld none, [.r 30], (some (29, false)), [30]⟩,
  ⟨(some 32), .fa 0, [.r 3], (some (29, false)), []⟩,
  ⟨(some 33), .ld none, [.r 32], (some (29, false)), [32]⟩,
  ⟨(some 34), .ia 6, [.r 31, .r 33], (some (29, false)), [31, 33]⟩,
  ⟨(some 35), .fa 5, [.r 34], (some (29, false)), [34]⟩,
  ⟨(some 36), .ld none, [.r 35], (some (29, false)), [35]⟩,
  ⟨(some 37), .fa 1, [.r 3], (some (29, false)), []⟩,
  ⟨(some 38), .ld none, [.r 37], (some (29, false)), [37]⟩,
  ⟨(some 39), .ia 3, [.r 36, .r 38], (some (29, false)), [36, 38]⟩,
  ⟨(some 40), .fa 0, [.r 39], (some (29, false)), [39]⟩,
  ⟨(some 41), .ld none, [.r 40], (some (29, false)), [40]⟩,
  ⟨(some 42), .bin .neq, [.r 41, .k (.int .i64 3)], (some (29, false)), [41]⟩,
  ⟨(some 43), .pick, [.r 29, .k (.bool true), .r 42], none, [29, 42]⟩] []) <|
.cond (.r 43)
  (.seq (.ops [⟨(some 4), .mov, [.k (.int .i64 0)], none, [2, 3, 43]⟩,
    ⟨(some 5), .mov, [.k (.bool false)], none, []⟩]) <|
  .ret)
  (.skip)) <|
.seq (.draw [⟨(some 44), .fa 3, [.r 2], none, [2, 43]⟩,
  ⟨(some 45), .ld none, [.r 44], none, [44]⟩,
  ⟨(some 46), .fa 0, [.r 3], none, []⟩,
  ⟨(some 47), .ld none, [.r 46], none, [46]⟩,
  ⟨(some 48), .ia 6, [.r 45, .r 47], none, [45, 47]⟩,
  ⟨(some 49), .fa 5, [.r 48], none, [48]⟩,
  ⟨(some 50), .ld none, [.r 49], none, [49]⟩,
  ⟨(some 51), .fa 1, [.r 3], none, [3]⟩,
  ⟨(some 52), .ld none, [.r 51], none, [51]⟩,
  ⟨(some 53), .ia 3, [.r 50, .r 52], none, [50, 52]⟩,
  ⟨(some 54), .fa 2, [.r 53], none, [53]⟩,
  ⟨(some 55), .ld none, [.r 54], none, [54]⟩,
  ⟨(some 4), .mov, [.r 55], none, [55]⟩,
  ⟨(some 5), .mov, [.k (.bool true)], none, []⟩] []) <|
.ret⟩
theorem c65 : cFn Try.prog 65 = some m65.bare := by kernel_rfl

/-- 'swingbridge/delay.works' -/
def m66_0 : MCode := .seq (.ops [⟨(some 38), .bin .lss, [.r 37, .r 36], none, []⟩]) <|
    .seq (.cond (.r 38)
      (.skip)
      (.exit 4)) <|
    .seq (.block 5 (.seq (.ops [⟨(some 39), .ia 5, [.r 35, .r 37], none, [38]⟩,
        ⟨(some 40), .ld (some 5), [.r 39], none, [39]⟩,
        ⟨(some 13), .new 0 [.int .i64 0, .int .i64 0, .int .i64 0, .int .i64 0, .int .i64 0], [], none, []⟩,
        ⟨none, .st 5, [.r 13, .r 40], none, [40]⟩]) <|
      .seq (.ops [⟨(some 41), .fa 0, [.r 13], none, []⟩,
        ⟨(some 42), .ld none, [.r 41], none, [41]⟩,
        ⟨(some 43), .mov, [.r 2], none, []⟩,
        ⟨(some 44), .bin .eql, [.r 42, .r 43], none, [42, 43]⟩,
        ⟨(some 45), .mov, [.r 44], none, [44]⟩,
        ⟨(some 46), .fa 3, [.r 13], (some (45, true)), []⟩,
        ⟨(some 47), .ld none, [.r 46], (some (45, true)), [46]⟩,
        ⟨(some 48), .mov, [.r 3], (some (45, true)), []⟩,
        ⟨(some 49), .bin .leq, [.r 47, .r 48], (some (45, true)), [47, 48]⟩,
        ⟨(some 50), .pick, [.r 45, .r 49, .k (.bool false)], none, [45, 49]⟩,
        ⟨(some 51), .mov, [.r 50], none, [50]⟩,
        ⟨(some 52), .fa 4, [.r 13], (some (51, true)), [13]⟩,
        ⟨(some 53), .ld none, [.r 52], (some (51, true)), [52]⟩,
        ⟨(some 54), .mov, [.r 3], (some (51, true)), []⟩,
        ⟨(some 55), .bin .gtr, [.r 53, .r 54], (some (51, true)), [53, 54]⟩,
        ⟨(some 56), .pick, [.r 51, .r 55, .k (.bool false)], none, [51, 55]⟩]) <|
      .cond (.r 56)
        (.seq (.ops [⟨(some 8), .mov, [.k (.bool true)], none, [2, 3, 35, 36, 37, 56]⟩]) <|
        .ret)
        (.skip))) <|
    .ops [⟨(some 57), .bin .add, [.r 37, .k (.int .i64 1)], none, [37, 56]⟩,
      ⟨(some 37), .mov, [.r 57], none, [57]⟩]
def m66_1 : MCode := .seq (.ops [⟨(some 26), .bin .lss, [.r 25, .r 24], none, []⟩]) <|
          .seq (.cond (.r 26)
            (.skip)
            (.exit 2)) <|
          .seq (.block 3 (.seq (.ops [⟨(some 27), .ia 1, [.r 23, .r 25], none, [26]⟩,
              ⟨(some 28), .ld none, [.r 27], none, [27]⟩,
              ⟨(some 11), .mov, [.r 28], none, [28]⟩]) <|
            .seq (.ops [⟨(some 29), .mov, [.r 11], none, [11]⟩,
              ⟨(some 30), .mov, [.r 2], none, []⟩,
              ⟨(some 31), .bin .eql, [.r 29, .r 30], none, [29, 30]⟩]) <|
            .cond (.r 31)
              (.seq (.ops [⟨(some 8), .mov, [.k (.bool true)], none, [2, 3, 5, 16, 17, 23, 24, 25, 31]⟩]) <|
              .ret)
              (.skip))) <|
          .ops [⟨(some 32), .bin .add, [.r 25, .k (.int .i64 1)], none, [25, 31]⟩,
            ⟨(some 25), .mov, [.r 32], none, [32]⟩]
def m66_2 : MCode := .seq (.ops [⟨(some 18), .bin .lss, [.r 17, .r 16], none, []⟩]) <|
    .seq (.cond (.r 18)
      (.skip)
      (.exit 0)) <|
    .seq (.block 1 (.seq (.ops [⟨(some 19), .mov, [.r 17], none, [18]⟩,
        ⟨(some 9), .mov, [.r 19], none, [19]⟩]) <|
      .seq (.ops [⟨(some 20), .ld (some 4), [.r 5], none, []⟩,
        ⟨(some 21), .mov, [.r 3], none, []⟩,
        ⟨(some 22), .mov, [.r 9], none, [9]⟩,
        ⟨(some 23), .call 60, [.r 20, .r 21, .r 22], none, [20, 21, 22]⟩,
        ⟨(some 24), .len, [.r 23], none, []⟩,
        ⟨(some 25), .mov, [.k (.int .i64 0)], none, []⟩]) <|
      .block 2 (.loop m66_1))) <|
    .ops [⟨(some 33), .bin .add, [.r 17, .k (.int .i64 1)], none, [17, 23, 24, 25, 26]⟩,
      ⟨(some 17), .mov, [.r 33], none, [33]⟩]
def m66 : MFn := ⟨[.tmp 8], .seq (.ops [⟨(some 4), .box, [.r 0], none, [0]⟩,
  ⟨(some 5), .box, [.r 1], none, [1]⟩,
  ⟨(some 8), .mov, [.k (.bool false)], none, [8]⟩]) <|
.seq (.seq (.ops [⟨(some 14), .fa 1, [.r 4], none, [4]⟩,
  ⟨(some 15), .ld none, [.r 14], none, [14]⟩,
  ⟨(some 16), .len, [.r 15], none, [15]⟩,
  ⟨(some 17), .mov, [.k (.int .i64 0)], none, []⟩]) <|
.block 0 (.loop m66_2)) <|
.seq (.seq (.ops [⟨(some 34), .fa 3, [.r 5], none, [5, 16, 17, 18]⟩,
  ⟨(some 35), .ld none, [.r 34], none, [34]⟩,
  ⟨(some 36), .len, [.r 35], none, []⟩,
  ⟨(some 37), .mov, [.k (.int .i64 0)], none, []⟩]) <|
.block 4 (.loop m66_0)) <|
.seq (.ops [⟨(some 8), .mov, [.k (.bool false)], none, [2, 3, 35, 36, 37, 38]⟩]) <|
.ret⟩
theorem c66 : cFn Try.prog 66 = some m66.bare := by kernel_rfl

/-- 'swingbridge/swingbridgeref11.There' -/
def m67 : MFn := ⟨[.tmp 4], .seq (.ops [⟨(some 2), .box, [.r 0], none, [0]⟩,
  ⟨(some 4), .mov, [.k (.bool false)], none, [4]⟩]) <|
.seq (.ops [⟨(some 5), .ld (some 4), [.r 2], none, []⟩,
  ⟨(some 6), .call 85, [.r 5], none, [5]⟩,
  ⟨(some 7), .mov, [.r 6], none, [6]⟩,
  ⟨(some 8), .mov, [.r 1], (some (7, true)), []⟩,
  ⟨(some 9), .bin .geq, [.r 8, .k (.int .i64 0)], (some (7, true)), [8]⟩,
  ⟨(some 10), .pick, [.r 7, .r 9, .k (.bool false)], none, [7, 9]⟩,
  ⟨(some 11), .mov, [.r 10], none, [10]⟩,
  ⟨(some 12), .mov, [.r 1], (some (11, true)), [1]⟩,
  ⟨(some 13), .fa 3, [.r 2], (some (11, true)), [2]⟩,
  ⟨(some 14), .ld none, [.r 13], (some (11, true)), [13]⟩,
  ⟨(some 15), .len, [.r 14], (some (11, true)), [14]⟩,
  ⟨(some 16), .bin .lss, [.r 12, .r 15], (some (11, true)), [12, 15]⟩,
  ⟨(some 17), .pick, [.r 11, .r 16, .k (.bool false)], none, [11, 16]⟩,
  ⟨(some 4), .mov, [.r 17], none, [17]⟩]) <|
.ret⟩
theorem c67 : cFn Try.prog 67 = some m67.bare := by kernel_rfl

/-- 'swingbridge/swingbridgelaw26.one' -/
def m68 : MFn := ⟨[.cell 4 (some 4)], .seq (.ops [⟨(some 4), .new 0 [.int .i64 0, .slice none 0 0, .slice none 0 0, .slice none 0 0], [], none, []⟩]) <|
.seq (.ops [⟨(some 5), .mov, [.r 0], none, [0]⟩,
  ⟨(some 6), .bslice 1 1 [.int .i64 0] [(0, 1)], [.k (.int .i64 1)], none, []⟩,
  ⟨(some 7), .bslice 1 1 [.int .i64 0] [(0, 1)], [.k (.int .i64 0)], none, []⟩,
  ⟨(some 8), .mov, [.r 1], none, [1]⟩,
  ⟨(some 9), .build [.string ⟨#[]⟩, .int .i64 0, .int .i64 0, .int .i64 0, .int .i64 0, .slice none 0 0] [(0, 1), (1, 1), (2, 1), (3, 1), (5, 1)], [.k (.string ⟨#[97]⟩), .k (.int .i64 100), .k (.int .i64 100), .k (.int .i64 1), .r 8], none, [8]⟩,
  ⟨(some 10), .bslice 6 1 [.string ⟨#[]⟩, .int .i64 0, .int .i64 0, .int .i64 0, .int .i64 0, .slice none 0 0] [(0, 6)], [.r 9], none, [9]⟩,
  ⟨(some 11), .build [.int .i64 0, .slice none 0 0, .slice none 0 0, .slice none 0 0] [(0, 1), (1, 1), (2, 1), (3, 1)], [.r 5, .r 6, .r 7, .r 10], none, [5, 6, 7, 10]⟩,
  ⟨none, .st 4, [.r 4, .r 11], none, [11]⟩]) <|
.ret⟩
theorem c68 : cFn Try.prog 68 = some m68.bare := by kernel_rfl

/-- 'swingbridge/swingbridgelaw25.one' -/
def m80 : MFn := ⟨[.cell 4 (some 4)], .seq (.ops [⟨(some 4), .new 0 [.int .i64 0, .slice none 0 0, .slice none 0 0, .slice none 0 0], [], none, []⟩]) <|
.seq (.ops [⟨(some 5), .mov, [.r 0], none, [0]⟩,
  ⟨(some 6), .bslice 1 1 [.int .i64 0] [(0, 1)], [.k (.int .i64 1)], none, []⟩,
  ⟨(some 7), .bslice 1 1 [.int .i64 0] [(0, 1)], [.k (.int .i64 0)], none, []⟩,
  ⟨(some 8), .mov, [.r 1], none, [1]⟩,
  ⟨(some 9), .build [.string ⟨#[]⟩, .int .i64 0, .int .i64 0, .int .i64 0, .int .i64 0, .slice none 0 0] [(0, 1), (1, 1), (2, 1), (3, 1), (5, 1)], [.k (.string ⟨#[97]⟩), .k (.int .i64 100), .k (.int .i64 100), .k (.int .i64 1), .r 8], none, [8]⟩,
  ⟨(some 10), .bslice 6 1 [.string ⟨#[]⟩, .int .i64 0, .int .i64 0, .int .i64 0, .int .i64 0, .slice none 0 0] [(0, 6)], [.r 9], none, [9]⟩,
  ⟨(some 11), .build [.int .i64 0, .slice none 0 0, .slice none 0 0, .slice none 0 0] [(0, 1), (1, 1), (2, 1), (3, 1)], [.r 5, .r 6, .r 7, .r 10], none, [5, 6, 7, 10]⟩,
  ⟨none, .st 4, [.r 4, .r 11], none, [11]⟩]) <|
.ret⟩
theorem c80 : cFn Try.prog 80 = some m80.bare := by kernel_rfl

/-- 'swingbridge/legal.lock' -/
def m81 : MFn := ⟨[.cell 6 (some 3), .tmp 7], .seq (.ops [⟨(some 3), .box, [.r 0], none, [0]⟩,
  ⟨(some 6), .new 0 [.int .i64 0, .int .i64 0, .int .i64 0], [], none, []⟩,
  ⟨(some 7), .mov, [.k (.bool false)], none, [7]⟩]) <|
.seq (.seq (.ops [⟨(some 9), .mov, [.r 1], none, []⟩,
  ⟨(some 10), .bin .lss, [.r 9, .k (.int .i64 0)], none, [9]⟩,
  ⟨(some 11), .mov, [.r 10], none, [10]⟩,
  ⟨(some 12), .mov, [.r 1], (some (11, false)), []⟩,
  ⟨(some 13), .fa 3, [.r 3], (some (11, false)), []⟩,
  ⟨(some 14), .ld none, [.r 13], (some (11, false)), [13]⟩,
  ⟨(some 15), .len, [.r 14], (some (11, false)), [14]⟩,
  ⟨(some 16), .bin .geq, [.r 12, .r 15], (some (11, false)), [12, 15]⟩,
  ⟨(some 17), .pick, [.r 11, .k (.bool true), .r 16], none, [11, 16]⟩,
  ⟨(some 18), .mov, [.r 17], none, [17]⟩,
  ⟨(some 19), .mov, [.r 2], (some (18, false)), []⟩,
  ⟨(some 20), .bin .lss, [.r 19, .k (.int .i64 0)], (some (18, false)), [19]⟩,
  ⟨(some 21), .pick, [.r 18, .k (.bool true), .r 20], none, [18, 20]⟩,
  ⟨(some 22), .mov, [.r 21], none, [21]⟩,
  ⟨(some 23), .mov, [.r 2], (some (22, false)), []⟩,
  ⟨(some 24), .fa 3, [.r 3], (some (22, false)), []⟩,
  ⟨(some 25), .ld none, [.r 24], (some (22, false)), [24]⟩,
  ⟨(some 26), .mov, [.r 1], (some (22, false)), []⟩,
  ⟨(some 27), .ia 6, [.r 25, .r 26], (some (22, false)), [25, 26]⟩,
  ⟨(some 28), .fa 5, [.r 27], (some (22, false)), [27]⟩,
  ⟨(some 29), .ld none, [.r 28], (some (22, false)), [28]⟩,
  ⟨(some 30), .len, [.r 29], (some (22, false)), [29]⟩,
  ⟨(some 31), .bin .geq, [.r 23, .r 30], (some (22, false)), [23, 30]⟩,
  ⟨(some 32), .pick, [.r 22, .k (.bool true), .r 31], none, [22, 31]⟩]) <|
.cond (.r 32)
  (.seq (.ops [⟨(some 33), .build [.int .i64 0, .int .i64 0, .int .i64 0] [], [], none, [1, 2, 3, 32]⟩,
    ⟨none, .st 3, [.r 6, .r 33], none, [33]⟩,
    ⟨(some 7), .mov, [.k (.bool false)], none, []⟩]) <|
  .ret)
  (.skip)) <|
.seq (.ops [⟨(some 34), .fa 3, [.r 3], none, [3, 32]⟩,
  ⟨(some 35), .ld none, [.r 34], none, [34]⟩,
  ⟨(some 36), .mov, [.r 1], none, [1]⟩,
  ⟨(some 37), .ia 6, [.r 35, .r 36], none, [35, 36]⟩,
  ⟨(some 38), .fa 5, [.r 37], none, [37]⟩,
  ⟨(some 39), .ld none, [.r 38], none, [38]⟩,
  ⟨(some 40), .mov, [.r 2], none, [2]⟩,
  ⟨(some 41), .ia 3, [.r 39, .r 40], none, [39, 40]⟩,
  ⟨(some 42), .ld (some 3), [.r 41], none, [41]⟩,
  ⟨(some 8), .new 0 [.int .i64 0, .int .i64 0, .int .i64 0], [], none, []⟩,
  ⟨none, .st 3, [.r 8, .r 42], none, [42]⟩]) <|
.seq (.draw [⟨(some 43), .ld (some 3), [.r 8], none, []⟩,
  ⟨(some 44), .fa 0, [.r 8], none, [8]⟩,
  ⟨(some 45), .ld none, [.r 44], none, [44]⟩,
  ⟨(some 46), .bin .eql, [.r 45, .k (.int .i64 3)], none, [45]⟩,
  ⟨none, .st 3, [.r 6, .r 43], none, [43]⟩,
  ⟨(some 7), .mov, [.r 46], none, [46]⟩] [(2, 4)]) <|
.ret⟩
theorem c81 : cFn Try.prog 81 = some m81.bare := by kernel_rfl

/-- 'swingbridge/legal.slots' -/
def m82_0 : MCode := .seq (.ops [⟨(some 20), .bin .lss, [.r 19, .r 18], none, []⟩]) <|
    .seq (.cond (.r 20)
      (.skip)
      (.exit 0)) <|
    .seq (.block 1 (.seq (.ops [⟨(some 21), .ia 4, [.r 17, .r 19], none, [20]⟩,
        ⟨(some 22), .ld (some 4), [.r 21], none, [21]⟩,
        ⟨(some 10), .new 0 [.int .i64 0, .int .i64 0, .int .i64 0, .bool false], [], none, []⟩,
        ⟨none, .st 4, [.r 10, .r 22], none, [22]⟩]) <|
      .seq (.seq (.ops [⟨(some 23), .ld (some 4), [.r 2], none, []⟩,
        ⟨(some 24), .ld (some 4), [.r 3], none, []⟩,
        ⟨(some 25), .ld (some 4), [.r 10], none, []⟩,
        ⟨(some 26), .call 101, [.r 23, .r 24, .r 25], none, [23, 24, 25]⟩,
        ⟨(some 27), .un .not, [.r 26], none, [26]⟩]) <|
      .cond (.r 27)
        (.seq (.ops [⟨(some 4), .mov, [.k (.bool false)], none, [2, 3, 6, 7, 8, 10, 17, 18, 19, 27]⟩]) <|
        .ret)
        (.skip)) <|
      .seq (.seq (.ops [⟨(some 28), .fa 0, [.r 10], none, [27]⟩,
        ⟨(some 29), .ld none, [.r 28], none, [28]⟩,
        ⟨(some 30), .mov, [.r 6], none, []⟩,
        ⟨(some 31), .bin .neq, [.r 29, .r 30], none, [29, 30]⟩]) <|
      .cond (.r 31)
        (.ops [⟨(some 32), .fa 0, [.r 10], none, [6, 31]⟩,
          ⟨(some 33), .ld none, [.r 32], none, [32]⟩,
          ⟨(some 34), .build [.int .i64 0, .int .i64 0, .int .i64 0] [], [], none, []⟩,
          ⟨(some 35), .build [.bool false, .bool false, .bool false, .bool false, .bool false, .bool false] [], [], none, []⟩,
          ⟨(some 6), .mov, [.r 33], none, [33]⟩,
          ⟨none, .st 3, [.r 7, .r 34], none, [34]⟩,
          ⟨none, .st 6, [.r 8, .r 35], none, [35]⟩])
        (.skip)) <|
      .seq (.seq (.ops [⟨(some 36), .fa 1, [.r 10], none, [31]⟩,
        ⟨(some 37), .ld none, [.r 36], none, [36]⟩,
        ⟨(some 38), .iarr 3 1, [.r 7, .r 37], none, []⟩,
        ⟨(some 39), .ld none, [.r 38], none, [38]⟩,
        ⟨(some 40), .bin .add, [.r 39, .k (.int .i64 1)], none, [39]⟩,
        ⟨(some 41), .iarr 3 1, [.r 7, .r 37], none, [37]⟩,
        ⟨none, .st 1, [.r 41, .r 40], none, [40, 41]⟩]) <|
      .seq (.draw [⟨(some 42), .fa 1, [.r 10], none, []⟩,
        ⟨(some 43), .ld none, [.r 42], none, [42]⟩,
        ⟨(some 44), .iarr 3 1, [.r 7, .r 43], none, [43]⟩,
        ⟨(some 45), .ld none, [.r 44], none, [44]⟩,
        ⟨(some 46), .fa 1, [.r 2], none, []⟩,
        ⟨(some 47), .ld none, [.r 46], none, [46]⟩,
        ⟨(some 48), .fa 1, [.r 10], none, []⟩,
        ⟨(some 49), .ld none, [.r 48], none, [48]⟩,
        ⟨(some 50), .ia 1, [.r 47, .r 49], none, [47, 49]⟩,
        ⟨(some 51), .ld none, [.r 50], none, [50]⟩,
        ⟨(some 52), .bin .gtr, [.r 45, .r 51], none, [45, 51]⟩,
        ⟨(some 53), .mov, [.r 52], none, [52]⟩,
        ⟨(some 54), .fa 2, [.r 10], (some (53, false)), []⟩,
        ⟨(some 55), .ld none, [.r 54], (some (53, false)), [54]⟩,
        ⟨(some 56), .iarr 6 1, [.r 8, .r 55], (some (53, false)), [55]⟩,
        ⟨(some 57), .ld none, [.r 56], (some (53, false)), [56]⟩,
        ⟨(some 58), .pick, [.r 53, .k (.bool true), .r 57], none, [53, 57]⟩] []) <|
      .cond (.r 58)
        (.seq (.ops [⟨(some 4), .mov, [.k (.bool false)], none, [2, 3, 6, 7, 8, 10, 17, 18, 19, 58]⟩]) <|
        .ret)
        (.skip)) <|
      .ops [⟨(some 59), .fa 2, [.r 10], none, [10, 58]⟩,
        ⟨(some 60), .ld none, [.r 59], none, [59]⟩,
        ⟨(some 61), .iarr 6 1, [.r 8, .r 60], none, [60]⟩,
        ⟨none, .st 1, [.r 61, .k (.bool true)], none, [61]⟩])) <|
    .ops [⟨(some 62), .bin .add, [.r 19, .k (.int .i64 1)], none, [19]⟩,
      ⟨(some 19), .mov, [.r 62], none, [62]⟩]
def m82 : MFn := ⟨[.tmp 4], .seq (.ops [⟨(some 2), .box, [.r 0], none, [0]⟩,
  ⟨(some 3), .box, [.r 1], none, [1]⟩,
  ⟨(some 4), .mov, [.k (.bool false)], none, [4]⟩]) <|
.seq (.ops [⟨(some 5), .mov, [.k (.func (.func 97) #[] #[])], none, []⟩]) <|
.seq (.seq (.ops [⟨(some 11), .fa 1, [.r 3], none, []⟩,
  ⟨(some 12), .ld none, [.r 11], none, [11]⟩,
  ⟨(some 13), .mov, [.r 5], none, [5]⟩,
  ⟨(some 14), .call 100, [.r 12, .r 13], none, [12, 13]⟩,
  ⟨(some 15), .un .not, [.r 14], none, [14]⟩]) <|
.cond (.r 15)
  (.seq (.ops [⟨(some 4), .mov, [.k (.bool false)], none, [2, 3, 15]⟩]) <|
  .ret)
  (.skip)) <|
.seq (.ops [⟨(some 6), .mov, [.k (.int .i64 (-1))], none, [15]⟩]) <|
.seq (.ops [⟨(some 7), .new 1 [.int .i64 0, .int .i64 0, .int .i64 0], [], none, []⟩]) <|
.seq (.ops [⟨(some 8), .new 1 [.bool false, .bool false, .bool false, .bool false, .bool false, .bool false], [], none, []⟩]) <|
.seq (.seq (.ops [⟨(some 16), .fa 1, [.r 3], none, []⟩,
  ⟨(some 17), .ld none, [.r 16], none, [16]⟩,
  ⟨(some 18), .len, [.r 17], none, []⟩,
  ⟨(some 19), .mov, [.k (.int .i64 0)], none, []⟩]) <|
.block 0 (.loop m82_0)) <|
.seq (.ops [⟨(some 4), .mov, [.k (.bool true)], none, [2, 3, 6, 7, 8, 17, 18, 19, 20]⟩]) <|
.ret⟩
theorem c82 : cFn Try.prog 82 = some m82.bare := by kernel_rfl

/-- 'swingbridge/legal.jobs' -/
def m83_0 : MCode := .seq (.ops [⟨(some 14), .bin .lss, [.r 13, .r 12], none, []⟩]) <|
    .seq (.cond (.r 14)
      (.skip)
      (.exit 0)) <|
    .seq (.block 1 (.seq (.ops [⟨(some 15), .ia 3, [.r 11, .r 13], none, [14]⟩,
        ⟨(some 16), .ld (some 3), [.r 15], none, [15]⟩,
        ⟨(some 8), .new 0 [.int .i64 0, .int .i64 0, .int .i64 0], [], none, []⟩,
        ⟨none, .st 3, [.r 8, .r 16], none, [16]⟩]) <|
      .seq (.seq (.ops [⟨(some 17), .fa 0, [.r 8], none, []⟩,
        ⟨(some 18), .ld none, [.r 17], none, [17]⟩,
        ⟨(some 19), .bin .lss, [.r 18, .k (.int .i64 0)], none, [18]⟩,
        ⟨(some 20), .mov, [.r 19], none, [19]⟩,
        ⟨(some 21), .fa 0, [.r 8], (some (20, false)), []⟩,
        ⟨(some 22), .ld none, [.r 21], (some (20, false)), [21]⟩,
        ⟨(some 23), .fa 3, [.r 2], (some (20, false)), []⟩,
        ⟨(some 24), .ld none, [.r 23], (some (20, false)), [23]⟩,
        ⟨(some 25), .len, [.r 24], (some (20, false)), [24]⟩,
        ⟨(some 26), .bin .geq, [.r 22, .r 25], (some (20, false)), [22, 25]⟩,
        ⟨(some 27), .pick, [.r 20, .k (.bool true), .r 26], none, [20, 26]⟩,
        ⟨(some 28), .mov, [.r 27], none, [27]⟩,
        ⟨(some 29), .fa 1, [.r 8], (some (28, false)), []⟩,
        ⟨(some 30), .ld none, [.r 29], (some (28, false)), [29]⟩,
        ⟨(some 31), .bin .lss, [.r 30, .k (.int .i64 0)], (some (28, false)), [30]⟩,
        ⟨(some 32), .pick, [.r 28, .k (.bool true), .r 31], none, [28, 31]⟩,
        ⟨(some 33), .mov, [.r 32], none, [32]⟩,
        ⟨(some 34), .fa 1, [.r 8], (some (33, false)), []⟩,
        ⟨(some 35), .ld none, [.r 34], (some (33, false)), [34]⟩,
        ⟨(some 36), .fa 2, [.r 8], (some (33, false)), []⟩,
        ⟨(some 37), .ld none, [.r 36], (some (33, false)), [36]⟩,
        ⟨(some 38), .bin .geq, [.r 35, .r 37], (some (33, false)), [35, 37]⟩,
        ⟨(some 39), .pick, [.r 33, .k (.bool true), .r 38], none, [33, 38]⟩,
        ⟨(some 40), .mov, [.r 39], none, [39]⟩,
        ⟨(some 41), .fa 2, [.r 8], (some (40, false)), []⟩,
        ⟨(some 42), .ld none, [.r 41], (some (40, false)), [41]⟩,
        ⟨(some 43), .fa 0, [.r 3], (some (40, false)), []⟩,
        ⟨(some 44), .ld none, [.r 43], (some (40, false)), [43]⟩,
        ⟨(some 45), .bin .gtr, [.r 42, .r 44], (some (40, false)), [42, 44]⟩,
        ⟨(some 46), .pick, [.r 40, .k (.bool true), .r 45], none, [40, 45]⟩]) <|
      .cond (.r 46)
        (.seq (.ops [⟨(some 4), .mov, [.k (.bool false)], none, [2, 3, 5, 6, 8, 11, 12, 13, 46]⟩]) <|
        .ret)
        (.skip)) <|
      .seq (.ops [⟨(some 47), .fa 0, [.r 8], none, [46]⟩,
        ⟨(some 48), .ld none, [.r 47], none, [47]⟩,
        ⟨(some 49), .iarr 6 3, [.r 5, .r 48], none, [48]⟩,
        ⟨(some 50), .ld (some 3), [.r 49], none, [49]⟩,
        ⟨(some 9), .new 0 [.int .i64 0, .int .i64 0, .int .i64 0], [], none, []⟩,
        ⟨none, .st 3, [.r 9, .r 50], none, [50]⟩]) <|
      .seq (.seq (.draw [⟨(some 51), .fa 0, [.r 8], none, []⟩,
        ⟨(some 52), .ld none, [.r 51], none, [51]⟩,
        ⟨(some 53), .iarr 6 1, [.r 6, .r 52], none, [52]⟩,
        ⟨(some 54), .ld none, [.r 53], none, [53]⟩,
        ⟨(some 55), .mov, [.r 54], none, [54]⟩,
        ⟨(some 56), .fa 1, [.r 8], (some (55, true)), []⟩,
        ⟨(some 57), .ld none, [.r 56], (some (55, true)), [56]⟩,
        ⟨(some 58), .fa 2, [.r 9], (some (55, true)), []⟩,
        ⟨(some 59), .ld none, [.r 58], (some (55, true)), [58]⟩,
        ⟨(some 60), .bin .lss, [.r 57, .r 59], (some (55, true)), [57, 59]⟩,
        ⟨(some 61), .mov, [.r 60], (some (55, true)), [60]⟩,
        ⟨(some 62), .fa 1, [.r 8], (some (61, false)), []⟩,
        ⟨(some 63), .ld none, [.r 62], (some (61, false)), [62]⟩,
        ⟨(some 64), .fa 1, [.r 9], (some (61, false)), [9]⟩,
        ⟨(some 65), .ld none, [.r 64], (some (61, false)), [64]⟩,
        ⟨(some 66), .bin .sub, [.r 63, .r 65], (some (61, false)), [63, 65]⟩,
        ⟨(some 67), .fa 3, [.r 2], (some (61, false)), []⟩,
        ⟨(some 68), .ld none, [.r 67], (some (61, false)), [67]⟩,
        ⟨(some 69), .fa 0, [.r 8], (some (61, false)), []⟩,
        ⟨(some 70), .ld none, [.r 69], (some (61, false)), [69]⟩,
        ⟨(some 71), .ia 6, [.r 68, .r 70], (some (61, false)), [68, 70]⟩,
        ⟨(some 72), .fa 1, [.r 71], (some (61, false)), [71]⟩,
        ⟨(some 73), .ld none, [.r 72], (some (61, false)), [72]⟩,
        ⟨(some 74), .bin .lss, [.r 66, .r 73], (some (61, false)), [66, 73]⟩,
        ⟨(some 75), .pick, [.r 61, .k (.bool true), .r 74], (some (55, true)), [61, 74]⟩,
        ⟨(some 76), .pick, [.r 55, .r 75, .k (.bool false)], none, [55, 75]⟩] []) <|
      .cond (.r 76)
        (.seq (.ops [⟨(some 4), .mov, [.k (.bool false)], none, [2, 3, 5, 6, 8, 11, 12, 13, 76]⟩]) <|
        .ret)
        (.skip)) <|
      .draw [⟨(some 77), .fa 0, [.r 8], none, [76]⟩,
        ⟨(some 78), .ld none, [.r 77], none, [77]⟩,
        ⟨(some 79), .fa 0, [.r 8], none, []⟩,
        ⟨(some 80), .ld none, [.r 79], none, [79]⟩,
        ⟨(some 81), .ld (some 3), [.r 8], none, [8]⟩,
        ⟨(some 82), .iarr 6 3, [.r 5, .r 78], none, [78]⟩,
        ⟨none, .st 3, [.r 82, .r 81], none, [81, 82]⟩,
        ⟨(some 83), .iarr 6 1, [.r 6, .r 80], none, [80]⟩,
        ⟨none, .st 1, [.r 83, .k (.bool true)], none, [83]⟩] [(3, 6)])) <|
    .ops [⟨(some 84), .bin .add, [.r 13, .k (.int .i64 1)], none, [13]⟩,
      ⟨(some 13), .mov, [.r 84], none, [84]⟩]
def m83 : MFn := ⟨[.tmp 4], .seq (.ops [⟨(some 2), .box, [.r 0], none, [0]⟩,
  ⟨(some 3), .box, [.r 1], none, [1]⟩,
  ⟨(some 4), .mov, [.k (.bool false)], none, [4]⟩]) <|
.seq (.ops [⟨(some 5), .new 3 [.int .i64 0, .int .i64 0, .int .i64 0, .int .i64 0, .int .i64 0, .int .i64 0, .int .i64 0, .int .i64 0, .int .i64 0, .int .i64 0, .int .i64 0, .int .i64 0, .int .i64 0, .int .i64 0, .int .i64 0, .int .i64 0, .int .i64 0, .int .i64 0], [], none, []⟩]) <|
.seq (.ops [⟨(some 6), .new 1 [.bool false, .bool false, .bool false, .bool false, .bool false, .bool false], [], none, []⟩]) <|
.seq (.seq (.ops [⟨(some 10), .fa 2, [.r 3], none, []⟩,
  ⟨(some 11), .ld none, [.r 10], none, [10]⟩,
  ⟨(some 12), .len, [.r 11], none, []⟩,
  ⟨(some 13), .mov, [.k (.int .i64 0)], none, []⟩]) <|
.block 0 (.loop m83_0)) <|
.seq (.ops [⟨(some 4), .mov, [.k (.bool true)], none, [2, 3, 5, 6, 11, 12, 13, 14]⟩]) <|
.ret⟩
theorem c83 : cFn Try.prog 83 = some m83.bare := by kernel_rfl

/-- 'swingbridge/legal.waits' -/
def m84_0 : MCode := .seq (.ops [⟨(some 64), .bin .lss, [.r 63, .r 62], none, []⟩]) <|
          .seq (.cond (.r 64)
            (.skip)
            (.exit 2)) <|
          .seq (.block 3 (.seq (.ops [⟨(some 65), .ia 5, [.r 61, .r 63], none, [64]⟩,
              ⟨(some 66), .ld (some 5), [.r 65], none, [65]⟩,
              ⟨(some 10), .new 0 [.int .i64 0, .int .i64 0, .int .i64 0, .int .i64 0, .int .i64 0], [], none, []⟩,
              ⟨none, .st 5, [.r 10, .r 66], none, [66]⟩]) <|
            .seq (.seq (.ops [⟨(some 68), .ld (some 4), [.r 2], none, []⟩,
              ⟨(some 69), .fa 0, [.r 10], none, []⟩,
              ⟨(some 70), .ld none, [.r 69], none, [69]⟩,
              ⟨(some 71), .fa 1, [.r 10], none, []⟩,
              ⟨(some 72), .ld none, [.r 71], none, [71]⟩,
              ⟨(some 73), .call 81, [.r 68, .r 70, .r 72], none, [68, 70, 72]⟩,
              ⟨(some 67), .mov, [.r 73], none, [73]⟩,
              ⟨(some 74), .extract 0, [.r 67], none, []⟩,
              ⟨(some 75), .extract 1, [.r 67], none, [67]⟩,
              ⟨(some 11), .new 0 [.int .i64 0, .int .i64 0, .int .i64 0], [], none, []⟩,
              ⟨none, .st 3, [.r 11, .r 74], none, [74]⟩,
              ⟨(some 12), .mov, [.r 75], none, [12, 75]⟩]) <|
            .seq (.ops [⟨(some 76), .fa 2, [.r 11], none, [11]⟩,
              ⟨(some 77), .ld none, [.r 76], none, [76]⟩,
              ⟨(some 78), .fa 2, [.r 7], none, []⟩,
              ⟨(some 79), .ld none, [.r 78], none, [78]⟩,
              ⟨(some 80), .bin .neq, [.r 77, .r 79], none, [77, 79]⟩]) <|
            .cond (.r 80)
              (.exit 3)
              (.skip)) <|
            .seq (.ops [⟨(some 81), .fa 3, [.r 10], none, [80]⟩,
              ⟨(some 82), .ld none, [.r 81], none, [81]⟩,
              ⟨(some 83), .fa 4, [.r 6], none, []⟩,
              ⟨(some 84), .ld none, [.r 83], none, [83]⟩,
              ⟨(some 85), .bin .lss, [.r 82, .r 84], none, [82, 84]⟩,
              ⟨(some 86), .mov, [.r 85], none, [85]⟩,
              ⟨(some 87), .fa 3, [.r 6], (some (86, true)), []⟩,
              ⟨(some 88), .ld none, [.r 87], (some (86, true)), [87]⟩,
              ⟨(some 89), .fa 4, [.r 10], (some (86, true)), [10]⟩,
              ⟨(some 90), .ld none, [.r 89], (some (86, true)), [89]⟩,
              ⟨(some 91), .bin .lss, [.r 88, .r 90], (some (86, true)), [88, 90]⟩,
              ⟨(some 92), .pick, [.r 86, .r 91, .k (.bool false)], none, [86, 91]⟩]) <|
            .cond (.r 92)
              (.seq (.ops [⟨(some 4), .mov, [.k (.bool false)], none, [2, 3, 6, 7, 14, 15, 16, 61, 62, 63, 92]⟩]) <|
              .ret)
              (.skip))) <|
          .ops [⟨(some 93), .bin .add, [.r 63, .k (.int .i64 1)], none, [10, 63, 80, 92]⟩,
            ⟨(some 63), .mov, [.r 93], none, [93]⟩]
def m84_1 : MCode := .seq (.ops [⟨(some 17), .bin .lss, [.r 16, .r 15], none, []⟩]) <|
    .seq (.cond (.r 17)
      (.skip)
      (.exit 0)) <|
    .seq (.block 1 (.seq (.ops [⟨(some 18), .mov, [.r 16], none, [17]⟩,
        ⟨(some 19), .ia 5, [.r 14, .r 16], none, []⟩,
        ⟨(some 20), .ld (some 5), [.r 19], none, [19]⟩,
        ⟨(some 6), .new 0 [.int .i64 0, .int .i64 0, .int .i64 0, .int .i64 0, .int .i64 0], [], none, []⟩,
        ⟨(some 5), .mov, [.r 18], none, [18]⟩,
        ⟨none, .st 5, [.r 6, .r 20], none, [20]⟩]) <|
      .seq (.ops [⟨(some 22), .ld (some 4), [.r 2], none, []⟩,
        ⟨(some 23), .fa 0, [.r 6], none, []⟩,
        ⟨(some 24), .ld none, [.r 23], none, [23]⟩,
        ⟨(some 25), .fa 1, [.r 6], none, []⟩,
        ⟨(some 26), .ld none, [.r 25], none, [25]⟩,
        ⟨(some 27), .call 81, [.r 22, .r 24, .r 26], none, [22, 24, 26]⟩,
        ⟨(some 21), .mov, [.r 27], none, [27]⟩,
        ⟨(some 28), .extract 0, [.r 21], none, []⟩,
        ⟨(some 29), .extract 1, [.r 21], none, [21]⟩,
        ⟨(some 7), .new 0 [.int .i64 0, .int .i64 0, .int .i64 0], [], none, []⟩,
        ⟨none, .st 3, [.r 7, .r 28], none, [28]⟩,
        ⟨(some 8), .mov, [.r 29], none, [29]⟩]) <|
      .seq (.seq (.ops [⟨(some 30), .mov, [.r 8], none, [8]⟩,
        ⟨(some 31), .un .not, [.r 30], none, [30]⟩,
        ⟨(some 32), .mov, [.r 31], none, [31]⟩,
        ⟨(some 33), .fa 2, [.r 6], (some (32, false)), []⟩,
        ⟨(some 34), .ld none, [.r 33], (some (32, false)), [33]⟩,
        ⟨(some 35), .bin .lss, [.r 34, .k (.int .i64 0)], (some (32, false)), [34]⟩,
        ⟨(some 36), .pick, [.r 32, .k (.bool true), .r 35], none, [32, 35]⟩,
        ⟨(some 37), .mov, [.r 36], none, [36]⟩,
        ⟨(some 38), .fa 2, [.r 6], (some (37, false)), []⟩,
        ⟨(some 39), .ld none, [.r 38], (some (37, false)), [38]⟩,
        ⟨(some 40), .fa 3, [.r 6], (some (37, false)), []⟩,
        ⟨(some 41), .ld none, [.r 40], (some (37, false)), [40]⟩,
        ⟨(some 42), .bin .gtr, [.r 39, .r 41], (some (37, false)), [39, 41]⟩,
        ⟨(some 43), .pick, [.r 37, .k (.bool true), .r 42], none, [37, 42]⟩,
        ⟨(some 44), .mov, [.r 43], none, [43]⟩,
        ⟨(some 45), .fa 3, [.r 6], (some (44, false)), []⟩,
        ⟨(some 46), .ld none, [.r 45], (some (44, false)), [45]⟩,
        ⟨(some 47), .fa 4, [.r 6], (some (44, false)), []⟩,
        ⟨(some 48), .ld none, [.r 47], (some (44, false)), [47]⟩,
        ⟨(some 49), .bin .geq, [.r 46, .r 48], (some (44, false)), [46, 48]⟩,
        ⟨(some 50), .pick, [.r 44, .k (.bool true), .r 49], none, [44, 49]⟩,
        ⟨(some 51), .mov, [.r 50], none, [50]⟩,
        ⟨(some 52), .fa 4, [.r 6], (some (51, false)), []⟩,
        ⟨(some 53), .ld none, [.r 52], (some (51, false)), [52]⟩,
        ⟨(some 54), .fa 0, [.r 3], (some (51, false)), []⟩,
        ⟨(some 55), .ld none, [.r 54], (some (51, false)), [54]⟩,
        ⟨(some 56), .bin .gtr, [.r 53, .r 55], (some (51, false)), [53, 55]⟩,
        ⟨(some 57), .pick, [.r 51, .k (.bool true), .r 56], none, [51, 56]⟩]) <|
      .cond (.r 57)
        (.seq (.ops [⟨(some 4), .mov, [.k (.bool false)], none, [2, 3, 5, 6, 7, 14, 15, 16, 57]⟩]) <|
        .ret)
        (.skip)) <|
      .seq (.skip) <|
      .seq (.ops [⟨(some 58), .fa 3, [.r 3], none, [57]⟩,
        ⟨(some 59), .ld none, [.r 58], none, [58]⟩,
        ⟨(some 60), .mov, [.r 5], none, [5]⟩,
        ⟨(some 61), .sl 5 false true false, [.r 59, .r 60], none, [59, 60]⟩,
        ⟨(some 62), .len, [.r 61], none, []⟩,
        ⟨(some 63), .mov, [.k (.int .i64 0)], none, []⟩]) <|
      .block 2 (.loop m84_0))) <|
    .ops [⟨(some 94), .bin .add, [.r 16, .k (.int .i64 1)], none, [6, 7, 16, 61, 62, 63, 64]⟩,
      ⟨(some 16), .mov, [.r 94], none, [94]⟩]
def m84 : MFn := ⟨[.tmp 4], .seq (.ops [⟨(some 2), .box, [.r 0], none, [0]⟩,
  ⟨(some 3), .box, [.r 1], none, [1]⟩,
  ⟨(some 4), .mov, [.k (.bool false)], none, [4]⟩]) <|
.seq (.seq (.ops [⟨(some 13), .fa 3, [.r 3], none, []⟩,
  ⟨(some 14), .ld none, [.r 13], none, [13]⟩,
  ⟨(some 15), .len, [.r 14], none, []⟩,
  ⟨(some 16), .mov, [.k (.int .i64 0)], none, []⟩]) <|
.block 0 (.loop m84_1)) <|
.seq (.ops [⟨(some 4), .mov, [.k (.bool true)], none, [2, 3, 14, 15, 16, 17]⟩]) <|
.ret⟩
theorem c84 : cFn Try.prog 84 = some m84.bare := by kernel_rfl

/-- 'swingbridge/swingbridgeref7.OK' -/
def m85 : MFn := ⟨[.tmp 2], .seq (.ops [⟨(some 1), .box, [.r 0], none, [0]⟩,
  ⟨(some 2), .mov, [.k (.bool false)], none, [2]⟩]) <|
.seq (.ops [⟨(some 6), .ld (some 4), [.r 1], none, [1]⟩,
  ⟨(some 7), .call 102, [.r 6], none, [6]⟩,
  ⟨(some 5), .mov, [.r 7], none, [7]⟩,
  ⟨(some 8), .extract 0, [.r 5], none, []⟩,
  ⟨(some 9), .extract 1, [.r 5], none, [5]⟩,
  ⟨(some 3), .mov, [.r 8], none, [3, 8]⟩,
  ⟨(some 4), .mov, [.r 9], none, [9]⟩]) <|
.seq (.ops [⟨(some 10), .mov, [.r 4], none, [4]⟩,
  ⟨(some 11), .bin .eql, [.r 10, .k (.int .i64 0)], none, [10]⟩,
  ⟨(some 2), .mov, [.r 11], none, [11]⟩]) <|
.ret⟩
theorem c85 : cFn Try.prog 85 = some m85.bare := by kernel_rfl

/-- 'swingbridge/swingbridgeref25.slots' -/
def m86_0 : MCode := .seq (.seq (.draw [⟨(some 79), .mov, [.r 8], none, []⟩,
            ⟨(some 80), .bin .geq, [.r 79, .k (.int .i64 0)], none, [79]⟩,
            ⟨(some 81), .mov, [.r 80], none, [80]⟩,
            ⟨(some 82), .fa 1, [.r 3], (some (81, true)), []⟩,
            ⟨(some 83), .ld none, [.r 82], (some (81, true)), [82]⟩,
            ⟨(some 84), .mov, [.r 8], (some (81, true)), []⟩,
            ⟨(some 85), .ia 4, [.r 83, .r 84], (some (81, true)), [83, 84]⟩,
            ⟨(some 86), .fa 0, [.r 85], (some (81, true)), [85]⟩,
            ⟨(some 87), .ld none, [.r 86], (some (81, true)), [86]⟩,
            ⟨(some 88), .fa 0, [.r 6], (some (81, true)), []⟩,
            ⟨(some 89), .ld none, [.r 88], (some (81, true)), [88]⟩,
            ⟨(some 90), .bin .eql, [.r 87, .r 89], (some (81, true)), [87, 89]⟩,
            ⟨(some 91), .pick, [.r 81, .r 90, .k (.bool false)], none, [81, 90]⟩] []) <|
          .cond (.r 91)
            (.skip)
            (.exit 2)) <|
          .seq (.block 3 (.seq (.seq (.draw [⟨(some 94), .fa 1, [.r 3], none, [91]⟩,
              ⟨(some 95), .ld none, [.r 94], none, [94]⟩,
              ⟨(some 96), .mov, [.r 8], none, []⟩,
              ⟨(some 97), .ia 4, [.r 95, .r 96], none, [95, 96]⟩,
              ⟨(some 98), .fa 2, [.r 97], none, [97]⟩,
              ⟨(some 99), .ld none, [.r 98], none, [98]⟩,
              ⟨(some 100), .fa 2, [.r 6], none, []⟩,
              ⟨(some 101), .ld none, [.r 100], none, [100]⟩,
              ⟨(some 102), .bin .eql, [.r 99, .r 101], none, [99, 101]⟩,
              ⟨(some 103), .mov, [.r 102], none, [102]⟩,
              ⟨(some 104), .fa 1, [.r 3], (some (103, false)), []⟩,
              ⟨(some 105), .ld none, [.r 104], (some (103, false)), [104]⟩,
              ⟨(some 106), .mov, [.r 8], (some (103, false)), []⟩,
              ⟨(some 107), .ia 4, [.r 105, .r 106], (some (103, false)), [105, 106]⟩,
              ⟨(some 108), .fa 1, [.r 107], (some (103, false)), [107]⟩,
              ⟨(some 109), .ld none, [.r 108], (some (103, false)), [108]⟩,
              ⟨(some 110), .fa 1, [.r 6], (some (103, false)), []⟩,
              ⟨(some 111), .ld none, [.r 110], (some (103, false)), [110]⟩,
              ⟨(some 112), .bin .gtr, [.r 109, .r 111], (some (103, false)), [109, 111]⟩,
              ⟨(some 113), .pick, [.r 103, .k (.bool true), .r 112], none, [103, 112]⟩] []) <|
            .cond (.r 113)
              (.seq (.ops [⟨(some 4), .mov, [.k (.bool false)], none, [2, 3, 5, 6, 7, 8, 113]⟩]) <|
              .ret)
              (.skip)) <|
            .seq (.draw [⟨(some 114), .fa 1, [.r 3], none, [113]⟩,
              ⟨(some 115), .ld none, [.r 114], none, [114]⟩,
              ⟨(some 116), .mov, [.r 8], none, []⟩,
              ⟨(some 117), .ia 4, [.r 115, .r 116], none, [115, 116]⟩,
              ⟨(some 118), .fa 1, [.r 117], none, [117]⟩,
              ⟨(some 119), .ld none, [.r 118], none, [118]⟩,
              ⟨(some 120), .fa 1, [.r 6], none, []⟩,
              ⟨(some 121), .ld none, [.r 120], none, [120]⟩,
              ⟨(some 122), .bin .eql, [.r 119, .r 121], none, [119, 121]⟩] []) <|
            .cond (.r 122)
              (.ops [⟨(some 123), .mov, [.r 7], none, [7, 122]⟩,
                ⟨(some 124), .bin .add, [.r 123, .k (.int .i64 1)], none, [123]⟩,
                ⟨(some 7), .mov, [.r 124], none, [124]⟩])
              (.skip))) <|
          .ops [⟨(some 92), .mov, [.r 8], none, [8, 122]⟩,
            ⟨(some 93), .bin .sub, [.r 92, .k (.int .i64 1)], none, [92]⟩,
            ⟨(some 8), .mov, [.r 93], none, [93]⟩]
def m86_1 : MCode := .seq (.seq (.ops [⟨(some 9), .mov, [.r 5], none, []⟩,
      ⟨(some 10), .fa 1, [.r 3], none, []⟩,
      ⟨(some 11), .ld none, [.r 10], none, [10]⟩,
      ⟨(some 12), .len, [.r 11], none, [11]⟩,
      ⟨(some 13), .bin .lss, [.r 9, .r 12], none, [9, 12]⟩]) <|
    .cond (.r 13)
      (.skip)
      (.exit 0)) <|
    .seq (.block 1 (.seq (.ops [⟨(some 16), .fa 1, [.r 3], none, [13]⟩,
        ⟨(some 17), .ld none, [.r 16], none, [16]⟩,
        ⟨(some 18), .mov, [.r 5], none, []⟩,
        ⟨(some 19), .ia 4, [.r 17, .r 18], none, [17, 18]⟩,
        ⟨(some 20), .ld (some 4), [.r 19], none, [19]⟩,
        ⟨(some 6), .new 0 [.int .i64 0, .int .i64 0, .int .i64 0, .bool false], [], none, []⟩,
        ⟨none, .st 4, [.r 6, .r 20], none, [20]⟩]) <|
      .seq (.seq (.ops [⟨(some 21), .fa 0, [.r 6], none, []⟩,
        ⟨(some 22), .ld none, [.r 21], none, [21]⟩,
        ⟨(some 23), .bin .lss, [.r 22, .k (.int .i64 0)], none, [22]⟩,
        ⟨(some 24), .mov, [.r 23], none, [23]⟩,
        ⟨(some 25), .fa 0, [.r 6], (some (24, false)), []⟩,
        ⟨(some 26), .ld none, [.r 25], (some (24, false)), [25]⟩,
        ⟨(some 27), .fa 0, [.r 3], (some (24, false)), []⟩,
        ⟨(some 28), .ld none, [.r 27], (some (24, false)), [27]⟩,
        ⟨(some 29), .bin .geq, [.r 26, .r 28], (some (24, false)), [26, 28]⟩,
        ⟨(some 30), .pick, [.r 24, .k (.bool true), .r 29], none, [24, 29]⟩,
        ⟨(some 31), .mov, [.r 30], none, [30]⟩,
        ⟨(some 32), .fa 1, [.r 6], (some (31, false)), []⟩,
        ⟨(some 33), .ld none, [.r 32], (some (31, false)), [32]⟩,
        ⟨(some 34), .bin .lss, [.r 33, .k (.int .i64 0)], (some (31, false)), [33]⟩,
        ⟨(some 35), .pick, [.r 31, .k (.bool true), .r 34], none, [31, 34]⟩,
        ⟨(some 36), .mov, [.r 35], none, [35]⟩,
        ⟨(some 37), .fa 1, [.r 6], (some (36, false)), []⟩,
        ⟨(some 38), .ld none, [.r 37], (some (36, false)), [37]⟩,
        ⟨(some 39), .fa 1, [.r 2], (some (36, false)), []⟩,
        ⟨(some 40), .ld none, [.r 39], (some (36, false)), [39]⟩,
        ⟨(some 41), .len, [.r 40], (some (36, false)), [40]⟩,
        ⟨(some 42), .bin .geq, [.r 38, .r 41], (some (36, false)), [38, 41]⟩,
        ⟨(some 43), .pick, [.r 36, .k (.bool true), .r 42], none, [36, 42]⟩,
        ⟨(some 44), .mov, [.r 43], none, [43]⟩,
        ⟨(some 45), .fa 2, [.r 6], (some (44, false)), []⟩,
        ⟨(some 46), .ld none, [.r 45], (some (44, false)), [45]⟩,
        ⟨(some 47), .bin .lss, [.r 46, .k (.int .i64 0)], (some (44, false)), [46]⟩,
        ⟨(some 48), .pick, [.r 44, .k (.bool true), .r 47], none, [44, 47]⟩,
        ⟨(some 49), .mov, [.r 48], none, [48]⟩,
        ⟨(some 50), .fa 2, [.r 6], (some (49, false)), []⟩,
        ⟨(some 51), .ld none, [.r 50], (some (49, false)), [50]⟩,
        ⟨(some 52), .fa 3, [.r 2], (some (49, false)), []⟩,
        ⟨(some 53), .ld none, [.r 52], (some (49, false)), [52]⟩,
        ⟨(some 54), .len, [.r 53], (some (49, false)), [53]⟩,
        ⟨(some 55), .bin .geq, [.r 51, .r 54], (some (49, false)), [51, 54]⟩,
        ⟨(some 56), .pick, [.r 49, .k (.bool true), .r 55], none, [49, 55]⟩]) <|
      .cond (.r 56)
        (.seq (.ops [⟨(some 4), .mov, [.k (.bool false)], none, [2, 3, 5, 6, 56]⟩]) <|
        .ret)
        (.skip)) <|
      .seq (.seq (.draw [⟨(some 57), .fa 0, [.r 2], none, [56]⟩,
        ⟨(some 58), .ld none, [.r 57], none, [57]⟩,
        ⟨(some 59), .bin .neq, [.r 58, .k (.int .i64 2)], none, [58]⟩,
        ⟨(some 60), .mov, [.r 59], none, [59]⟩,
        ⟨(some 61), .fa 3, [.r 6], (some (60, false)), []⟩,
        ⟨(some 62), .ld none, [.r 61], (some (60, false)), [61]⟩,
        ⟨(some 63), .un .not, [.r 62], (some (60, false)), [62]⟩,
        ⟨(some 64), .pick, [.r 60, .k (.bool true), .r 63], none, [60, 63]⟩,
        ⟨(some 65), .mov, [.r 64], none, [64]⟩,
        ⟨(some 66), .fa 3, [.r 2], (some (65, true)), []⟩,
        ⟨(some 67), .ld none, [.r 66], (some (65, true)), [66]⟩,
        ⟨(some 68), .fa 2, [.r 6], (some (65, true)), []⟩,
        ⟨(some 69), .ld none, [.r 68], (some (65, true)), [68]⟩,
        ⟨(some 70), .ia 6, [.r 67, .r 69], (some (65, true)), [67, 69]⟩,
        ⟨(some 71), .fa 4, [.r 70], (some (65, true)), [70]⟩,
        ⟨(some 72), .ld none, [.r 71], (some (65, true)), [71]⟩,
        ⟨(some 73), .fa 1, [.r 6], (some (65, true)), []⟩,
        ⟨(some 74), .ld none, [.r 73], (some (65, true)), [73]⟩,
        ⟨(some 75), .bin .neq, [.r 72, .r 74], (some (65, true)), [72, 74]⟩,
        ⟨(some 76), .pick, [.r 65, .r 75, .k (.bool false)], none, [65, 75]⟩] []) <|
      .cond (.r 76)
        (.seq (.ops [⟨(some 4), .mov, [.k (.bool false)], none, [2, 3, 5, 6, 76]⟩]) <|
        .ret)
        (.skip)) <|
      .seq (.ops [⟨(some 7), .mov, [.k (.int .i64 1)], none, [76]⟩]) <|
      .seq (.seq (.ops [⟨(some 77), .mov, [.r 5], none, []⟩,
        ⟨(some 78), .bin .sub, [.r 77, .k (.int .i64 1)], none, [77]⟩,
        ⟨(some 8), .mov, [.r 78], none, [78]⟩]) <|
      .block 2 (.loop m86_0)) <|
      .seq (.draw [⟨(some 125), .mov, [.r 7], none, [7, 8, 91]⟩,
        ⟨(some 126), .fa 1, [.r 2], none, []⟩,
        ⟨(some 127), .ld none, [.r 126], none, [126]⟩,
        ⟨(some 128), .fa 1, [.r 6], none, []⟩,
        ⟨(some 129), .ld none, [.r 128], none, [128]⟩,
        ⟨(some 130), .ia 1, [.r 127, .r 129], none, [127, 129]⟩,
        ⟨(some 131), .ld none, [.r 130], none, [130]⟩,
        ⟨(some 132), .bin .gtr, [.r 125, .r 131], none, [125, 131]⟩,
        ⟨(some 133), .mov, [.r 132], none, [132]⟩,
        ⟨(some 134), .mov, [.r 5], (some (133, false)), []⟩,
        ⟨(some 135), .bin .gtr, [.r 134, .k (.int .i64 0)], (some (133, false)), [134]⟩,
        ⟨(some 136), .mov, [.r 135], (some (133, false)), [135]⟩,
        ⟨(some 137), .fa 1, [.r 3], (some (136, true)), []⟩,
        ⟨(some 138), .ld none, [.r 137], (some (136, true)), [137]⟩,
        ⟨(some 139), .mov, [.r 5], (some (136, true)), []⟩,
        ⟨(some 140), .bin .sub, [.r 139, .k (.int .i64 1)], (some (136, true)), [139]⟩,
        ⟨(some 141), .ia 4, [.r 138, .r 140], (some (136, true)), [138, 140]⟩,
        ⟨(some 142), .fa 0, [.r 141], (some (136, true)), [141]⟩,
        ⟨(some 143), .ld none, [.r 142], (some (136, true)), [142]⟩,
        ⟨(some 144), .fa 0, [.r 6], (some (136, true)), [6]⟩,
        ⟨(some 145), .ld none, [.r 144], (some (136, true)), [144]⟩,
        ⟨(some 146), .bin .gtr, [.r 143, .r 145], (some (136, true)), [143, 145]⟩,
        ⟨(some 147), .pick, [.r 136, .r 146, .k (.bool false)], (some (133, false)), [136, 146]⟩,
        ⟨(some 148), .pick, [.r 133, .k (.bool true), .r 147], none, [133, 147]⟩] []) <|
      .cond (.r 148)
        (.seq (.ops [⟨(some 4), .mov, [.k (.bool false)], none, [2, 3, 5, 148]⟩]) <|
        .ret)
        (.skip))) <|
    .ops [⟨(some 14), .mov, [.r 5], none, [5, 148]⟩,
      ⟨(some 15), .bin .add, [.r 14, .k (.int .i64 1)], none, [14]⟩,
      ⟨(some 5), .mov, [.r 15], none, [15]⟩]
def m86 : MFn := ⟨[.tmp 4], .seq (.ops [⟨(some 2), .box, [.r 0], none, [0]⟩,
  ⟨(some 3), .box, [.r 1], none, [1]⟩,
  ⟨(some 4), .mov, [.k (.bool false)], none, [4]⟩]) <|
.seq (.seq (.ops [⟨(some 5), .mov, [.k (.int .i64 0)], none, []⟩]) <|
.block 0 (.loop m86_1)) <|
.seq (.ops [⟨(some 4), .mov, [.k (.bool true)], none, [2, 3, 5, 13]⟩]) <|
.ret⟩
theorem c86 : cFn Try.prog 86 = some m86.bare := by kernel_rfl

/-- 'swingbridge/swingbridgeref25.jobs' -/
def m87_0 : MCode := .seq (.seq (.ops [⟨(some 53), .mov, [.r 7], none, []⟩,
            ⟨(some 54), .bin .geq, [.r 53, .k (.int .i64 0)], none, [53]⟩]) <|
          .cond (.r 54)
            (.skip)
            (.exit 2)) <|
          .seq (.block 3 (.seq (.ops [⟨(some 57), .fa 2, [.r 3], none, [54]⟩,
              ⟨(some 58), .ld none, [.r 57], none, [57]⟩,
              ⟨(some 59), .mov, [.r 7], none, []⟩,
              ⟨(some 60), .ia 3, [.r 58, .r 59], none, [58, 59]⟩,
              ⟨(some 61), .ld (some 3), [.r 60], none, [60]⟩,
              ⟨(some 8), .new 0 [.int .i64 0, .int .i64 0, .int .i64 0], [], none, []⟩,
              ⟨none, .st 3, [.r 8, .r 61], none, [61]⟩]) <|
            .seq (.ops [⟨(some 62), .fa 0, [.r 8], none, []⟩,
              ⟨(some 63), .ld none, [.r 62], none, [62]⟩,
              ⟨(some 64), .fa 0, [.r 6], none, []⟩,
              ⟨(some 65), .ld none, [.r 64], none, [64]⟩,
              ⟨(some 66), .bin .eql, [.r 63, .r 65], none, [63, 65]⟩]) <|
            .cond (.r 66)
              (.seq (.seq (.draw [⟨(some 67), .fa 1, [.r 6], none, [7, 66]⟩,
                ⟨(some 68), .ld none, [.r 67], none, [67]⟩,
                ⟨(some 69), .fa 2, [.r 8], none, []⟩,
                ⟨(some 70), .ld none, [.r 69], none, [69]⟩,
                ⟨(some 71), .bin .lss, [.r 68, .r 70], none, [68, 70]⟩,
                ⟨(some 72), .mov, [.r 71], none, [71]⟩,
                ⟨(some 73), .fa 1, [.r 6], (some (72, false)), []⟩,
                ⟨(some 74), .ld none, [.r 73], (some (72, false)), [73]⟩,
                ⟨(some 75), .fa 1, [.r 8], (some (72, false)), [8]⟩,
                ⟨(some 76), .ld none, [.r 75], (some (72, false)), [75]⟩,
                ⟨(some 77), .bin .sub, [.r 74, .r 76], (some (72, false)), [74, 76]⟩,
                ⟨(some 78), .fa 3, [.r 2], (some (72, false)), []⟩,
                ⟨(some 79), .ld none, [.r 78], (some (72, false)), [78]⟩,
                ⟨(some 80), .fa 0, [.r 6], (some (72, false)), [6]⟩,
                ⟨(some 81), .ld none, [.r 80], (some (72, false)), [80]⟩,
                ⟨(some 82), .ia 6, [.r 79, .r 81], (some (72, false)), [79, 81]⟩,
                ⟨(some 83), .fa 1, [.r 82], (some (72, false)), [82]⟩,
                ⟨(some 84), .ld none, [.r 83], (some (72, false)), [83]⟩,
                ⟨(some 85), .bin .lss, [.r 77, .r 84], (some (72, false)), [77, 84]⟩,
                ⟨(some 86), .pick, [.r 72, .k (.bool true), .r 85], none, [72, 85]⟩] []) <|
              .cond (.r 86)
                (.seq (.ops [⟨(some 4), .mov, [.k (.bool false)], none, [2, 3, 5, 86]⟩]) <|
                .ret)
                (.skip)) <|
              .exit 2)
              (.skip))) <|
          .ops [⟨(some 55), .mov, [.r 7], none, [7, 8, 66]⟩,
            ⟨(some 56), .bin .sub, [.r 55, .k (.int .i64 1)], none, [55]⟩,
            ⟨(some 7), .mov, [.r 56], none, [56]⟩]
def m87_1 : MCode := .seq (.seq (.ops [⟨(some 9), .mov, [.r 5], none, []⟩,
      ⟨(some 10), .fa 2, [.r 3], none, []⟩,
      ⟨(some 11), .ld none, [.r 10], none, [10]⟩,
      ⟨(some 12), .len, [.r 11], none, [11]⟩,
      ⟨(some 13), .bin .lss, [.r 9, .r 12], none, [9, 12]⟩]) <|
    .cond (.r 13)
      (.skip)
      (.exit 0)) <|
    .seq (.block 1 (.seq (.ops [⟨(some 16), .fa 2, [.r 3], none, [13]⟩,
        ⟨(some 17), .ld none, [.r 16], none, [16]⟩,
        ⟨(some 18), .mov, [.r 5], none, []⟩,
        ⟨(some 19), .ia 3, [.r 17, .r 18], none, [17, 18]⟩,
        ⟨(some 20), .ld (some 3), [.r 19], none, [19]⟩,
        ⟨(some 6), .new 0 [.int .i64 0, .int .i64 0, .int .i64 0], [], none, []⟩,
        ⟨none, .st 3, [.r 6, .r 20], none, [20]⟩]) <|
      .seq (.seq (.ops [⟨(some 21), .fa 0, [.r 6], none, []⟩,
        ⟨(some 22), .ld none, [.r 21], none, [21]⟩,
        ⟨(some 23), .bin .lss, [.r 22, .k (.int .i64 0)], none, [22]⟩,
        ⟨(some 24), .mov, [.r 23], none, [23]⟩,
        ⟨(some 25), .fa 0, [.r 6], (some (24, false)), []⟩,
        ⟨(some 26), .ld none, [.r 25], (some (24, false)), [25]⟩,
        ⟨(some 27), .fa 3, [.r 2], (some (24, false)), []⟩,
        ⟨(some 28), .ld none, [.r 27], (some (24, false)), [27]⟩,
        ⟨(some 29), .len, [.r 28], (some (24, false)), [28]⟩,
        ⟨(some 30), .bin .geq, [.r 26, .r 29], (some (24, false)), [26, 29]⟩,
        ⟨(some 31), .pick, [.r 24, .k (.bool true), .r 30], none, [24, 30]⟩,
        ⟨(some 32), .mov, [.r 31], none, [31]⟩,
        ⟨(some 33), .fa 1, [.r 6], (some (32, false)), []⟩,
        ⟨(some 34), .ld none, [.r 33], (some (32, false)), [33]⟩,
        ⟨(some 35), .bin .lss, [.r 34, .k (.int .i64 0)], (some (32, false)), [34]⟩,
        ⟨(some 36), .pick, [.r 32, .k (.bool true), .r 35], none, [32, 35]⟩,
        ⟨(some 37), .mov, [.r 36], none, [36]⟩,
        ⟨(some 38), .fa 2, [.r 6], (some (37, false)), []⟩,
        ⟨(some 39), .ld none, [.r 38], (some (37, false)), [38]⟩,
        ⟨(some 40), .fa 1, [.r 6], (some (37, false)), []⟩,
        ⟨(some 41), .ld none, [.r 40], (some (37, false)), [40]⟩,
        ⟨(some 42), .bin .leq, [.r 39, .r 41], (some (37, false)), [39, 41]⟩,
        ⟨(some 43), .pick, [.r 37, .k (.bool true), .r 42], none, [37, 42]⟩,
        ⟨(some 44), .mov, [.r 43], none, [43]⟩,
        ⟨(some 45), .fa 2, [.r 6], (some (44, false)), []⟩,
        ⟨(some 46), .ld none, [.r 45], (some (44, false)), [45]⟩,
        ⟨(some 47), .fa 0, [.r 3], (some (44, false)), []⟩,
        ⟨(some 48), .ld none, [.r 47], (some (44, false)), [47]⟩,
        ⟨(some 49), .bin .gtr, [.r 46, .r 48], (some (44, false)), [46, 48]⟩,
        ⟨(some 50), .pick, [.r 44, .k (.bool true), .r 49], none, [44, 49]⟩]) <|
      .cond (.r 50)
        (.seq (.ops [⟨(some 4), .mov, [.k (.bool false)], none, [2, 3, 5, 6, 50]⟩]) <|
        .ret)
        (.skip)) <|
      .seq (.ops [⟨(some 51), .mov, [.r 5], none, [50]⟩,
        ⟨(some 52), .bin .sub, [.r 51, .k (.int .i64 1)], none, [51]⟩,
        ⟨(some 7), .mov, [.r 52], none, [52]⟩]) <|
      .block 2 (.loop m87_0))) <|
    .ops [⟨(some 14), .mov, [.r 5], none, [5, 6, 7, 54, 86]⟩,
      ⟨(some 15), .bin .add, [.r 14, .k (.int .i64 1)], none, [14]⟩,
      ⟨(some 5), .mov, [.r 15], none, [15]⟩]
def m87 : MFn := ⟨[.tmp 4], .seq (.ops [⟨(some 2), .box, [.r 0], none, [0]⟩,
  ⟨(some 3), .box, [.r 1], none, [1]⟩,
  ⟨(some 4), .mov, [.k (.bool false)], none, [4]⟩]) <|
.seq (.seq (.ops [⟨(some 5), .mov, [.k (.int .i64 0)], none, []⟩]) <|
.block 0 (.loop m87_1)) <|
.seq (.ops [⟨(some 4), .mov, [.k (.bool true)], none, [2, 3, 5, 13]⟩]) <|
.ret⟩
theorem c87 : cFn Try.prog 87 = some m87.bare := by kernel_rfl

/-- 'swingbridge/swingbridgeref25.waits' -/
def m88_0 : MCode := .seq (.seq (.ops [⟨(some 59), .mov, [.r 9], none, []⟩,
            ⟨(some 60), .mov, [.r 5], none, []⟩,
            ⟨(some 61), .bin .lss, [.r 59, .r 60], none, [59, 60]⟩]) <|
          .cond (.r 61)
            (.skip)
            (.exit 2)) <|
          .seq (.block 3 (.seq (.ops [⟨(some 64), .fa 3, [.r 3], none, [61]⟩,
              ⟨(some 65), .ld none, [.r 64], none, [64]⟩,
              ⟨(some 66), .mov, [.r 9], none, []⟩,
              ⟨(some 67), .ia 5, [.r 65, .r 66], none, [65, 66]⟩,
              ⟨(some 68), .ld (some 5), [.r 67], none, [67]⟩,
              ⟨(some 10), .new 0 [.int .i64 0, .int .i64 0, .int .i64 0, .int .i64 0, .int .i64 0], [], none, []⟩,
              ⟨none, .st 5, [.r 10, .r 68], none, [68]⟩]) <|
            .seq (.ops [⟨(some 70), .ld (some 4), [.r 2], none, []⟩,
              ⟨(some 71), .ld (some 5), [.r 10], none, []⟩,
              ⟨(some 72), .call 65, [.r 70, .r 71], none, [70, 71]⟩,
              ⟨(some 69), .mov, [.r 72], none, [72]⟩,
              ⟨(some 73), .extract 0, [.r 69], none, []⟩,
              ⟨(some 74), .extract 1, [.r 69], none, [69]⟩,
              ⟨(some 11), .mov, [.r 73], none, [73]⟩,
              ⟨(some 12), .mov, [.r 74], none, [12, 74]⟩]) <|
            .seq (.ops [⟨(some 75), .mov, [.r 11], none, [11]⟩,
              ⟨(some 76), .mov, [.r 7], none, []⟩,
              ⟨(some 77), .bin .eql, [.r 75, .r 76], none, [75, 76]⟩,
              ⟨(some 78), .mov, [.r 77], none, [77]⟩,
              ⟨(some 79), .fa 3, [.r 6], (some (78, true)), []⟩,
              ⟨(some 80), .ld none, [.r 79], (some (78, true)), [79]⟩,
              ⟨(some 81), .fa 4, [.r 10], (some (78, true)), []⟩,
              ⟨(some 82), .ld none, [.r 81], (some (78, true)), [81]⟩,
              ⟨(some 83), .bin .lss, [.r 80, .r 82], (some (78, true)), [80, 82]⟩,
              ⟨(some 84), .pick, [.r 78, .r 83, .k (.bool false)], none, [78, 83]⟩,
              ⟨(some 85), .mov, [.r 84], none, [84]⟩,
              ⟨(some 86), .fa 3, [.r 10], (some (85, true)), [10]⟩,
              ⟨(some 87), .ld none, [.r 86], (some (85, true)), [86]⟩,
              ⟨(some 88), .fa 4, [.r 6], (some (85, true)), []⟩,
              ⟨(some 89), .ld none, [.r 88], (some (85, true)), [88]⟩,
              ⟨(some 90), .bin .lss, [.r 87, .r 89], (some (85, true)), [87, 89]⟩,
              ⟨(some 91), .pick, [.r 85, .r 90, .k (.bool false)], none, [85, 90]⟩]) <|
            .cond (.r 91)
              (.seq (.ops [⟨(some 4), .mov, [.k (.bool false)], none, [2, 3, 5, 6, 7, 9, 91]⟩]) <|
              .ret)
              (.skip))) <|
          .ops [⟨(some 62), .mov, [.r 9], none, [9, 91]⟩,
            ⟨(some 63), .bin .add, [.r 62, .k (.int .i64 1)], none, [62]⟩,
            ⟨(some 9), .mov, [.r 63], none, [63]⟩]
def m88_1 : MCode := .seq (.seq (.ops [⟨(some 13), .mov, [.r 5], none, []⟩,
      ⟨(some 14), .fa 3, [.r 3], none, []⟩,
      ⟨(some 15), .ld none, [.r 14], none, [14]⟩,
      ⟨(some 16), .len, [.r 15], none, [15]⟩,
      ⟨(some 17), .bin .lss, [.r 13, .r 16], none, [13, 16]⟩]) <|
    .cond (.r 17)
      (.skip)
      (.exit 0)) <|
    .seq (.block 1 (.seq (.ops [⟨(some 20), .fa 3, [.r 3], none, [17]⟩,
        ⟨(some 21), .ld none, [.r 20], none, [20]⟩,
        ⟨(some 22), .mov, [.r 5], none, []⟩,
        ⟨(some 23), .ia 5, [.r 21, .r 22], none, [21, 22]⟩,
        ⟨(some 24), .ld (some 5), [.r 23], none, [23]⟩,
        ⟨(some 6), .new 0 [.int .i64 0, .int .i64 0, .int .i64 0, .int .i64 0, .int .i64 0], [], none, []⟩,
        ⟨none, .st 5, [.r 6, .r 24], none, [24]⟩]) <|
      .seq (.ops [⟨(some 26), .ld (some 4), [.r 2], none, []⟩,
        ⟨(some 27), .ld (some 5), [.r 6], none, []⟩,
        ⟨(some 28), .call 65, [.r 26, .r 27], none, [26, 27]⟩,
        ⟨(some 25), .mov, [.r 28], none, [28]⟩,
        ⟨(some 29), .extract 0, [.r 25], none, []⟩,
        ⟨(some 30), .extract 1, [.r 25], none, [25]⟩,
        ⟨(some 7), .mov, [.r 29], none, [29]⟩,
        ⟨(some 8), .mov, [.r 30], none, [30]⟩]) <|
      .seq (.seq (.ops [⟨(some 31), .mov, [.r 8], none, [8]⟩,
        ⟨(some 32), .un .not, [.r 31], none, [31]⟩,
        ⟨(some 33), .mov, [.r 32], none, [32]⟩,
        ⟨(some 34), .fa 2, [.r 6], (some (33, false)), []⟩,
        ⟨(some 35), .ld none, [.r 34], (some (33, false)), [34]⟩,
        ⟨(some 36), .bin .lss, [.r 35, .k (.int .i64 0)], (some (33, false)), [35]⟩,
        ⟨(some 37), .pick, [.r 33, .k (.bool true), .r 36], none, [33, 36]⟩,
        ⟨(some 38), .mov, [.r 37], none, [37]⟩,
        ⟨(some 39), .fa 3, [.r 6], (some (38, false)), []⟩,
        ⟨(some 40), .ld none, [.r 39], (some (38, false)), [39]⟩,
        ⟨(some 41), .fa 2, [.r 6], (some (38, false)), []⟩,
        ⟨(some 42), .ld none, [.r 41], (some (38, false)), [41]⟩,
        ⟨(some 43), .bin .lss, [.r 40, .r 42], (some (38, false)), [40, 42]⟩,
        ⟨(some 44), .pick, [.r 38, .k (.bool true), .r 43], none, [38, 43]⟩,
        ⟨(some 45), .mov, [.r 44], none, [44]⟩,
        ⟨(some 46), .fa 4, [.r 6], (some (45, false)), []⟩,
        ⟨(some 47), .ld none, [.r 46], (some (45, false)), [46]⟩,
        ⟨(some 48), .fa 3, [.r 6], (some (45, false)), []⟩,
        ⟨(some 49), .ld none, [.r 48], (some (45, false)), [48]⟩,
        ⟨(some 50), .bin .leq, [.r 47, .r 49], (some (45, false)), [47, 49]⟩,
        ⟨(some 51), .pick, [.r 45, .k (.bool true), .r 50], none, [45, 50]⟩,
        ⟨(some 52), .mov, [.r 51], none, [51]⟩,
        ⟨(some 53), .fa 4, [.r 6], (some (52, false)), []⟩,
        ⟨(some 54), .ld none, [.r 53], (some (52, false)), [53]⟩,
        ⟨(some 55), .fa 0, [.r 3], (some (52, false)), []⟩,
        ⟨(some 56), .ld none, [.r 55], (some (52, false)), [55]⟩,
        ⟨(some 57), .bin .gtr, [.r 54, .r 56], (some (52, false)), [54, 56]⟩,
        ⟨(some 58), .pick, [.r 52, .k (.bool true), .r 57], none, [52, 57]⟩]) <|
      .cond (.r 58)
        (.seq (.ops [⟨(some 4), .mov, [.k (.bool false)], none, [2, 3, 5, 6, 7, 58]⟩]) <|
        .ret)
        (.skip)) <|
      .seq (.ops [⟨(some 9), .mov, [.k (.int .i64 0)], none, [58]⟩]) <|
      .block 2 (.loop m88_0))) <|
    .ops [⟨(some 18), .mov, [.r 5], none, [5, 6, 7, 9, 61]⟩,
      ⟨(some 19), .bin .add, [.r 18, .k (.int .i64 1)], none, [18]⟩,
      ⟨(some 5), .mov, [.r 19], none, [19]⟩]
def m88 : MFn := ⟨[.tmp 4], .seq (.ops [⟨(some 2), .box, [.r 0], none, [0]⟩,
  ⟨(some 3), .box, [.r 1], none, [1]⟩,
  ⟨(some 4), .mov, [.k (.bool false)], none, [4]⟩]) <|
.seq (.seq (.ops [⟨(some 5), .mov, [.k (.int .i64 0)], none, []⟩]) <|
.block 0 (.loop m88_1)) <|
.seq (.ops [⟨(some 4), .mov, [.k (.bool true)], none, [2, 3, 5, 17]⟩]) <|
.ret⟩
theorem c88 : cFn Try.prog 88 = some m88.bare := by kernel_rfl

/-- 'swingbridge/task.between' -/
def m89 : MFn := ⟨[.tmp 6], .seq (.ops [⟨(some 6), .mov, [.k (.bool false)], none, [6]⟩]) <|
.seq (.ops [⟨(some 7), .mov, [.r 0], none, []⟩,
  ⟨(some 8), .mov, [.r 1], none, [1]⟩,
  ⟨(some 9), .bin .geq, [.r 7, .r 8], none, [7, 8]⟩,
  ⟨(some 10), .mov, [.r 9], none, [9]⟩,
  ⟨(some 11), .mov, [.r 0], (some (10, true)), [0]⟩,
  ⟨(some 12), .mov, [.r 2], (some (10, true)), [2]⟩,
  ⟨(some 13), .bin .leq, [.r 11, .r 12], (some (10, true)), [11, 12]⟩,
  ⟨(some 14), .pick, [.r 10, .r 13, .k (.bool false)], none, [10, 13]⟩,
  ⟨(some 6), .mov, [.r 14], none, [14]⟩]) <|
.ret⟩
theorem c89 : cFn Try.prog 89 = some m89.bare := by kernel_rfl

/-- 'swingbridge/task.placed' -/
def m90 : MFn := ⟨[.tmp 2], .seq (.ops [⟨(some 1), .box, [.r 0], none, [0]⟩,
  ⟨(some 2), .mov, [.k (.bool false)], none, [2]⟩]) <|
.seq (.ops [⟨(some 6), .fa 1, [.r 1], none, []⟩,
  ⟨(some 7), .ld none, [.r 6], none, [6]⟩,
  ⟨(some 8), .len, [.r 7], none, [7]⟩,
  ⟨(some 9), .call 89, [.r 8, .k (.int .i64 1), .k (.int .i64 3)], none, [8]⟩,
  ⟨(some 10), .mov, [.r 9], none, [9]⟩,
  ⟨(some 11), .fa 2, [.r 1], (some (10, true)), []⟩,
  ⟨(some 12), .ld none, [.r 11], (some (10, true)), [11]⟩,
  ⟨(some 13), .len, [.r 12], (some (10, true)), [12]⟩,
  ⟨(some 14), .bin .leq, [.r 13, .k (.int .i64 4)], (some (10, true)), [13]⟩,
  ⟨(some 15), .pick, [.r 10, .r 14, .k (.bool false)], none, [10, 14]⟩,
  ⟨(some 3), .mov, [.r 15], none, [15]⟩]) <|
.seq (.ops [⟨(some 4), .mov, [.k (.func (.func 103) #[] #[])], none, []⟩]) <|
.seq (.ops [⟨(some 16), .mkfunc 104, [.r 1], none, []⟩,
  ⟨(some 5), .mov, [.r 16], none, [16]⟩]) <|
.seq (.ops [⟨(some 17), .mov, [.r 3], none, [3]⟩,
  ⟨(some 18), .mov, [.r 17], none, [17]⟩,
  ⟨(some 19), .fa 1, [.r 1], (some (18, true)), []⟩,
  ⟨(some 20), .ld none, [.r 19], (some (18, true)), [19]⟩,
  ⟨(some 21), .mov, [.r 4], (some (18, true)), [4]⟩,
  ⟨(some 22), .call 105, [.r 20, .r 21], (some (18, true)), [20, 21]⟩,
  ⟨(some 23), .un .not, [.r 22], (some (18, true)), [22]⟩,
  ⟨(some 24), .pick, [.r 18, .r 23, .k (.bool false)], none, [18, 23]⟩,
  ⟨(some 25), .mov, [.r 24], none, [24]⟩,
  ⟨(some 26), .fa 2, [.r 1], (some (25, true)), [1]⟩,
  ⟨(some 27), .ld none, [.r 26], (some (25, true)), [26]⟩,
  ⟨(some 28), .mov, [.r 5], (some (25, true)), [5]⟩,
  ⟨(some 29), .call 105, [.r 27, .r 28], (some (25, true)), [27, 28]⟩,
  ⟨(some 30), .un .not, [.r 29], (some (25, true)), [29]⟩,
  ⟨(some 31), .pick, [.r 25, .r 30, .k (.bool false)], none, [25, 30]⟩,
  ⟨(some 2), .mov, [.r 31], none, [31]⟩]) <|
.ret⟩
theorem c90 : cFn Try.prog 90 = some m90.bare := by kernel_rfl

/-- 'swingbridge/task.one' -/
def m91 : MFn := ⟨[.tmp 4], .seq (.ops [⟨(some 2), .box, [.r 0], none, [0]⟩,
  ⟨(some 4), .mov, [.k (.int .i64 0)], none, [4]⟩]) <|
.seq (.ops [⟨(some 7), .fa 3, [.r 2], none, []⟩,
  ⟨(some 8), .ld none, [.r 7], none, [7]⟩,
  ⟨(some 9), .mov, [.r 1], none, []⟩,
  ⟨(some 10), .ia 6, [.r 8, .r 9], none, [8, 9]⟩,
  ⟨(some 11), .ld (some 6), [.r 10], none, [10]⟩,
  ⟨(some 5), .new 0 [.string ⟨#[]⟩, .int .i64 0, .int .i64 0, .int .i64 0, .int .i64 0, .slice none 0 0], [], none, []⟩,
  ⟨none, .st 6, [.r 5, .r 11], none, [11]⟩]) <|
.seq (.ops [⟨(some 12), .mkfunc 106, [.r 5], none, []⟩,
  ⟨(some 6), .mov, [.r 12], none, [12]⟩]) <|
.seq (.block 0 (.seq (.ops [⟨(some 14), .fa 0, [.r 5], none, []⟩,
    ⟨(some 15), .ld none, [.r 14], none, [14]⟩,
    ⟨(some 16), .call 107, [.r 15], none, [15]⟩,
    ⟨(some 17), .un .not, [.r 16], none, [16]⟩,
    ⟨(some 18), .mov, [.r 17], none, [17]⟩,
    ⟨(some 19), .fa 1, [.r 5], (some (18, false)), []⟩,
    ⟨(some 20), .ld none, [.r 19], (some (18, false)), [19]⟩,
    ⟨(some 21), .call 89, [.r 20, .k (.int .i64 1), .k (.int .i64 3000)], (some (18, false)), [20]⟩,
    ⟨(some 22), .un .not, [.r 21], (some (18, false)), [21]⟩,
    ⟨(some 23), .pick, [.r 18, .k (.bool true), .r 22], none, [18, 22]⟩,
    ⟨(some 24), .mov, [.r 23], none, [23]⟩,
    ⟨(some 25), .fa 2, [.r 5], (some (24, false)), []⟩,
    ⟨(some 26), .ld none, [.r 25], (some (24, false)), [25]⟩,
    ⟨(some 27), .fa 1, [.r 5], (some (24, false)), []⟩,
    ⟨(some 28), .ld none, [.r 27], (some (24, false)), [27]⟩,
    ⟨(some 29), .call 89, [.r 26, .k (.int .i64 1), .r 28], (some (24, false)), [26, 28]⟩,
    ⟨(some 30), .un .not, [.r 29], (some (24, false)), [29]⟩,
    ⟨(some 31), .pick, [.r 24, .k (.bool true), .r 30], none, [24, 30]⟩,
    ⟨(some 32), .mov, [.r 31], none, [31]⟩,
    ⟨(some 33), .fa 3, [.r 5], (some (32, false)), []⟩,
    ⟨(some 34), .ld none, [.r 33], (some (32, false)), [33]⟩,
    ⟨(some 35), .call 89, [.r 34, .k (.int .i64 1), .k (.int .i64 1000)], (some (32, false)), [34]⟩,
    ⟨(some 36), .un .not, [.r 35], (some (32, false)), [35]⟩,
    ⟨(some 37), .pick, [.r 32, .k (.bool true), .r 36], none, [32, 36]⟩,
    ⟨(some 13), .mov, [.r 37], none, [37]⟩]) <|
  .cond (.r 13)
    (.seq (.ops [⟨(some 4), .mov, [.k (.int .i64 10)], none, [1, 2, 5, 6, 13]⟩]) <|
    .ret)
    (.seq (.ops [⟨(some 39), .fa 4, [.r 5], none, [13]⟩,
      ⟨(some 40), .ld none, [.r 39], none, [39]⟩,
      ⟨(some 41), .fa 1, [.r 2], none, []⟩,
      ⟨(some 42), .ld none, [.r 41], none, [41]⟩,
      ⟨(some 43), .len, [.r 42], none, [42]⟩,
      ⟨(some 44), .bin .sub, [.r 43, .k (.int .i64 1)], none, [43]⟩,
      ⟨(some 45), .call 89, [.r 40, .k (.int .i64 0), .r 44], none, [40, 44]⟩,
      ⟨(some 46), .un .not, [.r 45], none, [45]⟩,
      ⟨(some 38), .mov, [.r 46], none, [46]⟩]) <|
    .cond (.r 38)
      (.seq (.ops [⟨(some 4), .mov, [.k (.int .i64 16)], none, [1, 2, 5, 6, 38]⟩]) <|
      .ret)
      (.seq (.ops [⟨(some 48), .fa 3, [.r 2], none, [38]⟩,
        ⟨(some 49), .ld none, [.r 48], none, [48]⟩,
        ⟨(some 50), .mov, [.r 1], none, [1]⟩,
        ⟨(some 51), .sl 6 false true false, [.r 49, .r 50], none, [49, 50]⟩,
        ⟨(some 52), .mov, [.r 6], none, [6]⟩,
        ⟨(some 53), .call 108, [.r 51, .r 52], none, [51, 52]⟩,
        ⟨(some 47), .mov, [.r 53], none, [53]⟩]) <|
      .cond (.r 47)
        (.seq (.ops [⟨(some 4), .mov, [.k (.int .i64 17)], none, [2, 5, 47]⟩]) <|
        .ret)
        (.seq (.ops [⟨(some 55), .ld (some 4), [.r 2], none, [2, 47]⟩,
          ⟨(some 56), .fa 5, [.r 5], none, [5]⟩,
          ⟨(some 57), .ld none, [.r 56], none, [56]⟩,
          ⟨(some 58), .call 109, [.r 55, .r 57], none, [55, 57]⟩,
          ⟨(some 59), .un .not, [.r 58], none, [58]⟩,
          ⟨(some 54), .mov, [.r 59], none, [59]⟩]) <|
        .cond (.r 54)
          (.seq (.ops [⟨(some 4), .mov, [.k (.int .i64 15)], none, [54]⟩]) <|
          .ret)
          (.skip)))))) <|
.seq (.ops [⟨(some 4), .mov, [.k (.int .i64 0)], none, [54]⟩]) <|
.ret⟩
theorem c91 : cFn Try.prog 91 = some m91.bare := by kernel_rfl

/-- 'swingbridge/legal.slots$1' -/
def m97 : MFn := ⟨[.tmp 4], .seq (.ops [⟨(some 2), .box, [.r 0], none, [0]⟩,
  ⟨(some 3), .box, [.r 1], none, [1]⟩,
  ⟨(some 4), .mov, [.k (.int .i64 0)], none, [4]⟩]) <|
.seq (.draw [⟨(some 5), .fa 0, [.r 2], none, []⟩,
  ⟨(some 6), .ld none, [.r 5], none, [5]⟩,
  ⟨(some 7), .fa 0, [.r 3], none, []⟩,
  ⟨(some 8), .ld none, [.r 7], none, [7]⟩,
  ⟨(some 9), .call 99, [.r 6, .r 8], none, [6, 8]⟩,
  ⟨(some 10), .fa 1, [.r 2], none, [2]⟩,
  ⟨(some 11), .ld none, [.r 10], none, [10]⟩,
  ⟨(some 12), .fa 1, [.r 3], none, [3]⟩,
  ⟨(some 13), .ld none, [.r 12], none, [12]⟩,
  ⟨(some 14), .call 99, [.r 11, .r 13], none, [11, 13]⟩,
  ⟨(some 15), .bslice 1 2 [.int .i64 0] [(0, 1), (1, 1)], [.r 9, .r 14], none, [9, 14]⟩,
  ⟨(some 16), .call 98, [.r 15], none, [15]⟩,
  ⟨(some 4), .mov, [.r 16], none, [16]⟩] [(6, 4), (8, 4)]) <|
.ret⟩
theorem c97 : cFn Try.prog 97 = some m97.bare := by kernel_rfl

/-- 'cmp.Or[int]' -/
def m98_0 : MCode := .seq (.ops [⟨(some 9), .bin .lss, [.r 8, .r 7], none, []⟩]) <|
    .seq (.cond (.r 9)
      (.skip)
      (.exit 0)) <|
    .seq (.block 1 (.seq (.ops [⟨(some 10), .ia 1, [.r 6, .r 8], none, [9]⟩,
        ⟨(some 11), .ld none, [.r 10], none, [10]⟩,
        ⟨(some 5), .mov, [.r 11], none, [11]⟩]) <|
      .seq (.ops [⟨(some 12), .mov, [.r 5], none, []⟩,
        ⟨(some 13), .mov, [.r 3], none, []⟩,
        ⟨(some 14), .bin .neq, [.r 12, .r 13], none, [12, 13]⟩]) <|
      .cond (.r 14)
        (.seq (.ops [⟨(some 15), .mov, [.r 5], none, [3, 5, 6, 7, 8, 14]⟩,
          ⟨(some 2), .mov, [.r 15], none, [15]⟩]) <|
        .ret)
        (.skip))) <|
    .ops [⟨(some 16), .bin .add, [.r 8, .k (.int .i64 1)], none, [5, 8, 14]⟩,
      ⟨(some 8), .mov, [.r 16], none, [16]⟩]
def m98 : MFn := ⟨[.tmp 2], .seq (.ops [⟨(some 2), .mov, [.k (.int .i64 0)], none, [2]⟩]) <|
.seq (.ops [⟨(some 3), .mov, [.k (.int .i64 0)], none, []⟩]) <|
.seq (.seq (.ops [⟨(some 6), .mov, [.r 0], none, [0]⟩,
  ⟨(some 7), .len, [.r 6], none, []⟩,
  ⟨(some 8), .mov, [.k (.int .i64 0)], none, []⟩]) <|
.block 0 (.loop m98_0)) <|
.seq (.ops [⟨(some 17), .mov, [.r 3], none, [3, 6, 7, 8, 9]⟩,
  ⟨(some 2), .mov, [.r 17], none, [17]⟩]) <|
.ret⟩
theorem c98 : cFn Try.prog 98 = some m98.bare := by kernel_rfl

/-- 'cmp.Compare[int]' -/
def m99 : MFn := ⟨[.tmp 4], .seq (.ops [⟨(some 4), .mov, [.k (.int .i64 0)], none, [4]⟩]) <|
.seq (.ops [⟨(some 7), .mov, [.r 0], none, []⟩,
  ⟨(some 8), .call 112, [.r 7], none, [7]⟩,
  ⟨(some 5), .mov, [.r 8], none, [8]⟩]) <|
.seq (.ops [⟨(some 9), .mov, [.r 1], none, []⟩,
  ⟨(some 10), .call 112, [.r 9], none, [9]⟩,
  ⟨(some 6), .mov, [.r 10], none, [10]⟩]) <|
.seq (.seq (.ops [⟨(some 11), .mov, [.r 5], none, [5]⟩]) <|
.cond (.r 11)
  (.seq (.seq (.ops [⟨(some 12), .mov, [.r 6], none, [0, 1, 6, 11]⟩]) <|
  .cond (.r 12)
    (.seq (.ops [⟨(some 4), .mov, [.k (.int .i64 0)], none, [12]⟩]) <|
    .ret)
    (.skip)) <|
  .seq (.ops [⟨(some 4), .mov, [.k (.int .i64 (-1))], none, [12]⟩]) <|
  .ret)
  (.skip)) <|
.seq (.seq (.ops [⟨(some 13), .mov, [.r 6], none, [6, 11]⟩]) <|
.cond (.r 13)
  (.seq (.ops [⟨(some 4), .mov, [.k (.int .i64 1)], none, [0, 1, 13]⟩]) <|
  .ret)
  (.skip)) <|
.seq (.seq (.ops [⟨(some 14), .mov, [.r 0], none, [13]⟩,
  ⟨(some 15), .mov, [.r 1], none, []⟩,
  ⟨(some 16), .bin .lss, [.r 14, .r 15], none, [14, 15]⟩]) <|
.cond (.r 16)
  (.seq (.ops [⟨(some 4), .mov, [.k (.int .i64 (-1))], none, [0, 1, 16]⟩]) <|
  .ret)
  (.skip)) <|
.seq (.seq (.ops [⟨(some 17), .mov, [.r 0], none, [0, 16]⟩,
  ⟨(some 18), .mov, [.r 1], none, [1]⟩,
  ⟨(some 19), .bin .gtr, [.r 17, .r 18], none, [17, 18]⟩]) <|
.cond (.r 19)
  (.seq (.ops [⟨(some 4), .mov, [.k (.int .i64 1)], none, [19]⟩]) <|
  .ret)
  (.skip)) <|
.seq (.ops [⟨(some 4), .mov, [.k (.int .i64 0)], none, [19]⟩]) <|
.ret⟩
theorem c99 : cFn Try.prog 99 = some m99.bare := by kernel_rfl

/-- 'slices.IsSortedFunc[[]swingbridge/api.Slot,swingbridge/api.Slot]' -/
def m100_0 : MCode := .seq (.seq (.ops [⟨(some 9), .mov, [.r 5], none, []⟩,
      ⟨(some 10), .bin .gtr, [.r 9, .k (.int .i64 0)], none, [9]⟩]) <|
    .cond (.r 10)
      (.skip)
      (.exit 0)) <|
    .seq (.block 1 (.seq (.draw [⟨(some 13), .mov, [.r 1], none, [10]⟩,
        ⟨(some 14), .mov, [.r 0], none, []⟩,
        ⟨(some 15), .mov, [.r 5], none, []⟩,
        ⟨(some 16), .ia 4, [.r 14, .r 15], none, [14, 15]⟩,
        ⟨(some 17), .ld (some 4), [.r 16], none, [16]⟩,
        ⟨(some 18), .mov, [.r 0], none, []⟩,
        ⟨(some 19), .mov, [.r 5], none, []⟩,
        ⟨(some 20), .bin .sub, [.r 19, .k (.int .i64 1)], none, [19]⟩,
        ⟨(some 21), .ia 4, [.r 18, .r 20], none, [18, 20]⟩,
        ⟨(some 22), .ld (some 4), [.r 21], none, [21]⟩,
        ⟨(some 23), .callv, [.r 13, .r 17, .r 22], none, [13, 17, 22]⟩,
        ⟨(some 24), .bin .lss, [.r 23, .k (.int .i64 0)], none, [23]⟩] []) <|
      .cond (.r 24)
        (.seq (.ops [⟨(some 4), .mov, [.k (.bool false)], none, [0, 1, 5, 24]⟩]) <|
        .ret)
        (.skip))) <|
    .ops [⟨(some 11), .mov, [.r 5], none, [5, 24]⟩,
      ⟨(some 12), .bin .sub, [.r 11, .k (.int .i64 1)], none, [11]⟩,
      ⟨(some 5), .mov, [.r 12], none, [12]⟩]
def m100 : MFn := ⟨[.tmp 4], .seq (.ops [⟨(some 4), .mov, [.k (.bool false)], none, [4]⟩]) <|
.seq (.seq (.ops [⟨(some 6), .mov, [.r 0], none, []⟩,
  ⟨(some 7), .len, [.r 6], none, [6]⟩,
  ⟨(some 8), .bin .sub, [.r 7, .k (.int .i64 1)], none, [7]⟩,
  ⟨(some 5), .mov, [.r 8], none, [8]⟩]) <|
.block 0 (.loop m100_0)) <|
.seq (.ops [⟨(some 4), .mov, [.k (.bool true)], none, [0, 1, 5, 10]⟩]) <|
.ret⟩
theorem c100 : cFn Try.prog 100 = some m100.bare := by kernel_rfl

/-- 'swingbridge/legal.slotted' -/
def m101 : MFn := ⟨[.tmp 6], .seq (.ops [⟨(some 3), .box, [.r 0], none, [0]⟩,
  ⟨(some 4), .box, [.r 1], none, [1]⟩,
  ⟨(some 5), .box, [.r 2], none, [2]⟩,
  ⟨(some 6), .mov, [.k (.bool false)], none, [6]⟩]) <|
.seq (.ops [⟨(some 8), .fa 1, [.r 5], none, []⟩,
  ⟨(some 9), .ld none, [.r 8], none, [8]⟩,
  ⟨(some 10), .bin .geq, [.r 9, .k (.int .i64 0)], none, [9]⟩,
  ⟨(some 11), .mov, [.r 10], none, [10]⟩,
  ⟨(some 12), .fa 1, [.r 5], (some (11, true)), []⟩,
  ⟨(some 13), .ld none, [.r 12], (some (11, true)), [12]⟩,
  ⟨(some 14), .fa 1, [.r 3], (some (11, true)), []⟩,
  ⟨(some 15), .ld none, [.r 14], (some (11, true)), [14]⟩,
  ⟨(some 16), .len, [.r 15], (some (11, true)), [15]⟩,
  ⟨(some 17), .bin .lss, [.r 13, .r 16], (some (11, true)), [13, 16]⟩,
  ⟨(some 18), .pick, [.r 11, .r 17, .k (.bool false)], none, [11, 17]⟩,
  ⟨(some 19), .mov, [.r 18], none, [18]⟩,
  ⟨(some 20), .fa 2, [.r 5], (some (19, true)), []⟩,
  ⟨(some 21), .ld none, [.r 20], (some (19, true)), [20]⟩,
  ⟨(some 22), .bin .geq, [.r 21, .k (.int .i64 0)], (some (19, true)), [21]⟩,
  ⟨(some 23), .pick, [.r 19, .r 22, .k (.bool false)], none, [19, 22]⟩,
  ⟨(some 24), .mov, [.r 23], none, [23]⟩,
  ⟨(some 25), .fa 2, [.r 5], (some (24, true)), []⟩,
  ⟨(some 26), .ld none, [.r 25], (some (24, true)), [25]⟩,
  ⟨(some 27), .fa 3, [.r 3], (some (24, true)), []⟩,
  ⟨(some 28), .ld none, [.r 27], (some (24, true)), [27]⟩,
  ⟨(some 29), .len, [.r 28], (some (24, true)), [28]⟩,
  ⟨(some 30), .bin .lss, [.r 26, .r 29], (some (24, true)), [26, 29]⟩,
  ⟨(some 31), .pick, [.r 24, .r 30, .k (.bool false)], none, [24, 30]⟩,
  ⟨(some 7), .mov, [.r 31], none, [31]⟩]) <|
.seq (.seq (.ops [⟨(some 32), .mov, [.r 7], none, [7]⟩,
  ⟨(some 33), .un .not, [.r 32], none, [32]⟩,
  ⟨(some 34), .mov, [.r 33], none, [33]⟩,
  ⟨(some 35), .fa 0, [.r 5], (some (34, false)), []⟩,
  ⟨(some 36), .ld none, [.r 35], (some (34, false)), [35]⟩,
  ⟨(some 37), .bin .lss, [.r 36, .k (.int .i64 0)], (some (34, false)), [36]⟩,
  ⟨(some 38), .pick, [.r 34, .k (.bool true), .r 37], none, [34, 37]⟩,
  ⟨(some 39), .mov, [.r 38], none, [38]⟩,
  ⟨(some 40), .fa 0, [.r 5], (some (39, false)), []⟩,
  ⟨(some 41), .ld none, [.r 40], (some (39, false)), [40]⟩,
  ⟨(some 42), .fa 0, [.r 4], (some (39, false)), [4]⟩,
  ⟨(some 43), .ld none, [.r 42], (some (39, false)), [42]⟩,
  ⟨(some 44), .bin .geq, [.r 41, .r 43], (some (39, false)), [41, 43]⟩,
  ⟨(some 45), .pick, [.r 39, .k (.bool true), .r 44], none, [39, 44]⟩]) <|
.cond (.r 45)
  (.seq (.ops [⟨(some 6), .mov, [.k (.bool false)], none, [3, 5, 45]⟩]) <|
  .ret)
  (.skip)) <|
.seq (.draw [⟨(some 46), .fa 1, [.r 5], none, [45]⟩,
  ⟨(some 47), .ld none, [.r 46], none, [46]⟩,
  ⟨(some 48), .fa 3, [.r 3], none, []⟩,
  ⟨(some 49), .ld none, [.r 48], none, [48]⟩,
  ⟨(some 50), .fa 2, [.r 5], none, []⟩,
  ⟨(some 51), .ld none, [.r 50], none, [50]⟩,
  ⟨(some 52), .ia 6, [.r 49, .r 51], none, [49, 51]⟩,
  ⟨(some 53), .fa 4, [.r 52], none, [52]⟩,
  ⟨(some 54), .ld none, [.r 53], none, [53]⟩,
  ⟨(some 55), .bin .eql, [.r 47, .r 54], none, [47, 54]⟩,
  ⟨(some 56), .mov, [.r 55], none, [55]⟩,
  ⟨(some 57), .fa 0, [.r 3], (some (56, false)), [3]⟩,
  ⟨(some 58), .ld none, [.r 57], (some (56, false)), [57]⟩,
  ⟨(some 59), .bin .eql, [.r 58, .k (.int .i64 2)], (some (56, false)), [58]⟩,
  ⟨(some 60), .mov, [.r 59], (some (56, false)), [59]⟩,
  ⟨(some 61), .fa 3, [.r 5], (some (60, true)), [5]⟩,
  ⟨(some 62), .ld none, [.r 61], (some (60, true)), [61]⟩,
  ⟨(some 63), .pick, [.r 60, .r 62, .k (.bool false)], (some (56, false)), [60, 62]⟩,
  ⟨(some 64), .pick, [.r 56, .k (.bool true), .r 63], none, [56, 63]⟩,
  ⟨(some 6), .mov, [.r 64], none, [64]⟩] []) <|
.ret⟩
theorem c101 : cFn Try.prog 101 = some m101.bare := by kernel_rfl

/-- 'swingbridge/swingbridgeref7.Check' -/
def m102_0 : MCode := .seq (.seq (.ops [⟨(some 29), .mov, [.r 4], none, []⟩,
      ⟨(some 30), .fa 3, [.r 1], none, []⟩,
      ⟨(some 31), .ld none, [.r 30], none, [30]⟩,
      ⟨(some 32), .len, [.r 31], none, [31]⟩,
      ⟨(some 33), .bin .lss, [.r 29, .r 32], none, [29, 32]⟩]) <|
    .cond (.r 33)
      (.skip)
      (.exit 1)) <|
    .seq (.block 2 (.seq (.ops [⟨(some 36), .ld (some 4), [.r 1], none, [33]⟩,
        ⟨(some 37), .mov, [.r 4], none, []⟩,
        ⟨(some 38), .call 114, [.r 36, .r 37], none, [36, 37]⟩,
        ⟨(some 5), .mov, [.r 38], none, [38]⟩]) <|
      .seq (.ops [⟨(some 39), .mov, [.r 5], none, []⟩,
        ⟨(some 40), .bin .neq, [.r 39, .k (.int .i64 0)], none, [39]⟩]) <|
      .cond (.r 40)
        (.seq (.ops [⟨(some 41), .mov, [.r 4], none, [1, 4, 40]⟩,
          ⟨(some 42), .mov, [.r 5], none, [5]⟩,
          ⟨(some 2), .mov, [.r 41], none, [41]⟩,
          ⟨(some 3), .mov, [.r 42], none, [42]⟩]) <|
        .ret)
        (.skip))) <|
    .ops [⟨(some 34), .mov, [.r 4], none, [4, 5, 40]⟩,
      ⟨(some 35), .bin .add, [.r 34, .k (.int .i64 1)], none, [34]⟩,
      ⟨(some 4), .mov, [.r 35], none, [35]⟩]
def m102 : MFn := ⟨[.tmp 2, .tmp 3], .seq (.ops [⟨(some 1), .box, [.r 0], none, [0]⟩,
  ⟨(some 2), .mov, [.k (.int .i64 0)], none, [2]⟩,
  ⟨(some 3), .mov, [.k (.int .i64 0)], none, [3]⟩]) <|
.seq (.block 0 (.seq (.ops [⟨(some 7), .fa 0, [.r 1], none, []⟩,
    ⟨(some 8), .ld none, [.r 7], none, [7]⟩,
    ⟨(some 9), .bin .lss, [.r 8, .k (.int .i64 1)], none, [8]⟩,
    ⟨(some 10), .mov, [.r 9], none, [9]⟩,
    ⟨(some 11), .fa 0, [.r 1], (some (10, false)), []⟩,
    ⟨(some 12), .ld none, [.r 11], (some (10, false)), [11]⟩,
    ⟨(some 13), .bin .gtr, [.r 12, .k (.int .i64 3)], (some (10, false)), [12]⟩,
    ⟨(some 14), .pick, [.r 10, .k (.bool true), .r 13], none, [10, 13]⟩,
    ⟨(some 6), .mov, [.r 14], none, [14]⟩]) <|
  .cond (.r 6)
    (.seq (.ops [⟨(some 2), .mov, [.k (.int .i64 (-1))], none, [1, 6]⟩,
      ⟨(some 3), .mov, [.k (.int .i64 10)], none, []⟩]) <|
    .ret)
    (.seq (.ops [⟨(some 16), .ld (some 4), [.r 1], none, [6]⟩,
      ⟨(some 17), .call 113, [.r 16], none, [16]⟩,
      ⟨(some 18), .un .not, [.r 17], none, [17]⟩,
      ⟨(some 15), .mov, [.r 18], none, [18]⟩]) <|
    .cond (.r 15)
      (.seq (.ops [⟨(some 2), .mov, [.k (.int .i64 (-1))], none, [1, 15]⟩,
        ⟨(some 3), .mov, [.k (.int .i64 16)], none, []⟩]) <|
      .ret)
      (.seq (.ops [⟨(some 20), .fa 3, [.r 1], none, [15]⟩,
        ⟨(some 21), .ld none, [.r 20], none, [20]⟩,
        ⟨(some 22), .len, [.r 21], none, [21]⟩,
        ⟨(some 23), .bin .gtr, [.r 22, .k (.int .i64 6)], none, [22]⟩,
        ⟨(some 19), .mov, [.r 23], none, [23]⟩]) <|
      .cond (.r 19)
        (.seq (.ops [⟨(some 2), .mov, [.k (.int .i64 (-1))], none, [1, 19]⟩,
          ⟨(some 3), .mov, [.k (.int .i64 11)], none, []⟩]) <|
        .ret)
        (.seq (.ops [⟨(some 25), .fa 3, [.r 1], none, [19]⟩,
          ⟨(some 26), .ld none, [.r 25], none, [25]⟩,
          ⟨(some 27), .len, [.r 26], none, [26]⟩,
          ⟨(some 28), .bin .eql, [.r 27, .k (.int .i64 0)], none, [27]⟩,
          ⟨(some 24), .mov, [.r 28], none, [28]⟩]) <|
        .cond (.r 24)
          (.seq (.ops [⟨(some 2), .mov, [.k (.int .i64 (-1))], none, [1, 24]⟩,
            ⟨(some 3), .mov, [.k (.int .i64 14)], none, []⟩]) <|
          .ret)
          (.skip)))))) <|
.seq (.seq (.ops [⟨(some 4), .mov, [.k (.int .i64 0)], none, [24]⟩]) <|
.block 1 (.loop m102_0)) <|
.seq (.ops [⟨(some 2), .mov, [.k (.int .i64 (-1))], none, [1, 4, 33]⟩,
  ⟨(some 3), .mov, [.k (.int .i64 0)], none, []⟩]) <|
.ret⟩
theorem c102 : cFn Try.prog 102 = some m102.bare := by kernel_rfl

/-- 'swingbridge/task.placed$1' -/
def m103 : MFn := ⟨[.tmp 2], .seq (.ops [⟨(some 2), .mov, [.k (.bool false)], none, [2]⟩]) <|
.seq (.ops [⟨(some 3), .mov, [.r 0], none, [0]⟩,
  ⟨(some 4), .call 89, [.r 3, .k (.int .i64 1), .k (.int .i64 3)], none, [3]⟩,
  ⟨(some 5), .un .not, [.r 4], none, [4]⟩,
  ⟨(some 2), .mov, [.r 5], none, [5]⟩]) <|
.ret⟩
theorem c103 : cFn Try.prog 103 = some m103.bare := by kernel_rfl

/-- 'swingbridge/task.placed$2' -/
def m104 : MFn := ⟨[.tmp 3], .seq (.ops [⟨(some 3), .mov, [.k (.bool false)], none, [3]⟩]) <|
.seq (.ops [⟨(some 4), .mov, [.r 0], none, [0]⟩,
  ⟨(some 5), .fa 1, [.r 1], none, []⟩,
  ⟨(some 6), .ld none, [.r 5], none, [5]⟩,
  ⟨(some 7), .len, [.r 6], none, [6]⟩,
  ⟨(some 8), .bin .sub, [.r 7, .k (.int .i64 1)], none, [7]⟩,
  ⟨(some 9), .call 89, [.r 4, .k (.int .i64 0), .r 8], none, [4, 8]⟩,
  ⟨(some 10), .un .not, [.r 9], none, [9]⟩,
  ⟨(some 3), .mov, [.r 10], none, [10]⟩]) <|
.ret⟩
theorem c104 : cFn Try.prog 104 = some m104.bare := by kernel_rfl

/-- 'slices.ContainsFunc[[]int,int]' -/
def m105 : MFn := ⟨[.tmp 4], .seq (.ops [⟨(some 4), .mov, [.k (.bool false)], none, [4]⟩]) <|
.seq (.ops [⟨(some 5), .mov, [.r 0], none, [0]⟩,
  ⟨(some 6), .mov, [.r 1], none, [1]⟩,
  ⟨(some 7), .call 115, [.r 5, .r 6], none, [5, 6]⟩,
  ⟨(some 8), .bin .geq, [.r 7, .k (.int .i64 0)], none, [7]⟩,
  ⟨(some 4), .mov, [.r 8], none, [8]⟩]) <|
.ret⟩
theorem c105 : cFn Try.prog 105 = some m105.bare := by kernel_rfl

/-- 'swingbridge/task.one$1' -/
def m106 : MFn := ⟨[.tmp 3], .seq (.ops [⟨(some 2), .box, [.r 0], none, [0]⟩,
  ⟨(some 3), .mov, [.k (.bool false)], none, [3]⟩]) <|
.seq (.ops [⟨(some 4), .fa 0, [.r 2], none, []⟩,
  ⟨(some 5), .ld none, [.r 4], none, [4]⟩,
  ⟨(some 6), .fa 0, [.r 1], none, []⟩,
  ⟨(some 7), .ld none, [.r 6], none, [6]⟩,
  ⟨(some 8), .bin .eql, [.r 5, .r 7], none, [5, 7]⟩,
  ⟨(some 9), .mov, [.r 8], none, [8]⟩,
  ⟨(some 10), .fa 3, [.r 2], (some (9, false)), [2]⟩,
  ⟨(some 11), .ld none, [.r 10], (some (9, false)), [10]⟩,
  ⟨(some 12), .fa 3, [.r 1], (some (9, false)), []⟩,
  ⟨(some 13), .ld none, [.r 12], (some (9, false)), [12]⟩,
  ⟨(some 14), .bin .eql, [.r 11, .r 13], (some (9, false)), [11, 13]⟩,
  ⟨(some 15), .pick, [.r 9, .k (.bool true), .r 14], none, [9, 14]⟩,
  ⟨(some 3), .mov, [.r 15], none, [15]⟩]) <|
.ret⟩
theorem c106 : cFn Try.prog 106 = some m106.bare := by kernel_rfl

/-- 'swingbridge/words.Name' -/
def m107_0 : MCode := .seq (.ops [⟨(some 9), .bin .lss, [.r 8, .r 7], none, []⟩]) <|
    .seq (.cond (.r 9)
      (.skip)
      (.exit 0)) <|
    .seq (.block 1 (.seq (.ops [⟨(some 10), .mov, [.r 8], none, [9]⟩,
        ⟨(some 3), .mov, [.r 10], none, [10]⟩]) <|
      .seq (.ops [⟨(some 11), .mov, [.r 0], none, []⟩,
        ⟨(some 12), .mov, [.r 3], none, []⟩,
        ⟨(some 13), .idxs, [.r 11, .r 12], none, [11, 12]⟩,
        ⟨(some 4), .mov, [.r 13], none, [13]⟩]) <|
      .seq (.ops [⟨(some 14), .mov, [.r 4], none, []⟩,
        ⟨(some 15), .bin .geq, [.r 14, .k (.int .u8 48)], none, [14]⟩,
        ⟨(some 16), .mov, [.r 15], none, [15]⟩,
        ⟨(some 17), .mov, [.r 4], (some (16, true)), []⟩,
        ⟨(some 18), .bin .leq, [.r 17, .k (.int .u8 57)], (some (16, true)), [17]⟩,
        ⟨(some 19), .pick, [.r 16, .r 18, .k (.bool false)], none, [16, 18]⟩,
        ⟨(some 5), .mov, [.r 19], none, [19]⟩]) <|
      .seq (.ops [⟨(some 20), .mov, [.r 4], none, []⟩,
        ⟨(some 21), .bin .lss, [.r 20, .k (.int .u8 97)], none, [20]⟩,
        ⟨(some 22), .mov, [.r 21], none, [21]⟩,
        ⟨(some 23), .mov, [.r 4], (some (22, false)), [4]⟩,
        ⟨(some 24), .bin .gtr, [.r 23, .k (.int .u8 122)], (some (22, false)), [23]⟩,
        ⟨(some 25), .pick, [.r 22, .k (.bool true), .r 24], none, [22, 24]⟩,
        ⟨(some 26), .mov, [.r 25], none, [25]⟩,
        ⟨(some 27), .mov, [.r 3], (some (26, true)), [3]⟩,
        ⟨(some 28), .bin .eql, [.r 27, .k (.int .i64 0)], (some (26, true)), [27]⟩,
        ⟨(some 29), .mov, [.r 28], (some (26, true)), [28]⟩,
        ⟨(some 30), .mov, [.r 5], (some (29, false)), [5]⟩,
        ⟨(some 31), .un .not, [.r 30], (some (29, false)), [30]⟩,
        ⟨(some 32), .pick, [.r 29, .k (.bool true), .r 31], (some (26, true)), [29, 31]⟩,
        ⟨(some 33), .pick, [.r 26, .r 32, .k (.bool false)], none, [26, 32]⟩]) <|
      .cond (.r 33)
        (.seq (.ops [⟨(some 2), .mov, [.k (.bool false)], none, [0, 7, 8, 33]⟩]) <|
        .ret)
        (.skip))) <|
    .ops [⟨(some 34), .bin .add, [.r 8, .k (.int .i64 1)], none, [8, 33]⟩,
      ⟨(some 8), .mov, [.r 34], none, [34]⟩]
def m107 : MFn := ⟨[.tmp 2], .seq (.ops [⟨(some 2), .mov, [.k (.bool false)], none, [2]⟩]) <|
.seq (.seq (.ops [⟨(some 6), .mov, [.r 0], none, []⟩,
  ⟨(some 7), .lens, [.r 6], none, [6]⟩,
  ⟨(some 8), .mov, [.k (.int .i64 0)], none, []⟩]) <|
.block 0 (.loop m107_0)) <|
.seq (.ops [⟨(some 35), .mov, [.r 0], none, [7, 8, 9]⟩,
  ⟨(some 36), .bin .neq, [.r 35, .k (.string ⟨#[]⟩)], none, [35]⟩,
  ⟨(some 37), .mov, [.r 36], none, [36]⟩,
  ⟨(some 38), .mov, [.r 0], (some (37, true)), [0]⟩,
  ⟨(some 39), .lens, [.r 38], (some (37, true)), [38]⟩,
  ⟨(some 40), .bin .leq, [.r 39, .k (.int .i64 8)], (some (37, true)), [39]⟩,
  ⟨(some 41), .pick, [.r 37, .r 40, .k (.bool false)], none, [37, 40]⟩,
  ⟨(some 2), .mov, [.r 41], none, [41]⟩]) <|
.ret⟩
theorem c107 : cFn Try.prog 107 = some m107.bare := by kernel_rfl

/-- 'slices.ContainsFunc[[]swingbridge/api.Task,swingbridge/api.Task]' -/
def m108 : MFn := ⟨[.tmp 4], .seq (.ops [⟨(some 4), .mov, [.k (.bool false)], none, [4]⟩]) <|
.seq (.ops [⟨(some 5), .mov, [.r 0], none, [0]⟩,
  ⟨(some 6), .mov, [.r 1], none, [1]⟩,
  ⟨(some 7), .call 116, [.r 5, .r 6], none, [5, 6]⟩,
  ⟨(some 8), .bin .geq, [.r 7, .k (.int .i64 0)], none, [7]⟩,
  ⟨(some 4), .mov, [.r 8], none, [8]⟩]) <|
.ret⟩
theorem c108 : cFn Try.prog 108 = some m108.bare := by kernel_rfl

/-- 'swingbridge/task.parted' -/
def m109_0 : MCode := .seq (.ops [⟨(some 10), .bin .lss, [.r 9, .r 8], none, []⟩]) <|
    .seq (.cond (.r 10)
      (.skip)
      (.exit 0)) <|
    .seq (.block 1 (.seq (.ops [⟨(some 11), .ia 3, [.r 7, .r 9], none, [10]⟩,
        ⟨(some 12), .ld (some 3), [.r 11], none, [11]⟩,
        ⟨(some 6), .new 0 [.int .i64 0, .int .i64 0, .int .i64 0], [], none, []⟩,
        ⟨none, .st 3, [.r 6, .r 12], none, [12]⟩]) <|
      .seq (.block 2 (.seq (.ops [⟨(some 14), .fa 0, [.r 6], none, []⟩,
          ⟨(some 15), .ld none, [.r 14], none, [14]⟩,
          ⟨(some 16), .call 89, [.r 15, .k (.int .i64 1), .k (.int .i64 3)], none, [15]⟩,
          ⟨(some 17), .un .not, [.r 16], none, [16]⟩,
          ⟨(some 18), .mov, [.r 17], none, [17]⟩,
          ⟨(some 19), .fa 1, [.r 6], (some (18, false)), []⟩,
          ⟨(some 20), .ld none, [.r 19], (some (18, false)), [19]⟩,
          ⟨(some 21), .call 89, [.r 20, .k (.int .i64 1), .k (.int .i64 60)], (some (18, false)), [20]⟩,
          ⟨(some 22), .un .not, [.r 21], (some (18, false)), [21]⟩,
          ⟨(some 23), .pick, [.r 18, .k (.bool true), .r 22], none, [18, 22]⟩,
          ⟨(some 13), .mov, [.r 23], none, [23]⟩]) <|
        .cond (.r 13)
          (.seq (.ops [⟨(some 4), .mov, [.k (.bool false)], none, [1, 2, 6, 7, 8, 9, 13]⟩]) <|
          .ret)
          (.seq (.ops [⟨(some 25), .fa 0, [.r 6], none, [13]⟩,
            ⟨(some 26), .ld none, [.r 25], none, [25]⟩,
            ⟨(some 27), .bin .eql, [.r 26, .k (.int .i64 3)], none, [26]⟩,
            ⟨(some 28), .mov, [.r 27], none, [27]⟩,
            ⟨(some 29), .fa 2, [.r 6], (some (28, true)), []⟩,
            ⟨(some 30), .ld none, [.r 29], (some (28, true)), [29]⟩,
            ⟨(some 31), .fa 2, [.r 2], (some (28, true)), []⟩,
            ⟨(some 32), .ld none, [.r 31], (some (28, true)), [31]⟩,
            ⟨(some 33), .len, [.r 32], (some (28, true)), [32]⟩,
            ⟨(some 34), .bin .sub, [.r 33, .k (.int .i64 1)], (some (28, true)), [33]⟩,
            ⟨(some 35), .call 89, [.r 30, .k (.int .i64 0), .r 34], (some (28, true)), [30, 34]⟩,
            ⟨(some 36), .pick, [.r 28, .r 35, .k (.bool false)], none, [28, 35]⟩,
            ⟨(some 24), .mov, [.r 36], none, [36]⟩]) <|
          .cond (.r 24)
            (.exit 1)
            (.seq (.ops [⟨(some 38), .fa 0, [.r 6], none, [24]⟩,
              ⟨(some 39), .ld none, [.r 38], none, [38]⟩,
              ⟨(some 40), .bin .neq, [.r 39, .k (.int .i64 3)], none, [39]⟩,
              ⟨(some 41), .mov, [.r 40], none, [40]⟩,
              ⟨(some 42), .fa 2, [.r 6], (some (41, true)), [6]⟩,
              ⟨(some 43), .ld none, [.r 42], (some (41, true)), [42]⟩,
              ⟨(some 44), .bin .eql, [.r 43, .k (.int .i64 0)], (some (41, true)), [43]⟩,
              ⟨(some 45), .pick, [.r 41, .r 44, .k (.bool false)], none, [41, 44]⟩,
              ⟨(some 37), .mov, [.r 45], none, [45]⟩]) <|
            .cond (.r 37)
              (.exit 1)
              (.skip))))) <|
      .seq (.ops [⟨(some 4), .mov, [.k (.bool false)], none, [1, 2, 7, 8, 9, 37]⟩]) <|
      .ret)) <|
    .ops [⟨(some 46), .bin .add, [.r 9, .k (.int .i64 1)], none, [6, 9, 24, 37]⟩,
      ⟨(some 9), .mov, [.r 46], none, [46]⟩]
def m109 : MFn := ⟨[.tmp 4], .seq (.ops [⟨(some 2), .box, [.r 0], none, [0]⟩,
  ⟨(some 4), .mov, [.k (.bool false)], none, [4]⟩]) <|
.seq (.skip) <|
.seq (.seq (.ops [⟨(some 7), .mov, [.r 1], none, []⟩,
  ⟨(some 8), .len, [.r 7], none, []⟩,
  ⟨(some 9), .mov, [.k (.int .i64 0)], none, []⟩]) <|
.block 0 (.loop m109_0)) <|
.seq (.ops [⟨(some 47), .mov, [.r 1], none, [1, 2, 7, 8, 9, 10]⟩,
  ⟨(some 48), .len, [.r 47], none, [47]⟩,
  ⟨(some 49), .call 89, [.r 48, .k (.int .i64 1), .k (.int .i64 6)], none, [48]⟩,
  ⟨(some 4), .mov, [.r 49], none, [49]⟩]) <|
.ret⟩
theorem c109 : cFn Try.prog 109 = some m109.bare := by kernel_rfl

/-- 'cmp.isNaN[int]' -/
def m112 : MFn := ⟨[.tmp 2], .seq (.ops [⟨(some 2), .mov, [.k (.bool false)], none, [2]⟩]) <|
.seq (.ops [⟨(some 3), .mov, [.r 0], none, []⟩,
  ⟨(some 4), .mov, [.r 0], none, [0]⟩,
  ⟨(some 5), .bin .neq, [.r 3, .r 4], none, [3, 4]⟩,
  ⟨(some 2), .mov, [.r 5], none, [5]⟩]) <|
.ret⟩
theorem c112 : cFn Try.prog 112 = some m112.bare := by kernel_rfl

/-- 'swingbridge/swingbridgeref7.places' -/
def m113_0 : MCode := .seq (.seq (.ops [⟨(some 42), .mov, [.r 4], none, []⟩,
      ⟨(some 43), .fa 2, [.r 1], none, []⟩,
      ⟨(some 44), .ld none, [.r 43], none, [43]⟩,
      ⟨(some 45), .len, [.r 44], none, [44]⟩,
      ⟨(some 46), .bin .lss, [.r 42, .r 45], none, [42, 45]⟩]) <|
    .cond (.r 46)
      (.skip)
      (.exit 2)) <|
    .seq (.block 3 (.seq (.draw [⟨(some 49), .fa 2, [.r 1], none, [46]⟩,
        ⟨(some 50), .ld none, [.r 49], none, [49]⟩,
        ⟨(some 51), .mov, [.r 4], none, []⟩,
        ⟨(some 52), .ia 1, [.r 50, .r 51], none, [50, 51]⟩,
        ⟨(some 53), .ld none, [.r 52], none, [52]⟩,
        ⟨(some 54), .bin .lss, [.r 53, .k (.int .i64 0)], none, [53]⟩,
        ⟨(some 55), .mov, [.r 54], none, [54]⟩,
        ⟨(some 56), .fa 2, [.r 1], (some (55, false)), []⟩,
        ⟨(some 57), .ld none, [.r 56], (some (55, false)), [56]⟩,
        ⟨(some 58), .mov, [.r 4], (some (55, false)), []⟩,
        ⟨(some 59), .ia 1, [.r 57, .r 58], (some (55, false)), [57, 58]⟩,
        ⟨(some 60), .ld none, [.r 59], (some (55, false)), [59]⟩,
        ⟨(some 61), .fa 1, [.r 1], (some (55, false)), []⟩,
        ⟨(some 62), .ld none, [.r 61], (some (55, false)), [61]⟩,
        ⟨(some 63), .len, [.r 62], (some (55, false)), [62]⟩,
        ⟨(some 64), .bin .geq, [.r 60, .r 63], (some (55, false)), [60, 63]⟩,
        ⟨(some 65), .pick, [.r 55, .k (.bool true), .r 64], none, [55, 64]⟩] []) <|
      .cond (.r 65)
        (.seq (.ops [⟨(some 2), .mov, [.k (.bool false)], none, [1, 4, 65]⟩]) <|
        .ret)
        (.skip))) <|
    .ops [⟨(some 47), .mov, [.r 4], none, [4, 65]⟩,
      ⟨(some 48), .bin .add, [.r 47, .k (.int .i64 1)], none, [47]⟩,
      ⟨(some 4), .mov, [.r 48], none, [48]⟩]
def m113_1 : MCode := .seq (.seq (.ops [⟨(some 21), .mov, [.r 3], none, []⟩,
      ⟨(some 22), .fa 1, [.r 1], none, []⟩,
      ⟨(some 23), .ld none, [.r 22], none, [22]⟩,
      ⟨(some 24), .len, [.r 23], none, [23]⟩,
      ⟨(some 25), .bin .lss, [.r 21, .r 24], none, [21, 24]⟩]) <|
    .cond (.r 25)
      (.skip)
      (.exit 0)) <|
    .seq (.block 1 (.seq (.ops [⟨(some 28), .fa 1, [.r 1], none, [25]⟩,
        ⟨(some 29), .ld none, [.r 28], none, [28]⟩,
        ⟨(some 30), .mov, [.r 3], none, []⟩,
        ⟨(some 31), .ia 1, [.r 29, .r 30], none, [29, 30]⟩,
        ⟨(some 32), .ld none, [.r 31], none, [31]⟩,
        ⟨(some 33), .bin .lss, [.r 32, .k (.int .i64 1)], none, [32]⟩,
        ⟨(some 34), .mov, [.r 33], none, [33]⟩,
        ⟨(some 35), .fa 1, [.r 1], (some (34, false)), []⟩,
        ⟨(some 36), .ld none, [.r 35], (some (34, false)), [35]⟩,
        ⟨(some 37), .mov, [.r 3], (some (34, false)), []⟩,
        ⟨(some 38), .ia 1, [.r 36, .r 37], (some (34, false)), [36, 37]⟩,
        ⟨(some 39), .ld none, [.r 38], (some (34, false)), [38]⟩,
        ⟨(some 40), .bin .gtr, [.r 39, .k (.int .i64 3)], (some (34, false)), [39]⟩,
        ⟨(some 41), .pick, [.r 34, .k (.bool true), .r 40], none, [34, 40]⟩]) <|
      .cond (.r 41)
        (.seq (.ops [⟨(some 2), .mov, [.k (.bool false)], none, [1, 3, 41]⟩]) <|
        .ret)
        (.skip))) <|
    .ops [⟨(some 26), .mov, [.r 3], none, [3, 41]⟩,
      ⟨(some 27), .bin .add, [.r 26, .k (.int .i64 1)], none, [26]⟩,
      ⟨(some 3), .mov, [.r 27], none, [27]⟩]
def m113 : MFn := ⟨[.tmp 2], .seq (.ops [⟨(some 1), .box, [.r 0], none, [0]⟩,
  ⟨(some 2), .mov, [.k (.bool false)], none, [2]⟩]) <|
.seq (.seq (.ops [⟨(some 5), .fa 1, [.r 1], none, []⟩,
  ⟨(some 6), .ld none, [.r 5], none, [5]⟩,
  ⟨(some 7), .len, [.r 6], none, [6]⟩,
  ⟨(some 8), .bin .lss, [.r 7, .k (.int .i64 1)], none, [7]⟩,
  ⟨(some 9), .mov, [.r 8], none, [8]⟩,
  ⟨(some 10), .fa 1, [.r 1], (some (9, false)), []⟩,
  ⟨(some 11), .ld none, [.r 10], (some (9, false)), [10]⟩,
  ⟨(some 12), .len, [.r 11], (some (9, false)), [11]⟩,
  ⟨(some 13), .bin .gtr, [.r 12, .k (.int .i64 3)], (some (9, false)), [12]⟩,
  ⟨(some 14), .pick, [.r 9, .k (.bool true), .r 13], none, [9, 13]⟩,
  ⟨(some 15), .mov, [.r 14], none, [14]⟩,
  ⟨(some 16), .fa 2, [.r 1], (some (15, false)), []⟩,
  ⟨(some 17), .ld none, [.r 16], (some (15, false)), [16]⟩,
  ⟨(some 18), .len, [.r 17], (some (15, false)), [17]⟩,
  ⟨(some 19), .bin .gtr, [.r 18, .k (.int .i64 4)], (some (15, false)), [18]⟩,
  ⟨(some 20), .pick, [.r 15, .k (.bool true), .r 19], none, [15, 19]⟩]) <|
.cond (.r 20)
  (.seq (.ops [⟨(some 2), .mov, [.k (.bool false)], none, [1, 20]⟩]) <|
  .ret)
  (.skip)) <|
.seq (.seq (.ops [⟨(some 3), .mov, [.k (.int .i64 0)], none, [20]⟩]) <|
.block 0 (.loop m113_1)) <|
.seq (.seq (.ops [⟨(some 4), .mov, [.k (.int .i64 0)], none, [3, 25]⟩]) <|
.block 2 (.loop m113_0)) <|
.seq (.ops [⟨(some 2), .mov, [.k (.bool true)], none, [1, 4, 46]⟩]) <|
.ret⟩
theorem c113 : cFn Try.prog 113 = some m113.bare := by kernel_rfl

/-- 'swingbridge/swingbridgeref7.task' -/
def m114_0 : MCode := .seq (.seq (.ops [⟨(some 95), .mov, [.r 7], none, []⟩,
      ⟨(some 96), .fa 5, [.r 5], none, []⟩,
      ⟨(some 97), .ld none, [.r 96], none, [96]⟩,
      ⟨(some 98), .len, [.r 97], none, [97]⟩,
      ⟨(some 99), .bin .lss, [.r 95, .r 98], none, [95, 98]⟩]) <|
    .cond (.r 99)
      (.skip)
      (.exit 2)) <|
    .seq (.block 3 (.seq (.draw [⟨(some 102), .ld (some 4), [.r 2], none, [99]⟩,
        ⟨(some 103), .fa 5, [.r 5], none, []⟩,
        ⟨(some 104), .ld none, [.r 103], none, [103]⟩,
        ⟨(some 105), .mov, [.r 7], none, []⟩,
        ⟨(some 106), .ia 3, [.r 104, .r 105], none, [104, 105]⟩,
        ⟨(some 107), .ld (some 3), [.r 106], none, [106]⟩,
        ⟨(some 108), .call 120, [.r 102, .r 107], none, [102, 107]⟩,
        ⟨(some 109), .un .not, [.r 108], none, [108]⟩] []) <|
      .cond (.r 109)
        (.seq (.ops [⟨(some 4), .mov, [.k (.int .i64 15)], none, [2, 5, 7, 109]⟩]) <|
        .ret)
        (.skip))) <|
    .ops [⟨(some 100), .mov, [.r 7], none, [7, 109]⟩,
      ⟨(some 101), .bin .add, [.r 100, .k (.int .i64 1)], none, [100]⟩,
      ⟨(some 7), .mov, [.r 101], none, [101]⟩]
def m114_1 : MCode := .seq (.seq (.ops [⟨(some 60), .mov, [.r 6], none, []⟩,
      ⟨(some 61), .mov, [.r 1], none, []⟩,
      ⟨(some 62), .bin .lss, [.r 60, .r 61], none, [60, 61]⟩]) <|
    .cond (.r 62)
      (.skip)
      (.exit 0)) <|
    .seq (.block 1 (.seq (.draw [⟨(some 65), .fa 3, [.r 2], none, [62]⟩,
        ⟨(some 66), .ld none, [.r 65], none, [65]⟩,
        ⟨(some 67), .mov, [.r 6], none, []⟩,
        ⟨(some 68), .ia 6, [.r 66, .r 67], none, [66, 67]⟩,
        ⟨(some 69), .fa 0, [.r 68], none, [68]⟩,
        ⟨(some 70), .ld none, [.r 69], none, [69]⟩,
        ⟨(some 71), .fa 0, [.r 5], none, []⟩,
        ⟨(some 72), .ld none, [.r 71], none, [71]⟩,
        ⟨(some 73), .bin .eql, [.r 70, .r 72], none, [70, 72]⟩,
        ⟨(some 74), .mov, [.r 73], none, [73]⟩,
        ⟨(some 75), .fa 3, [.r 2], (some (74, false)), []⟩,
        ⟨(some 76), .ld none, [.r 75], (some (74, false)), [75]⟩,
        ⟨(some 77), .mov, [.r 6], (some (74, false)), []⟩,
        ⟨(some 78), .ia 6, [.r 76, .r 77], (some (74, false)), [76, 77]⟩,
        ⟨(some 79), .fa 3, [.r 78], (some (74, false)), [78]⟩,
        ⟨(some 80), .ld none, [.r 79], (some (74, false)), [79]⟩,
        ⟨(some 81), .fa 3, [.r 5], (some (74, false)), []⟩,
        ⟨(some 82), .ld none, [.r 81], (some (74, false)), [81]⟩,
        ⟨(some 83), .bin .eql, [.r 80, .r 82], (some (74, false)), [80, 82]⟩,
        ⟨(some 84), .pick, [.r 74, .k (.bool true), .r 83], none, [74, 83]⟩] []) <|
      .cond (.r 84)
        (.seq (.ops [⟨(some 4), .mov, [.k (.int .i64 17)], none, [1, 2, 5, 6, 84]⟩]) <|
        .ret)
        (.skip))) <|
    .ops [⟨(some 63), .mov, [.r 6], none, [6, 84]⟩,
      ⟨(some 64), .bin .add, [.r 63, .k (.int .i64 1)], none, [63]⟩,
      ⟨(some 6), .mov, [.r 64], none, [64]⟩]
def m114 : MFn := ⟨[.tmp 4], .seq (.ops [⟨(some 2), .box, [.r 0], none, [0]⟩,
  ⟨(some 4), .mov, [.k (.int .i64 0)], none, [4]⟩]) <|
.seq (.ops [⟨(some 8), .fa 3, [.r 2], none, []⟩,
  ⟨(some 9), .ld none, [.r 8], none, [8]⟩,
  ⟨(some 10), .mov, [.r 1], none, []⟩,
  ⟨(some 11), .ia 6, [.r 9, .r 10], none, [9, 10]⟩,
  ⟨(some 12), .ld (some 6), [.r 11], none, [11]⟩,
  ⟨(some 5), .new 0 [.string ⟨#[]⟩, .int .i64 0, .int .i64 0, .int .i64 0, .int .i64 0, .slice none 0 0], [], none, []⟩,
  ⟨none, .st 6, [.r 5, .r 12], none, [12]⟩]) <|
.seq (.seq (.ops [⟨(some 13), .fa 0, [.r 5], none, []⟩,
  ⟨(some 14), .ld none, [.r 13], none, [13]⟩,
  ⟨(some 15), .call 119, [.r 14], none, [14]⟩,
  ⟨(some 16), .un .not, [.r 15], none, [15]⟩,
  ⟨(some 17), .mov, [.r 16], none, [16]⟩,
  ⟨(some 18), .fa 1, [.r 5], (some (17, false)), []⟩,
  ⟨(some 19), .ld none, [.r 18], (some (17, false)), [18]⟩,
  ⟨(some 20), .bin .lss, [.r 19, .k (.int .i64 1)], (some (17, false)), [19]⟩,
  ⟨(some 21), .pick, [.r 17, .k (.bool true), .r 20], none, [17, 20]⟩,
  ⟨(some 22), .mov, [.r 21], none, [21]⟩,
  ⟨(some 23), .fa 1, [.r 5], (some (22, false)), []⟩,
  ⟨(some 24), .ld none, [.r 23], (some (22, false)), [23]⟩,
  ⟨(some 25), .bin .gtr, [.r 24, .k (.int .i64 3000)], (some (22, false)), [24]⟩,
  ⟨(some 26), .pick, [.r 22, .k (.bool true), .r 25], none, [22, 25]⟩,
  ⟨(some 27), .mov, [.r 26], none, [26]⟩,
  ⟨(some 28), .fa 2, [.r 5], (some (27, false)), []⟩,
  ⟨(some 29), .ld none, [.r 28], (some (27, false)), [28]⟩,
  ⟨(some 30), .bin .lss, [.r 29, .k (.int .i64 1)], (some (27, false)), [29]⟩,
  ⟨(some 31), .pick, [.r 27, .k (.bool true), .r 30], none, [27, 30]⟩,
  ⟨(some 32), .mov, [.r 31], none, [31]⟩,
  ⟨(some 33), .fa 2, [.r 5], (some (32, false)), []⟩,
  ⟨(some 34), .ld none, [.r 33], (some (32, false)), [33]⟩,
  ⟨(some 35), .fa 1, [.r 5], (some (32, false)), []⟩,
  ⟨(some 36), .ld none, [.r 35], (some (32, false)), [35]⟩,
  ⟨(some 37), .bin .gtr, [.r 34, .r 36], (some (32, false)), [34, 36]⟩,
  ⟨(some 38), .pick, [.r 32, .k (.bool true), .r 37], none, [32, 37]⟩,
  ⟨(some 39), .mov, [.r 38], none, [38]⟩,
  ⟨(some 40), .fa 3, [.r 5], (some (39, false)), []⟩,
  ⟨(some 41), .ld none, [.r 40], (some (39, false)), [40]⟩,
  ⟨(some 42), .bin .lss, [.r 41, .k (.int .i64 1)], (some (39, false)), [41]⟩,
  ⟨(some 43), .pick, [.r 39, .k (.bool true), .r 42], none, [39, 42]⟩,
  ⟨(some 44), .mov, [.r 43], none, [43]⟩,
  ⟨(some 45), .fa 3, [.r 5], (some (44, false)), []⟩,
  ⟨(some 46), .ld none, [.r 45], (some (44, false)), [45]⟩,
  ⟨(some 47), .bin .gtr, [.r 46, .k (.int .i64 1000)], (some (44, false)), [46]⟩,
  ⟨(some 48), .pick, [.r 44, .k (.bool true), .r 47], none, [44, 47]⟩]) <|
.cond (.r 48)
  (.seq (.ops [⟨(some 4), .mov, [.k (.int .i64 10)], none, [1, 2, 5, 48]⟩]) <|
  .ret)
  (.skip)) <|
.seq (.seq (.ops [⟨(some 49), .fa 4, [.r 5], none, [48]⟩,
  ⟨(some 50), .ld none, [.r 49], none, [49]⟩,
  ⟨(some 51), .bin .lss, [.r 50, .k (.int .i64 0)], none, [50]⟩,
  ⟨(some 52), .mov, [.r 51], none, [51]⟩,
  ⟨(some 53), .fa 4, [.r 5], (some (52, false)), []⟩,
  ⟨(some 54), .ld none, [.r 53], (some (52, false)), [53]⟩,
  ⟨(some 55), .fa 1, [.r 2], (some (52, false)), []⟩,
  ⟨(some 56), .ld none, [.r 55], (some (52, false)), [55]⟩,
  ⟨(some 57), .len, [.r 56], (some (52, false)), [56]⟩,
  ⟨(some 58), .bin .geq, [.r 54, .r 57], (some (52, false)), [54, 57]⟩,
  ⟨(some 59), .pick, [.r 52, .k (.bool true), .r 58], none, [52, 58]⟩]) <|
.cond (.r 59)
  (.seq (.ops [⟨(some 4), .mov, [.k (.int .i64 16)], none, [1, 2, 5, 59]⟩]) <|
  .ret)
  (.skip)) <|
.seq (.seq (.ops [⟨(some 6), .mov, [.k (.int .i64 0)], none, [59]⟩]) <|
.block 0 (.loop m114_1)) <|
.seq (.seq (.ops [⟨(some 85), .fa 5, [.r 5], none, [1, 6, 62]⟩,
  ⟨(some 86), .ld none, [.r 85], none, [85]⟩,
  ⟨(some 87), .len, [.r 86], none, [86]⟩,
  ⟨(some 88), .bin .lss, [.r 87, .k (.int .i64 1)], none, [87]⟩,
  ⟨(some 89), .mov, [.r 88], none, [88]⟩,
  ⟨(some 90), .fa 5, [.r 5], (some (89, false)), []⟩,
  ⟨(some 91), .ld none, [.r 90], (some (89, false)), [90]⟩,
  ⟨(some 92), .len, [.r 91], (some (89, false)), [91]⟩,
  ⟨(some 93), .bin .gtr, [.r 92, .k (.int .i64 6)], (some (89, false)), [92]⟩,
  ⟨(some 94), .pick, [.r 89, .k (.bool true), .r 93], none, [89, 93]⟩]) <|
.cond (.r 94)
  (.seq (.ops [⟨(some 4), .mov, [.k (.int .i64 15)], none, [2, 5, 94]⟩]) <|
  .ret)
  (.skip)) <|
.seq (.seq (.ops [⟨(some 7), .mov, [.k (.int .i64 0)], none, [94]⟩]) <|
.block 2 (.loop m114_0)) <|
.seq (.ops [⟨(some 4), .mov, [.k (.int .i64 0)], none, [2, 5, 7, 99]⟩]) <|
.ret⟩
theorem c114 : cFn Try.prog 114 = some m114.bare := by kernel_rfl

/-- 'slices.IndexFunc[[]int,int]' -/
def m115_0 : MCode := .seq (.ops [⟨(some 9), .bin .lss, [.r 8, .r 7], none, []⟩]) <|
    .seq (.cond (.r 9)
      (.skip)
      (.exit 0)) <|
    .seq (.block 1 (.seq (.ops [⟨(some 10), .mov, [.r 8], none, [9]⟩,
        ⟨(some 5), .mov, [.r 10], none, [10]⟩]) <|
      .seq (.ops [⟨(some 11), .mov, [.r 1], none, []⟩,
        ⟨(some 12), .mov, [.r 0], none, []⟩,
        ⟨(some 13), .mov, [.r 5], none, []⟩,
        ⟨(some 14), .ia 1, [.r 12, .r 13], none, [12, 13]⟩,
        ⟨(some 15), .ld none, [.r 14], none, [14]⟩,
        ⟨(some 16), .callv, [.r 11, .r 15], none, [11, 15]⟩]) <|
      .cond (.r 16)
        (.seq (.ops [⟨(some 17), .mov, [.r 5], none, [0, 1, 5, 7, 8, 16]⟩,
          ⟨(some 4), .mov, [.r 17], none, [17]⟩]) <|
        .ret)
        (.skip))) <|
    .ops [⟨(some 18), .bin .add, [.r 8, .k (.int .i64 1)], none, [5, 8, 16]⟩,
      ⟨(some 8), .mov, [.r 18], none, [18]⟩]
def m115 : MFn := ⟨[.tmp 4], .seq (.ops [⟨(some 4), .mov, [.k (.int .i64 0)], none, [4]⟩]) <|
.seq (.seq (.ops [⟨(some 6), .mov, [.r 0], none, []⟩,
  ⟨(some 7), .len, [.r 6], none, [6]⟩,
  ⟨(some 8), .mov, [.k (.int .i64 0)], none, []⟩]) <|
.block 0 (.loop m115_0)) <|
.seq (.ops [⟨(some 4), .mov, [.k (.int .i64 (-1))], none, [0, 1, 7, 8, 9]⟩]) <|
.ret⟩
theorem c115 : cFn Try.prog 115 = some m115.bare := by kernel_rfl

/-- 'slices.IndexFunc[[]swingbridge/api.Task,swingbridge/api.Task]' -/
def m116_0 : MCode := .seq (.ops [⟨(some 9), .bin .lss, [.r 8, .r 7], none, []⟩]) <|
    .seq (.cond (.r 9)
      (.skip)
      (.exit 0)) <|
    .seq (.block 1 (.seq (.ops [⟨(some 10), .mov, [.r 8], none, [9]⟩,
        ⟨(some 5), .mov, [.r 10], none, [10]⟩]) <|
      .seq (.ops [⟨(some 11), .mov, [.r 1], none, []⟩,
        ⟨(some 12), .mov, [.r 0], none, []⟩,
        ⟨(some 13), .mov, [.r 5], none, []⟩,
        ⟨(some 14), .ia 6, [.r 12, .r 13], none, [12, 13]⟩,
        ⟨(some 15), .ld (some 6), [.r 14], none, [14]⟩,
        ⟨(some 16), .callv, [.r 11, .r 15], none, [11, 15]⟩]) <|
      .cond (.r 16)
        (.seq (.ops [⟨(some 17), .mov, [.r 5], none, [0, 1, 5, 7, 8, 16]⟩,
          ⟨(some 4), .mov, [.r 17], none, [17]⟩]) <|
        .ret)
        (.skip))) <|
    .ops [⟨(some 18), .bin .add, [.r 8, .k (.int .i64 1)], none, [5, 8, 16]⟩,
      ⟨(some 8), .mov, [.r 18], none, [18]⟩]
def m116 : MFn := ⟨[.tmp 4], .seq (.ops [⟨(some 4), .mov, [.k (.int .i64 0)], none, [4]⟩]) <|
.seq (.seq (.ops [⟨(some 6), .mov, [.r 0], none, []⟩,
  ⟨(some 7), .len, [.r 6], none, [6]⟩,
  ⟨(some 8), .mov, [.k (.int .i64 0)], none, []⟩]) <|
.block 0 (.loop m116_0)) <|
.seq (.ops [⟨(some 4), .mov, [.k (.int .i64 (-1))], none, [0, 1, 7, 8, 9]⟩]) <|
.ret⟩
theorem c116 : cFn Try.prog 116 = some m116.bare := by kernel_rfl

/-- 'swingbridge/swingbridgeref7.Name' -/
def m119_0 : MCode := .seq (.seq (.ops [⟨(some 5), .mov, [.r 3], none, []⟩,
      ⟨(some 6), .mov, [.r 0], none, []⟩,
      ⟨(some 7), .lens, [.r 6], none, [6]⟩,
      ⟨(some 8), .bin .lss, [.r 5, .r 7], none, [5, 7]⟩]) <|
    .cond (.r 8)
      (.skip)
      (.exit 0)) <|
    .seq (.block 1 (.seq (.ops [⟨(some 11), .mov, [.r 0], none, [8]⟩,
        ⟨(some 12), .mov, [.r 3], none, []⟩,
        ⟨(some 13), .idxs, [.r 11, .r 12], none, [11, 12]⟩,
        ⟨(some 4), .mov, [.r 13], none, [13]⟩]) <|
      .seq (.ops [⟨(some 14), .mov, [.r 4], none, []⟩,
        ⟨(some 15), .bin .lss, [.r 14, .k (.int .u8 97)], none, [14]⟩,
        ⟨(some 16), .mov, [.r 15], none, [15]⟩,
        ⟨(some 17), .mov, [.r 4], (some (16, false)), []⟩,
        ⟨(some 18), .bin .gtr, [.r 17, .k (.int .u8 122)], (some (16, false)), [17]⟩,
        ⟨(some 19), .pick, [.r 16, .k (.bool true), .r 18], none, [16, 18]⟩,
        ⟨(some 20), .mov, [.r 19], none, [19]⟩,
        ⟨(some 21), .mov, [.r 4], (some (20, true)), []⟩,
        ⟨(some 22), .bin .lss, [.r 21, .k (.int .u8 48)], (some (20, true)), [21]⟩,
        ⟨(some 23), .mov, [.r 22], (some (20, true)), [22]⟩,
        ⟨(some 24), .mov, [.r 4], (some (23, false)), [4]⟩,
        ⟨(some 25), .bin .gtr, [.r 24, .k (.int .u8 57)], (some (23, false)), [24]⟩,
        ⟨(some 26), .pick, [.r 23, .k (.bool true), .r 25], (some (20, true)), [23, 25]⟩,
        ⟨(some 27), .mov, [.r 26], (some (20, true)), [26]⟩,
        ⟨(some 28), .mov, [.r 3], (some (27, false)), []⟩,
        ⟨(some 29), .bin .eql, [.r 28, .k (.int .i64 0)], (some (27, false)), [28]⟩,
        ⟨(some 30), .pick, [.r 27, .k (.bool true), .r 29], (some (20, true)), [27, 29]⟩,
        ⟨(some 31), .pick, [.r 20, .r 30, .k (.bool false)], none, [20, 30]⟩]) <|
      .cond (.r 31)
        (.seq (.ops [⟨(some 2), .mov, [.k (.bool false)], none, [0, 3, 31]⟩]) <|
        .ret)
        (.skip))) <|
    .ops [⟨(some 9), .mov, [.r 3], none, [3, 31]⟩,
      ⟨(some 10), .bin .add, [.r 9, .k (.int .i64 1)], none, [9]⟩,
      ⟨(some 3), .mov, [.r 10], none, [10]⟩]
def m119 : MFn := ⟨[.tmp 2], .seq (.ops [⟨(some 2), .mov, [.k (.bool false)], none, [2]⟩]) <|
.seq (.seq (.ops [⟨(some 3), .mov, [.k (.int .i64 0)], none, []⟩]) <|
.block 0 (.loop m119_0)) <|
.seq (.ops [⟨(some 32), .mov, [.r 0], none, [3, 8]⟩,
  ⟨(some 33), .lens, [.r 32], none, [32]⟩,
  ⟨(some 34), .bin .geq, [.r 33, .k (.int .i64 1)], none, [33]⟩,
  ⟨(some 35), .mov, [.r 34], none, [34]⟩,
  ⟨(some 36), .mov, [.r 0], (some (35, true)), [0]⟩,
  ⟨(some 37), .lens, [.r 36], (some (35, true)), [36]⟩,
  ⟨(some 38), .bin .leq, [.r 37, .k (.int .i64 8)], (some (35, true)), [37]⟩,
  ⟨(some 39), .pick, [.r 35, .r 38, .k (.bool false)], none, [35, 38]⟩,
  ⟨(some 2), .mov, [.r 39], none, [39]⟩]) <|
.ret⟩
theorem c119 : cFn Try.prog 119 = some m119.bare := by kernel_rfl

/-- 'swingbridge/swingbridgeref7.part' -/
def m120 : MFn := ⟨[.tmp 4], .seq (.ops [⟨(some 2), .box, [.r 0], none, [0]⟩,
  ⟨(some 3), .box, [.r 1], none, [1]⟩,
  ⟨(some 4), .mov, [.k (.bool false)], none, [4]⟩]) <|
.seq (.seq (.ops [⟨(some 5), .fa 0, [.r 3], none, []⟩,
  ⟨(some 6), .ld none, [.r 5], none, [5]⟩,
  ⟨(some 7), .bin .lss, [.r 6, .k (.int .i64 1)], none, [6]⟩,
  ⟨(some 8), .mov, [.r 7], none, [7]⟩,
  ⟨(some 9), .fa 0, [.r 3], (some (8, false)), []⟩,
  ⟨(some 10), .ld none, [.r 9], (some (8, false)), [9]⟩,
  ⟨(some 11), .bin .gtr, [.r 10, .k (.int .i64 3)], (some (8, false)), [10]⟩,
  ⟨(some 12), .pick, [.r 8, .k (.bool true), .r 11], none, [8, 11]⟩,
  ⟨(some 13), .mov, [.r 12], none, [12]⟩,
  ⟨(some 14), .fa 1, [.r 3], (some (13, false)), []⟩,
  ⟨(some 15), .ld none, [.r 14], (some (13, false)), [14]⟩,
  ⟨(some 16), .bin .lss, [.r 15, .k (.int .i64 1)], (some (13, false)), [15]⟩,
  ⟨(some 17), .pick, [.r 13, .k (.bool true), .r 16], none, [13, 16]⟩,
  ⟨(some 18), .mov, [.r 17], none, [17]⟩,
  ⟨(some 19), .fa 1, [.r 3], (some (18, false)), []⟩,
  ⟨(some 20), .ld none, [.r 19], (some (18, false)), [19]⟩,
  ⟨(some 21), .bin .gtr, [.r 20, .k (.int .i64 60)], (some (18, false)), [20]⟩,
  ⟨(some 22), .pick, [.r 18, .k (.bool true), .r 21], none, [18, 21]⟩]) <|
.cond (.r 22)
  (.seq (.ops [⟨(some 4), .mov, [.k (.bool false)], none, [2, 3, 22]⟩]) <|
  .ret)
  (.skip)) <|
.seq (.ops [⟨(some 23), .fa 0, [.r 3], none, [22]⟩,
  ⟨(some 24), .ld none, [.r 23], none, [23]⟩,
  ⟨(some 25), .bin .eql, [.r 24, .k (.int .i64 3)], none, [24]⟩,
  ⟨(some 26), .mov, [.r 25], none, [25]⟩,
  ⟨(some 27), .fa 2, [.r 3], (some (26, true)), []⟩,
  ⟨(some 28), .ld none, [.r 27], (some (26, true)), [27]⟩,
  ⟨(some 29), .bin .geq, [.r 28, .k (.int .i64 0)], (some (26, true)), [28]⟩,
  ⟨(some 30), .pick, [.r 26, .r 29, .k (.bool false)], none, [26, 29]⟩,
  ⟨(some 31), .mov, [.r 30], none, [30]⟩,
  ⟨(some 32), .fa 2, [.r 3], (some (31, true)), []⟩,
  ⟨(some 33), .ld none, [.r 32], (some (31, true)), [32]⟩,
  ⟨(some 34), .fa 2, [.r 2], (some (31, true)), [2]⟩,
  ⟨(some 35), .ld none, [.r 34], (some (31, true)), [34]⟩,
  ⟨(some 36), .len, [.r 35], (some (31, true)), [35]⟩,
  ⟨(some 37), .bin .lss, [.r 33, .r 36], (some (31, true)), [33, 36]⟩,
  ⟨(some 38), .pick, [.r 31, .r 37, .k (.bool false)], none, [31, 37]⟩,
  ⟨(some 39), .mov, [.r 38], none, [38]⟩,
  ⟨(some 40), .fa 0, [.r 3], (some (39, false)), []⟩,
  ⟨(some 41), .ld none, [.r 40], (some (39, false)), [40]⟩,
  ⟨(some 42), .bin .neq, [.r 41, .k (.int .i64 3)], (some (39, false)), [41]⟩,
  ⟨(some 43), .mov, [.r 42], (some (39, false)), [42]⟩,
  ⟨(some 44), .fa 2, [.r 3], (some (43, true)), [3]⟩,
  ⟨(some 45), .ld none, [.r 44], (some (43, true)), [44]⟩,
  ⟨(some 46), .bin .eql, [.r 45, .k (.int .i64 0)], (some (43, true)), [45]⟩,
  ⟨(some 47), .pick, [.r 43, .r 46, .k (.bool false)], (some (39, false)), [43, 46]⟩,
  ⟨(some 48), .pick, [.r 39, .k (.bool true), .r 47], none, [39, 47]⟩,
  ⟨(some 4), .mov, [.r 48], none, [48]⟩]) <|
.ret⟩
theorem c120 : cFn Try.prog 120 = some m120.bare := by kernel_rfl

def mpG (f : FuncId) : Option MDef := match f with
  | 3 => some (.code m3)
  | 4 => some (.code m4)
  | 13 => some (.code m13)
  | 14 => some (.code m14)
  | 15 => some (.code m15)
  | 17 => some (.code m17)
  | 18 => some (.code m18)
  | 19 => some (.code m19)
  | 20 => some (.code m20)
  | 21 => some (.code m21)
  | 22 => some (.code m22)
  | 23 => some (.code m23)
  | 24 => some (.code m24)
  | 25 => some (.code m25)
  | 26 => some (.code m26)
  | 38 => some (.code m38)
  | 53 => some (.code m53)
  | 54 => some (.code m54)
  | 55 => some (.code m55)
  | 56 => some (.code m56)
  | 57 => some (.code m57)
  | 58 => some (.code m58)
  | 59 => some (.code m59)
  | 60 => some (.code m60)
  | 61 => some (.code m61)
  | 62 => some (.code m62)
  | 63 => some (.code m63)
  | 64 => some (.code m64)
  | 65 => some (.code m65)
  | 66 => some (.code m66)
  | 67 => some (.code m67)
  | 68 => some (.code m68)
  | 80 => some (.code m80)
  | 81 => some (.code m81)
  | 82 => some (.code m82)
  | 83 => some (.code m83)
  | 84 => some (.code m84)
  | 85 => some (.code m85)
  | 86 => some (.code m86)
  | 87 => some (.code m87)
  | 88 => some (.code m88)
  | 89 => some (.code m89)
  | 90 => some (.code m90)
  | 91 => some (.code m91)
  | 97 => some (.code m97)
  | 98 => some (.code m98)
  | 99 => some (.code m99)
  | 100 => some (.code m100)
  | 101 => some (.code m101)
  | 102 => some (.code m102)
  | 103 => some (.code m103)
  | 104 => some (.code m104)
  | 105 => some (.code m105)
  | 106 => some (.code m106)
  | 107 => some (.code m107)
  | 108 => some (.code m108)
  | 109 => some (.code m109)
  | 112 => some (.code m112)
  | 113 => some (.code m113)
  | 114 => some (.code m114)
  | 115 => some (.code m115)
  | 116 => some (.code m116)
  | 119 => some (.code m119)
  | 120 => some (.code m120)
  | _ => none
theorem mpG_code : ∀ f fn, mpG f = some (.code fn) → cFn Try.prog f = some fn.bare := by
  intro f fn h
  unfold mpG at h
  split at h
  · cases h; exact c3
  · cases h; exact c4
  · cases h; exact c13
  · cases h; exact c14
  · cases h; exact c15
  · cases h; exact c17
  · cases h; exact c18
  · cases h; exact c19
  · cases h; exact c20
  · cases h; exact c21
  · cases h; exact c22
  · cases h; exact c23
  · cases h; exact c24
  · cases h; exact c25
  · cases h; exact c26
  · cases h; exact c38
  · cases h; exact c53
  · cases h; exact c54
  · cases h; exact c55
  · cases h; exact c56
  · cases h; exact c57
  · cases h; exact c58
  · cases h; exact c59
  · cases h; exact c60
  · cases h; exact c61
  · cases h; exact c62
  · cases h; exact c63
  · cases h; exact c64
  · cases h; exact c65
  · cases h; exact c66
  · cases h; exact c67
  · cases h; exact c68
  · cases h; exact c80
  · cases h; exact c81
  · cases h; exact c82
  · cases h; exact c83
  · cases h; exact c84
  · cases h; exact c85
  · cases h; exact c86
  · cases h; exact c87
  · cases h; exact c88
  · cases h; exact c89
  · cases h; exact c90
  · cases h; exact c91
  · cases h; exact c97
  · cases h; exact c98
  · cases h; exact c99
  · cases h; exact c100
  · cases h; exact c101
  · cases h; exact c102
  · cases h; exact c103
  · cases h; exact c104
  · cases h; exact c105
  · cases h; exact c106
  · cases h; exact c107
  · cases h; exact c108
  · cases h; exact c109
  · cases h; exact c112
  · cases h; exact c113
  · cases h; exact c114
  · cases h; exact c115
  · cases h; exact c116
  · cases h; exact c119
  · cases h; exact c120
  · cases h
theorem mpG_ok : MapOk Try.prog mpG := ⟨by kernel_rfl, mpG_code, fun f s h => by
  unfold mpG at h
  split at h <;> cases h⟩
end Go.Mod

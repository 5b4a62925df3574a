/- The model's code of functions of the program, and that it is the program's. Printed by wip/tool. -/
import Derived.Test.YtfeaopbeiahbnaaProg
import Derived.Test.YtfeaopbeiahbnaaFwW
namespace Go.Mod
open Go.Proofs

/-- 'swingbridge/swingbridgelaw20.TapePlays' -/
def m3_0 : MCode := .seq (.seq (.ops [⟨(some 31), .mov, [.r 9], none, []⟩,
      ⟨(some 32), .mov, [.r 1], none, []⟩,
      ⟨(some 33), .len, [.r 32], none, [32]⟩,
      ⟨(some 34), .bin .lss, [.r 31, .r 33], none, [31, 33]⟩,
      ⟨(some 35), .mov, [.r 34], none, [34]⟩,
      ⟨(some 36), .mov, [.r 9], (some (35, true)), []⟩,
      ⟨(some 37), .mov, [.r 2], (some (35, true)), []⟩,
      ⟨(some 38), .len, [.r 37], (some (35, true)), [37]⟩,
      ⟨(some 39), .bin .lss, [.r 36, .r 38], (some (35, true)), [36, 38]⟩,
      ⟨(some 40), .pick, [.r 35, .r 39, .k (.bool false)], none, [35, 39]⟩]) <|
    .cond (.r 40)
      (.skip)
      (.exit 0)) <|
    .seq (.block 1 (.seq (.ops [⟨(some 43), .mov, [.r 7], none, [40]⟩,
        ⟨(some 10), .mov, [.r 43], none, [43]⟩]) <|
      .seq (.ops [⟨(some 44), .mov, [.r 7], none, [7]⟩,
        ⟨(some 45), .call 18, [.r 44], none, [44]⟩,
        ⟨(some 7), .mov, [.r 45], none, [45]⟩]) <|
      .seq (.ops [⟨(some 46), .mov, [.r 10], none, [10]⟩,
        ⟨(some 47), .call 19, [.r 46, .k (.int .i64 0), .k (.int .i64 9)], none, [46, 47]⟩]) <|
      .seq (.draw [⟨(some 48), .mov, [.r 7], none, []⟩,
        ⟨(some 49), .mov, [.r 1], none, []⟩,
        ⟨(some 50), .mov, [.r 9], none, []⟩,
        ⟨(some 51), .ia 1, [.r 49, .r 50], none, [49, 50]⟩,
        ⟨(some 52), .ld none, [.r 51], none, [51]⟩,
        ⟨(some 53), .mov, [.r 2], none, []⟩,
        ⟨(some 54), .mov, [.r 9], none, []⟩,
        ⟨(some 55), .ia 1, [.r 53, .r 54], none, [53, 54]⟩,
        ⟨(some 56), .ld none, [.r 55], none, [55]⟩,
        ⟨(some 57), .call 19, [.r 48, .r 52, .r 56], none, [48, 52, 56]⟩,
        ⟨(some 58), .mov, [.r 8], none, []⟩,
        ⟨(some 59), .mov, [.r 1], none, []⟩,
        ⟨(some 60), .mov, [.r 9], none, []⟩,
        ⟨(some 61), .ia 1, [.r 59, .r 60], none, [59, 60]⟩,
        ⟨(some 62), .ld none, [.r 61], none, [61]⟩,
        ⟨(some 63), .mov, [.r 2], none, []⟩,
        ⟨(some 64), .mov, [.r 9], none, []⟩,
        ⟨(some 65), .ia 1, [.r 63, .r 64], none, [63, 64]⟩,
        ⟨(some 66), .ld none, [.r 65], none, [65]⟩,
        ⟨(some 67), .call 20, [.r 58, .r 62, .r 66], none, [58, 62, 66]⟩,
        ⟨(some 68), .bin .neq, [.r 57, .r 67], none, [57, 67]⟩,
        ⟨(some 69), .mov, [.r 68], none, [68]⟩,
        ⟨(some 70), .mov, [.r 7], (some (69, false)), []⟩,
        ⟨(some 71), .call 21, [.r 70], (some (69, false)), [70]⟩,
        ⟨(some 72), .mov, [.r 8], (some (69, false)), []⟩,
        ⟨(some 73), .nilck, [.r 72], (some (69, false)), [72]⟩,
        ⟨(some 74), .fa 1, [.r 73], (some (69, false)), [73]⟩,
        ⟨(some 75), .ld none, [.r 74], (some (69, false)), [74]⟩,
        ⟨(some 76), .bin .neq, [.r 71, .r 75], (some (69, false)), [71, 75]⟩,
        ⟨(some 77), .pick, [.r 69, .k (.bool true), .r 76], none, [69, 76]⟩] [(14, 9), (18, 9), (27, 23)]) <|
      .cond (.r 77)
        (.seq (.ops [⟨(some 6), .mov, [.k (.bool false)], none, [1, 2, 7, 8, 9, 77]⟩]) <|
        .ret)
        (.skip))) <|
    .ops [⟨(some 41), .mov, [.r 9], none, [9, 77]⟩,
      ⟨(some 42), .bin .add, [.r 41, .k (.int .i64 1)], none, [41]⟩,
      ⟨(some 9), .mov, [.r 42], none, [42]⟩]
def m3 : MFn := ⟨[.tmp 6], .seq (.ops [⟨(some 6), .mov, [.k (.bool false)], none, [6]⟩]) <|
.seq (.seq (.ops [⟨(some 11), .call 16, [], none, []⟩,
  ⟨(some 12), .un .not, [.r 11], none, [11]⟩]) <|
.cond (.r 12)
  (.seq (.ops [⟨(some 6), .mov, [.k (.bool false)], none, [0, 1, 2, 12]⟩]) <|
  .ret)
  (.skip)) <|
.seq (.seq (.ops [⟨(some 13), .mov, [.r 0], none, [12]⟩,
  ⟨(some 14), .len, [.r 13], none, [13]⟩,
  ⟨(some 15), .bin .gtr, [.r 14, .k (.int .i64 100)], none, [14]⟩,
  ⟨(some 16), .mov, [.r 15], none, [15]⟩,
  ⟨(some 17), .mov, [.r 1], (some (16, false)), []⟩,
  ⟨(some 18), .len, [.r 17], (some (16, false)), [17]⟩,
  ⟨(some 19), .bin .gtr, [.r 18, .k (.int .i64 60)], (some (16, false)), [18]⟩,
  ⟨(some 20), .pick, [.r 16, .k (.bool true), .r 19], none, [16, 19]⟩,
  ⟨(some 21), .mov, [.r 20], none, [20]⟩,
  ⟨(some 22), .mov, [.r 2], (some (21, false)), []⟩,
  ⟨(some 23), .len, [.r 22], (some (21, false)), [22]⟩,
  ⟨(some 24), .bin .gtr, [.r 23, .k (.int .i64 60)], (some (21, false)), [23]⟩,
  ⟨(some 25), .pick, [.r 21, .k (.bool true), .r 24], none, [21, 24]⟩]) <|
.cond (.r 25)
  (.seq (.ops [⟨(some 6), .mov, [.k (.bool true)], none, [0, 1, 2, 25]⟩]) <|
  .ret)
  (.skip)) <|
.seq (.ops [⟨(some 26), .mov, [.r 0], none, [25]⟩,
  ⟨(some 27), .call 17, [.r 26], none, [26]⟩,
  ⟨(some 28), .mov, [.r 0], none, [0]⟩,
  ⟨(some 29), .build [.slice none 0 0, .int .i64 0] [(0, 1)], [.r 28], none, [28]⟩,
  ⟨(some 30), .box, [.r 29], none, [29]⟩,
  ⟨(some 7), .mov, [.r 27], none, [27]⟩,
  ⟨(some 8), .mov, [.r 30], none, [30]⟩]) <|
.seq (.seq (.ops [⟨(some 9), .mov, [.k (.int .i64 0)], none, []⟩]) <|
.block 0 (.loop m3_0)) <|
.seq (.ops [⟨(some 6), .mov, [.k (.bool true)], none, [1, 2, 7, 8, 9, 40]⟩]) <|
.ret⟩
theorem c3 : cFn Try.prog 3 = some m3.bare := by kernel_rfl

/-- 'swingbridge/swingbridgelaw20.TapeBetween' -/
def m4_0 : MCode := .seq (.seq (.ops [⟨(some 30), .mov, [.r 10], none, []⟩,
      ⟨(some 31), .mov, [.r 0], none, []⟩,
      ⟨(some 32), .len, [.r 31], none, [31]⟩,
      ⟨(some 33), .bin .mul, [.k (.int .i64 2), .r 32], none, [32]⟩,
      ⟨(some 34), .bin .lss, [.r 30, .r 33], none, [30, 33]⟩]) <|
    .cond (.r 34)
      (.skip)
      (.exit 0)) <|
    .seq (.block 1 (.seq (.ops [⟨(some 37), .mov, [.r 9], none, [34]⟩,
        ⟨(some 38), .mov, [.r 7], none, []⟩,
        ⟨(some 39), .mov, [.r 7], none, []⟩,
        ⟨(some 40), .mov, [.r 8], none, []⟩,
        ⟨(some 41), .bin .add, [.r 39, .r 40], none, [39, 40]⟩,
        ⟨(some 42), .call 19, [.r 37, .r 38, .r 41], none, [37, 38, 41]⟩,
        ⟨(some 11), .mov, [.r 42], none, [42]⟩]) <|
      .seq (.ops [⟨(some 43), .mov, [.r 11], none, []⟩,
        ⟨(some 44), .mov, [.r 7], none, []⟩,
        ⟨(some 45), .mov, [.r 0], none, []⟩,
        ⟨(some 46), .mov, [.r 10], none, []⟩,
        ⟨(some 47), .mov, [.r 0], none, []⟩,
        ⟨(some 48), .len, [.r 47], none, [47]⟩,
        ⟨(some 49), .bin .rem, [.r 46, .r 48], none, [46, 48]⟩,
        ⟨(some 50), .ia 1, [.r 45, .r 49], none, [45, 49]⟩,
        ⟨(some 51), .ld none, [.r 50], none, [50]⟩,
        ⟨(some 52), .conv .i64, [.r 51], none, [51]⟩,
        ⟨(some 53), .mov, [.r 8], none, []⟩,
        ⟨(some 54), .bin .add, [.r 53, .k (.int .i64 1)], none, [53]⟩,
        ⟨(some 55), .bin .rem, [.r 52, .r 54], none, [52, 54]⟩,
        ⟨(some 56), .bin .add, [.r 44, .r 55], none, [44, 55]⟩,
        ⟨(some 57), .bin .neq, [.r 43, .r 56], none, [43, 56]⟩,
        ⟨(some 58), .mov, [.r 57], none, [57]⟩,
        ⟨(some 59), .mov, [.r 11], (some (58, false)), []⟩,
        ⟨(some 60), .mov, [.r 7], (some (58, false)), []⟩,
        ⟨(some 61), .bin .lss, [.r 59, .r 60], (some (58, false)), [59, 60]⟩,
        ⟨(some 62), .pick, [.r 58, .k (.bool true), .r 61], none, [58, 61]⟩,
        ⟨(some 63), .mov, [.r 62], none, [62]⟩,
        ⟨(some 64), .mov, [.r 11], (some (63, false)), [11]⟩,
        ⟨(some 65), .mov, [.r 7], (some (63, false)), []⟩,
        ⟨(some 66), .mov, [.r 8], (some (63, false)), []⟩,
        ⟨(some 67), .bin .add, [.r 65, .r 66], (some (63, false)), [65, 66]⟩,
        ⟨(some 68), .bin .gtr, [.r 64, .r 67], (some (63, false)), [64, 67]⟩,
        ⟨(some 69), .pick, [.r 63, .k (.bool true), .r 68], none, [63, 68]⟩]) <|
      .cond (.r 69)
        (.seq (.ops [⟨(some 6), .mov, [.k (.bool false)], none, [0, 7, 8, 9, 10, 69]⟩]) <|
        .ret)
        (.skip))) <|
    .ops [⟨(some 35), .mov, [.r 10], none, [10, 69]⟩,
      ⟨(some 36), .bin .add, [.r 35, .k (.int .i64 1)], none, [35]⟩,
      ⟨(some 10), .mov, [.r 36], none, [36]⟩]
def m4 : MFn := ⟨[.tmp 6], .seq (.ops [⟨(some 6), .mov, [.k (.bool false)], none, [6]⟩]) <|
.seq (.seq (.ops [⟨(some 12), .call 16, [], none, []⟩,
  ⟨(some 13), .un .not, [.r 12], none, [12]⟩]) <|
.cond (.r 13)
  (.seq (.ops [⟨(some 6), .mov, [.k (.bool false)], none, [0, 1, 2, 13]⟩]) <|
  .ret)
  (.skip)) <|
.seq (.seq (.ops [⟨(some 14), .mov, [.r 0], none, [13]⟩,
  ⟨(some 15), .len, [.r 14], none, [14]⟩,
  ⟨(some 16), .bin .gtr, [.r 15, .k (.int .i64 50)], none, [15]⟩,
  ⟨(some 17), .mov, [.r 16], none, [16]⟩,
  ⟨(some 18), .mov, [.r 0], (some (17, false)), []⟩,
  ⟨(some 19), .len, [.r 18], (some (17, false)), [18]⟩,
  ⟨(some 20), .bin .eql, [.r 19, .k (.int .i64 0)], (some (17, false)), [19]⟩,
  ⟨(some 21), .pick, [.r 17, .k (.bool true), .r 20], none, [17, 20]⟩]) <|
.cond (.r 21)
  (.seq (.ops [⟨(some 6), .mov, [.k (.bool true)], none, [0, 1, 2, 21]⟩]) <|
  .ret)
  (.skip)) <|
.seq (.ops [⟨(some 22), .mov, [.r 1], none, [1, 21]⟩,
  ⟨(some 23), .conv .i64, [.r 22], none, [22]⟩,
  ⟨(some 24), .mov, [.r 2], none, [2]⟩,
  ⟨(some 25), .bin .rem, [.r 24, .k (.int .u8 40)], none, [24]⟩,
  ⟨(some 26), .conv .i64, [.r 25], none, [25]⟩,
  ⟨(some 27), .bin .add, [.r 26, .k (.int .i64 1)], none, [26]⟩,
  ⟨(some 7), .mov, [.r 23], none, [23]⟩,
  ⟨(some 8), .mov, [.r 27], none, [27]⟩]) <|
.seq (.ops [⟨(some 28), .mov, [.r 0], none, []⟩,
  ⟨(some 29), .call 17, [.r 28], none, [28]⟩,
  ⟨(some 9), .mov, [.r 29], none, [29]⟩]) <|
.seq (.seq (.ops [⟨(some 10), .mov, [.k (.int .i64 0)], none, []⟩]) <|
.block 0 (.loop m4_0)) <|
.seq (.ops [⟨(some 70), .mov, [.r 9], none, [7, 8, 9, 10, 34]⟩,
  ⟨(some 71), .call 21, [.r 70], none, [70]⟩,
  ⟨(some 72), .mov, [.r 0], none, [0]⟩,
  ⟨(some 73), .len, [.r 72], none, [72]⟩,
  ⟨(some 74), .bin .mul, [.k (.int .i64 2), .r 73], none, [73]⟩,
  ⟨(some 75), .bin .eql, [.r 71, .r 74], none, [71, 74]⟩,
  ⟨(some 6), .mov, [.r 75], none, [75]⟩]) <|
.ret⟩
theorem c4 : cFn Try.prog 4 = some m4.bare := by kernel_rfl

/-- 'swingbridge/swingbridgelaw20.TapeNothing' -/
def m5 : MFn := ⟨[.tmp 6], .seq (.ops [⟨(some 6), .mov, [.k (.bool false)], none, [6]⟩]) <|
.seq (.seq (.ops [⟨(some 13), .call 16, [], none, []⟩,
  ⟨(some 14), .un .not, [.r 13], none, [13]⟩]) <|
.cond (.r 14)
  (.seq (.ops [⟨(some 6), .mov, [.k (.bool false)], none, [0, 1, 2, 14]⟩]) <|
  .ret)
  (.skip)) <|
.seq (.seq (.ops [⟨(some 15), .mov, [.r 0], none, [14]⟩,
  ⟨(some 16), .len, [.r 15], none, [15]⟩,
  ⟨(some 17), .bin .gtr, [.r 16, .k (.int .i64 50)], none, [16]⟩]) <|
.cond (.r 17)
  (.seq (.ops [⟨(some 6), .mov, [.k (.bool true)], none, [0, 1, 2, 17]⟩]) <|
  .ret)
  (.skip)) <|
.seq (.ops [⟨(some 18), .mov, [.r 0], none, [0, 17]⟩,
  ⟨(some 19), .call 17, [.r 18], none, [18]⟩,
  ⟨(some 20), .call 17, [.k (.slice none 0 0)], none, []⟩,
  ⟨(some 7), .mov, [.r 19], none, [19]⟩,
  ⟨(some 8), .mov, [.r 20], none, [20]⟩]) <|
.seq (.ops [⟨(some 21), .mov, [.r 1], none, [1]⟩,
  ⟨(some 22), .conv .i64, [.r 21], none, [21]⟩,
  ⟨(some 9), .mov, [.r 22], none, [22]⟩]) <|
.seq (.ops [⟨(some 23), .mov, [.r 7], none, []⟩,
  ⟨(some 24), .mov, [.r 9], none, []⟩,
  ⟨(some 25), .mov, [.r 9], none, []⟩,
  ⟨(some 26), .mov, [.r 2], none, []⟩,
  ⟨(some 27), .conv .i64, [.r 26], none, [26]⟩,
  ⟨(some 28), .bin .sub, [.r 25, .r 27], none, [25, 27]⟩,
  ⟨(some 29), .call 19, [.r 23, .r 24, .r 28], none, [23, 24, 28]⟩,
  ⟨(some 10), .mov, [.r 29], none, [29]⟩]) <|
.seq (.ops [⟨(some 30), .mov, [.r 8], none, []⟩,
  ⟨(some 31), .mov, [.r 9], none, []⟩,
  ⟨(some 32), .mov, [.r 9], none, []⟩,
  ⟨(some 33), .mov, [.r 2], none, []⟩,
  ⟨(some 34), .conv .i64, [.r 33], none, [33]⟩,
  ⟨(some 35), .bin .add, [.r 32, .r 34], none, [32, 34]⟩,
  ⟨(some 36), .call 19, [.r 30, .r 31, .r 35], none, [30, 31, 35]⟩,
  ⟨(some 11), .mov, [.r 36], none, [36]⟩]) <|
.seq (.ops [⟨(some 12), .mov, [.k (.int .i64 0)], none, []⟩]) <|
.seq (.seq (.ops [⟨(some 37), .mov, [.r 2], none, []⟩,
  ⟨(some 38), .bin .gtr, [.r 37, .k (.int .u8 0)], none, [37]⟩]) <|
.cond (.r 38)
  (.ops [⟨(some 12), .mov, [.k (.int .i64 1)], none, [38]⟩])
  (.skip)) <|
.seq (.ops [⟨(some 39), .mov, [.r 10], none, [10, 38]⟩,
  ⟨(some 40), .mov, [.r 9], none, []⟩,
  ⟨(some 41), .mov, [.r 2], none, []⟩,
  ⟨(some 42), .conv .i64, [.r 41], none, [41]⟩,
  ⟨(some 43), .bin .sub, [.r 40, .r 42], none, [40, 42]⟩,
  ⟨(some 44), .bin .eql, [.r 39, .r 43], none, [39, 43]⟩,
  ⟨(some 45), .mov, [.r 44], none, [44]⟩,
  ⟨(some 46), .mov, [.r 7], (some (45, true)), [7]⟩,
  ⟨(some 47), .call 21, [.r 46], (some (45, true)), [46]⟩,
  ⟨(some 48), .bin .eql, [.r 47, .k (.int .i64 0)], (some (45, true)), [47]⟩,
  ⟨(some 49), .pick, [.r 45, .r 48, .k (.bool false)], none, [45, 48]⟩,
  ⟨(some 50), .mov, [.r 49], none, [49]⟩,
  ⟨(some 51), .mov, [.r 11], (some (50, true)), [11]⟩,
  ⟨(some 52), .mov, [.r 9], (some (50, true)), [9]⟩,
  ⟨(some 53), .mov, [.r 2], (some (50, true)), [2]⟩,
  ⟨(some 54), .conv .i64, [.r 53], (some (50, true)), [53]⟩,
  ⟨(some 55), .bin .add, [.r 52, .r 54], (some (50, true)), [52, 54]⟩,
  ⟨(some 56), .bin .eql, [.r 51, .r 55], (some (50, true)), [51, 55]⟩,
  ⟨(some 57), .pick, [.r 50, .r 56, .k (.bool false)], none, [50, 56]⟩,
  ⟨(some 58), .mov, [.r 57], none, [57]⟩,
  ⟨(some 59), .mov, [.r 8], (some (58, true)), [8]⟩,
  ⟨(some 60), .call 21, [.r 59], (some (58, true)), [59]⟩,
  ⟨(some 61), .mov, [.r 12], (some (58, true)), [12]⟩,
  ⟨(some 62), .bin .eql, [.r 60, .r 61], (some (58, true)), [60, 61]⟩,
  ⟨(some 63), .pick, [.r 58, .r 62, .k (.bool false)], none, [58, 62]⟩,
  ⟨(some 6), .mov, [.r 63], none, [63]⟩]) <|
.ret⟩
theorem c5 : cFn Try.prog 5 = some m5.bare := by kernel_rfl

/-- 'swingbridge/swingbridgelaw20.known' -/
def m16 : MFn := ⟨[.tmp 0], .seq (.ops [⟨(some 0), .mov, [.k (.bool false)], none, [0]⟩]) <|
.seq (.ops [⟨(some 7), .bslice 1 2 [.int .u8 0] [(0, 1), (1, 1)], [.k (.int .u8 7), .k (.int .u8 2)], none, []⟩,
  ⟨(some 8), .call 17, [.r 7], none, [7]⟩,
  ⟨(some 1), .mov, [.r 8], none, [8]⟩]) <|
.seq (.ops [⟨(some 9), .call 17, [.k (.slice none 0 0)], none, []⟩,
  ⟨(some 2), .mov, [.r 9], none, [9]⟩]) <|
.seq (.seq (.ops [⟨(some 10), .mov, [.r 1], none, []⟩,
  ⟨(some 11), .eqv false .ptr, [.r 10, .k (.pointer none)], none, [10]⟩,
  ⟨(some 12), .mov, [.r 11], none, [11]⟩,
  ⟨(some 13), .mov, [.r 2], (some (12, false)), []⟩,
  ⟨(some 14), .eqv false .ptr, [.r 13, .k (.pointer none)], (some (12, false)), [13]⟩,
  ⟨(some 15), .pick, [.r 12, .k (.bool true), .r 14], none, [12, 14]⟩]) <|
.cond (.r 15)
  (.seq (.ops [⟨(some 0), .mov, [.k (.bool false)], none, [1, 2, 15]⟩]) <|
  .ret)
  (.skip)) <|
.seq (.ops [⟨(some 16), .mov, [.r 1], none, [15]⟩,
  ⟨(some 17), .call 19, [.r 16, .k (.int .i64 1), .k (.int .i64 5)], none, [16]⟩,
  ⟨(some 3), .mov, [.r 17], none, [17]⟩]) <|
.seq (.ops [⟨(some 18), .mov, [.r 1], none, []⟩,
  ⟨(some 19), .call 18, [.r 18], none, [18]⟩,
  ⟨(some 4), .mov, [.r 19], none, [19]⟩]) <|
.seq (.ops [⟨(some 20), .mov, [.r 1], none, []⟩,
  ⟨(some 21), .call 19, [.r 20, .k (.int .i64 0), .k (.int .i64 1)], none, [20]⟩,
  ⟨(some 5), .mov, [.r 21], none, [21]⟩]) <|
.seq (.ops [⟨(some 22), .mov, [.r 1], none, []⟩,
  ⟨(some 23), .call 19, [.r 22, .k (.int .i64 0), .k (.int .i64 9)], none, [22]⟩,
  ⟨(some 6), .mov, [.r 23], none, [23]⟩]) <|
.seq (.ops [⟨(some 24), .mov, [.r 3], none, [3]⟩,
  ⟨(some 25), .bin .eql, [.r 24, .k (.int .i64 3)], none, [24]⟩,
  ⟨(some 26), .mov, [.r 25], none, [25]⟩,
  ⟨(some 27), .mov, [.r 5], (some (26, true)), [5]⟩,
  ⟨(some 28), .bin .eql, [.r 27, .k (.int .i64 0)], (some (26, true)), [27]⟩,
  ⟨(some 29), .pick, [.r 26, .r 28, .k (.bool false)], none, [26, 28]⟩,
  ⟨(some 30), .mov, [.r 29], none, [29]⟩,
  ⟨(some 31), .mov, [.r 6], (some (30, true)), [6]⟩,
  ⟨(some 32), .bin .eql, [.r 31, .k (.int .i64 7)], (some (30, true)), [31]⟩,
  ⟨(some 33), .pick, [.r 30, .r 32, .k (.bool false)], none, [30, 32]⟩,
  ⟨(some 34), .mov, [.r 33], none, [33]⟩,
  ⟨(some 35), .mov, [.r 1], (some (34, true)), []⟩,
  ⟨(some 36), .call 21, [.r 35], (some (34, true)), [35]⟩,
  ⟨(some 37), .bin .eql, [.r 36, .k (.int .i64 3)], (some (34, true)), [36]⟩,
  ⟨(some 38), .pick, [.r 34, .r 37, .k (.bool false)], none, [34, 37]⟩,
  ⟨(some 39), .mov, [.r 38], none, [38]⟩,
  ⟨(some 40), .mov, [.r 4], (some (39, true)), []⟩,
  ⟨(some 41), .call 21, [.r 40], (some (39, true)), [40]⟩,
  ⟨(some 42), .bin .eql, [.r 41, .k (.int .i64 1)], (some (39, true)), [41]⟩,
  ⟨(some 43), .pick, [.r 39, .r 42, .k (.bool false)], none, [39, 42]⟩,
  ⟨(some 44), .mov, [.r 43], none, [43]⟩,
  ⟨(some 45), .mov, [.r 4], (some (44, true)), [4]⟩,
  ⟨(some 46), .call 19, [.r 45, .k (.int .i64 0), .k (.int .i64 9)], (some (44, true)), [45]⟩,
  ⟨(some 47), .bin .eql, [.r 46, .k (.int .i64 2)], (some (44, true)), [46]⟩,
  ⟨(some 48), .pick, [.r 44, .r 47, .k (.bool false)], none, [44, 47]⟩,
  ⟨(some 49), .mov, [.r 48], none, [48]⟩,
  ⟨(some 50), .mov, [.r 1], (some (49, true)), []⟩,
  ⟨(some 51), .call 19, [.r 50, .k (.int .i64 4), .k (.int .i64 4)], (some (49, true)), [50]⟩,
  ⟨(some 52), .bin .eql, [.r 51, .k (.int .i64 4)], (some (49, true)), [51]⟩,
  ⟨(some 53), .pick, [.r 49, .r 52, .k (.bool false)], none, [49, 52]⟩,
  ⟨(some 54), .mov, [.r 53], none, [53]⟩,
  ⟨(some 55), .mov, [.r 1], (some (54, true)), [1]⟩,
  ⟨(some 56), .call 21, [.r 55], (some (54, true)), [55]⟩,
  ⟨(some 57), .bin .eql, [.r 56, .k (.int .i64 3)], (some (54, true)), [56]⟩,
  ⟨(some 58), .pick, [.r 54, .r 57, .k (.bool false)], none, [54, 57]⟩,
  ⟨(some 59), .mov, [.r 58], none, [58]⟩,
  ⟨(some 60), .mov, [.r 2], (some (59, true)), []⟩,
  ⟨(some 61), .call 19, [.r 60, .k (.int .i64 2), .k (.int .i64 8)], (some (59, true)), [60]⟩,
  ⟨(some 62), .bin .eql, [.r 61, .k (.int .i64 8)], (some (59, true)), [61]⟩,
  ⟨(some 63), .pick, [.r 59, .r 62, .k (.bool false)], none, [59, 62]⟩,
  ⟨(some 64), .mov, [.r 63], none, [63]⟩,
  ⟨(some 65), .mov, [.r 2], (some (64, true)), [2]⟩,
  ⟨(some 66), .call 21, [.r 65], (some (64, true)), [65]⟩,
  ⟨(some 67), .bin .eql, [.r 66, .k (.int .i64 1)], (some (64, true)), [66]⟩,
  ⟨(some 68), .pick, [.r 64, .r 67, .k (.bool false)], none, [64, 67]⟩,
  ⟨(some 0), .mov, [.r 68], none, [68]⟩]) <|
.ret⟩
theorem c16 : cFn Try.prog 16 = some m16.bare := by kernel_rfl

/-- 'swingbridge/tape.New' -/
def m17 : MFn := ⟨[.tmp 2], .seq (.ops [⟨(some 2), .mov, [.k (.pointer none)], none, [2]⟩]) <|
.seq (.ops [⟨(some 3), .mov, [.r 0], none, [0]⟩,
  ⟨(some 4), .call 63, [.r 3], none, [3]⟩,
  ⟨(some 5), .build [.slice none 0 0, .int .i64 0, .int .i64 0] [(0, 1)], [.r 4], none, [4]⟩,
  ⟨(some 6), .box, [.r 5], none, [5]⟩,
  ⟨(some 2), .mov, [.r 6], none, [6]⟩]) <|
.ret⟩
theorem c17 : cFn Try.prog 17 = some m17.bare := by kernel_rfl

/-- '(*swingbridge/tape.Tape).Copy' -/
def m18 : MFn := ⟨[.tmp 2], .seq (.ops [⟨(some 2), .mov, [.k (.pointer none)], none, [2]⟩]) <|
.seq (.draw [⟨(some 3), .mov, [.r 0], none, []⟩,
  ⟨(some 4), .nilck, [.r 3], none, [3]⟩,
  ⟨(some 5), .fa 0, [.r 4], none, [4]⟩,
  ⟨(some 6), .ld none, [.r 5], none, [5]⟩,
  ⟨(some 7), .call 63, [.r 6], none, [6]⟩,
  ⟨(some 8), .mov, [.r 0], none, []⟩,
  ⟨(some 9), .nilck, [.r 8], none, [8]⟩,
  ⟨(some 10), .fa 1, [.r 9], none, [9]⟩,
  ⟨(some 11), .ld none, [.r 10], none, [10]⟩,
  ⟨(some 12), .mov, [.r 0], none, [0]⟩,
  ⟨(some 13), .nilck, [.r 12], none, [12]⟩,
  ⟨(some 14), .fa 2, [.r 13], none, [13]⟩,
  ⟨(some 15), .ld none, [.r 14], none, [14]⟩,
  ⟨(some 16), .build [.slice none 0 0, .int .i64 0, .int .i64 0] [(0, 1), (1, 1), (2, 1)], [.r 7, .r 11, .r 15], none, [7, 11, 15]⟩,
  ⟨(some 17), .box, [.r 16], none, [16]⟩,
  ⟨(some 2), .mov, [.r 17], none, [17]⟩] [(8, 4), (12, 4)]) <|
.ret⟩
theorem c18 : cFn Try.prog 18 = some m18.bare := by kernel_rfl

/-- '(*swingbridge/tape.Tape).Pick' -/
def m19_0 : MCode := .seq (.seq (.ops [⟨(some 9), .mov, [.r 2], none, []⟩,
      ⟨(some 10), .mov, [.r 1], none, []⟩,
      ⟨(some 11), .bin .gtr, [.r 9, .r 10], none, [9, 10]⟩]) <|
    .cond (.r 11)
      (.skip)
      (.exit 0)) <|
    .block 1 (.seq (.ops [⟨(some 13), .mov, [.r 0], none, [0, 11]⟩,
        ⟨(some 14), .call 64, [.r 13], none, [13]⟩,
        ⟨(some 12), .mov, [.r 14], none, [14]⟩,
        ⟨(some 15), .extract 0, [.r 12], none, []⟩,
        ⟨(some 16), .extract 1, [.r 12], none, [12]⟩,
        ⟨(some 7), .mov, [.r 15], none, [15]⟩,
        ⟨(some 8), .mov, [.r 16], none, [16]⟩]) <|
      .seq (.seq (.ops [⟨(some 17), .mov, [.r 8], none, [8]⟩,
        ⟨(some 18), .un .not, [.r 17], none, [17]⟩]) <|
      .cond (.r 18)
        (.exit 0)
        (.skip)) <|
      .seq (.ops [⟨(some 19), .mov, [.r 1], none, [18]⟩,
        ⟨(some 20), .mov, [.r 7], none, [7]⟩,
        ⟨(some 21), .mov, [.r 2], none, [2]⟩,
        ⟨(some 22), .mov, [.r 1], none, [1]⟩,
        ⟨(some 23), .bin .sub, [.r 21, .r 22], none, [21, 22]⟩,
        ⟨(some 24), .call 65, [.r 23, .k (.int .i64 1), .k (.int .i64 65535)], none, [23]⟩,
        ⟨(some 25), .bin .add, [.r 24, .k (.int .i64 1)], none, [24]⟩,
        ⟨(some 26), .bin .rem, [.r 20, .r 25], none, [20, 25]⟩,
        ⟨(some 27), .bin .add, [.r 19, .r 26], none, [19, 26]⟩,
        ⟨(some 6), .mov, [.r 27], none, [27]⟩]) <|
      .ret)
def m19 : MFn := ⟨[.tmp 6], .seq (.ops [⟨(some 6), .mov, [.k (.int .i64 0)], none, [6]⟩]) <|
.seq (.skip) <|
.seq (.block 0 (.loop m19_0)) <|
.seq (.ops [⟨(some 28), .mov, [.r 2], none, [0, 1, 2, 7, 11, 18]⟩,
  ⟨(some 6), .mov, [.r 28], none, [28]⟩]) <|
.ret⟩
theorem c19 : cFn Try.prog 19 = some m19.bare := by kernel_rfl

/-- '(*swingbridge/swingbridgeref20.Tape).Pick' -/
def m20 : MFn := ⟨[.tmp 6], .seq (.ops [⟨(some 6), .mov, [.k (.int .i64 0)], none, [6]⟩]) <|
.seq (.seq (.ops [⟨(some 7), .mov, [.r 2], none, []⟩,
  ⟨(some 8), .mov, [.r 1], none, []⟩,
  ⟨(some 9), .bin .leq, [.r 7, .r 8], none, [7, 8]⟩]) <|
.cond (.r 9)
  (.seq (.ops [⟨(some 10), .mov, [.r 2], none, [0, 1, 2, 9]⟩,
    ⟨(some 6), .mov, [.r 10], none, [10]⟩]) <|
  .ret)
  (.skip)) <|
.seq (.ops [⟨(some 11), .mov, [.r 0], none, [9]⟩,
  ⟨(some 12), .mov, [.r 0], none, []⟩,
  ⟨(some 13), .nilck, [.r 12], none, [12]⟩,
  ⟨(some 14), .fa 1, [.r 13], none, [13]⟩,
  ⟨(some 15), .ld none, [.r 14], none, [14]⟩,
  ⟨(some 16), .bin .add, [.r 15, .k (.int .i64 1)], none, [15]⟩,
  ⟨(some 17), .nilck, [.r 11], none, [11]⟩,
  ⟨(some 18), .fa 1, [.r 17], none, [17]⟩,
  ⟨none, .st 1, [.r 18, .r 16], none, [16, 18]⟩]) <|
.seq (.seq (.ops [⟨(some 19), .mov, [.r 0], none, []⟩,
  ⟨(some 20), .nilck, [.r 19], none, [19]⟩,
  ⟨(some 21), .fa 0, [.r 20], none, [20]⟩,
  ⟨(some 22), .ld none, [.r 21], none, [21]⟩,
  ⟨(some 23), .len, [.r 22], none, [22]⟩,
  ⟨(some 24), .bin .eql, [.r 23, .k (.int .i64 0)], none, [23]⟩]) <|
.cond (.r 24)
  (.seq (.ops [⟨(some 25), .mov, [.r 2], none, [0, 1, 2, 24]⟩,
    ⟨(some 6), .mov, [.r 25], none, [25]⟩]) <|
  .ret)
  (.skip)) <|
.seq (.draw [⟨(some 26), .mov, [.r 1], none, [24]⟩,
  ⟨(some 27), .mov, [.r 0], none, []⟩,
  ⟨(some 28), .nilck, [.r 27], none, [27]⟩,
  ⟨(some 29), .fa 0, [.r 28], none, [28]⟩,
  ⟨(some 30), .ld none, [.r 29], none, [29]⟩,
  ⟨(some 31), .mov, [.r 0], none, []⟩,
  ⟨(some 32), .nilck, [.r 31], none, [31]⟩,
  ⟨(some 33), .fa 1, [.r 32], none, [32]⟩,
  ⟨(some 34), .ld none, [.r 33], none, [33]⟩,
  ⟨(some 35), .bin .sub, [.r 34, .k (.int .i64 1)], none, [34]⟩,
  ⟨(some 36), .mov, [.r 0], none, [0]⟩,
  ⟨(some 37), .nilck, [.r 36], none, [36]⟩,
  ⟨(some 38), .fa 0, [.r 37], none, [37]⟩,
  ⟨(some 39), .ld none, [.r 38], none, [38]⟩,
  ⟨(some 40), .len, [.r 39], none, [39]⟩,
  ⟨(some 41), .bin .rem, [.r 35, .r 40], none, [35, 40]⟩,
  ⟨(some 42), .ia 1, [.r 30, .r 41], none, [30, 41]⟩,
  ⟨(some 43), .ld none, [.r 42], none, [42]⟩,
  ⟨(some 44), .conv .i64, [.r 43], none, [43]⟩,
  ⟨(some 45), .mov, [.r 2], none, [2]⟩,
  ⟨(some 46), .mov, [.r 1], none, [1]⟩,
  ⟨(some 47), .bin .sub, [.r 45, .r 46], none, [45, 46]⟩,
  ⟨(some 48), .minmax false, [.r 47, .k (.int .i64 65535)], none, [47]⟩,
  ⟨(some 49), .minmax true, [.k (.int .i64 1), .r 48], none, [48]⟩,
  ⟨(some 50), .bin .add, [.r 49, .k (.int .i64 1)], none, [49]⟩,
  ⟨(some 51), .bin .rem, [.r 44, .r 50], none, [44, 50]⟩,
  ⟨(some 52), .bin .add, [.r 26, .r 51], none, [26, 51]⟩,
  ⟨(some 6), .mov, [.r 52], none, [52]⟩] []) <|
.ret⟩
theorem c20 : cFn Try.prog 20 = some m20.bare := by kernel_rfl

/-- '(*swingbridge/tape.Tape).Used' -/
def m21 : MFn := ⟨[.tmp 2], .seq (.ops [⟨(some 2), .mov, [.k (.int .i64 0)], none, [2]⟩]) <|
.seq (.ops [⟨(some 3), .mov, [.r 0], none, [0]⟩,
  ⟨(some 4), .nilck, [.r 3], none, [3]⟩,
  ⟨(some 5), .fa 2, [.r 4], none, [4]⟩,
  ⟨(some 6), .ld none, [.r 5], none, [5]⟩,
  ⟨(some 2), .mov, [.r 6], none, [6]⟩]) <|
.ret⟩
theorem c21 : cFn Try.prog 21 = some m21.bare := by kernel_rfl

/-- 'slices.Clone[[]byte,byte]' -/
def m63 : MFn := ⟨[.tmp 2], .seq (.ops [⟨(some 2), .mov, [.k (.slice none 0 0)], none, [2]⟩]) <|
.seq (.seq (.ops [⟨(some 3), .mov, [.r 0], none, []⟩,
  ⟨(some 4), .eqv false .slice, [.r 3, .k (.slice none 0 0)], none, [3]⟩]) <|
.cond (.r 4)
  (.seq (.ops [⟨(some 2), .mov, [.k (.slice none 0 0)], none, [0, 4]⟩]) <|
  .ret)
  (.skip)) <|
.seq (.ops [⟨(some 5), .bslice 1 0 [.int .u8 0] [], [], none, [4]⟩,
  ⟨(some 6), .mov, [.r 0], none, [0]⟩,
  ⟨(some 7), .app 1 1, [.r 5, .r 6], none, [5, 6]⟩,
  ⟨(some 2), .mov, [.r 7], none, [7]⟩]) <|
.ret⟩
theorem c63 : cFn Try.prog 63 = some m63.bare := by kernel_rfl

/-- '(*swingbridge/tape.Tape).next' -/
def m64 : MFn := ⟨[.tmp 2, .tmp 3], .seq (.ops [⟨(some 2), .mov, [.k (.int .i64 0)], none, [2]⟩,
  ⟨(some 3), .mov, [.k (.bool false)], none, [3]⟩]) <|
.seq (.ops [⟨(some 5), .mov, [.r 0], none, []⟩,
  ⟨(some 6), .nilck, [.r 5], none, []⟩,
  ⟨(some 7), .fa 2, [.r 6], none, [6]⟩,
  ⟨(some 8), .ld none, [.r 7], none, [7]⟩,
  ⟨(some 9), .bin .add, [.r 8, .k (.int .i64 1)], none, [8]⟩,
  ⟨(some 10), .nilck, [.r 5], none, [5]⟩,
  ⟨(some 11), .fa 2, [.r 10], none, [10]⟩,
  ⟨none, .st 1, [.r 11, .r 9], none, [9, 11]⟩]) <|
.seq (.seq (.ops [⟨(some 12), .mov, [.r 0], none, []⟩,
  ⟨(some 13), .nilck, [.r 12], none, [12]⟩,
  ⟨(some 14), .fa 0, [.r 13], none, [13]⟩,
  ⟨(some 15), .ld none, [.r 14], none, [14]⟩,
  ⟨(some 16), .len, [.r 15], none, [15]⟩,
  ⟨(some 17), .bin .eql, [.r 16, .k (.int .i64 0)], none, [16]⟩]) <|
.cond (.r 17)
  (.seq (.ops [⟨(some 2), .mov, [.k (.int .i64 0)], none, [0, 17]⟩,
    ⟨(some 3), .mov, [.k (.bool false)], none, []⟩]) <|
  .ret)
  (.skip)) <|
.seq (.seq (.draw [⟨(some 18), .mov, [.r 0], none, [17]⟩,
  ⟨(some 19), .nilck, [.r 18], none, [18]⟩,
  ⟨(some 20), .fa 1, [.r 19], none, [19]⟩,
  ⟨(some 21), .ld none, [.r 20], none, [20]⟩,
  ⟨(some 22), .mov, [.r 0], none, []⟩,
  ⟨(some 23), .nilck, [.r 22], none, [22]⟩,
  ⟨(some 24), .fa 0, [.r 23], none, [23]⟩,
  ⟨(some 25), .ld none, [.r 24], none, [24]⟩,
  ⟨(some 26), .len, [.r 25], none, [25]⟩,
  ⟨(some 27), .bin .eql, [.r 21, .r 26], none, [21, 26]⟩] []) <|
.cond (.r 27)
  (.ops [⟨(some 28), .mov, [.r 0], none, [27]⟩,
    ⟨(some 29), .nilck, [.r 28], none, [28]⟩,
    ⟨(some 30), .fa 1, [.r 29], none, [29]⟩,
    ⟨none, .st 1, [.r 30, .k (.int .i64 0)], none, [30]⟩])
  (.skip)) <|
.seq (.draw [⟨(some 31), .mov, [.r 0], none, [27]⟩,
  ⟨(some 32), .nilck, [.r 31], none, [31]⟩,
  ⟨(some 33), .fa 0, [.r 32], none, [32]⟩,
  ⟨(some 34), .ld none, [.r 33], none, [33]⟩,
  ⟨(some 35), .mov, [.r 0], none, []⟩,
  ⟨(some 36), .nilck, [.r 35], none, [35]⟩,
  ⟨(some 37), .fa 1, [.r 36], none, [36]⟩,
  ⟨(some 38), .ld none, [.r 37], none, [37]⟩,
  ⟨(some 39), .ia 1, [.r 34, .r 38], none, [34, 38]⟩,
  ⟨(some 40), .ld none, [.r 39], none, [39]⟩,
  ⟨(some 41), .conv .i64, [.r 40], none, [40]⟩,
  ⟨(some 4), .mov, [.r 41], none, [41]⟩] []) <|
.seq (.ops [⟨(some 42), .mov, [.r 0], none, [0]⟩,
  ⟨(some 43), .nilck, [.r 42], none, []⟩,
  ⟨(some 44), .fa 1, [.r 43], none, [43]⟩,
  ⟨(some 45), .ld none, [.r 44], none, [44]⟩,
  ⟨(some 46), .bin .add, [.r 45, .k (.int .i64 1)], none, [45]⟩,
  ⟨(some 47), .nilck, [.r 42], none, [42]⟩,
  ⟨(some 48), .fa 1, [.r 47], none, [47]⟩,
  ⟨none, .st 1, [.r 48, .r 46], none, [46, 48]⟩]) <|
.seq (.ops [⟨(some 49), .mov, [.r 4], none, [4]⟩,
  ⟨(some 2), .mov, [.r 49], none, [49]⟩,
  ⟨(some 3), .mov, [.k (.bool true)], none, []⟩]) <|
.ret⟩
theorem c64 : cFn Try.prog 64 = some m64.bare := by kernel_rfl

/-- 'swingbridge/calc.Clip' -/
def m65 : MFn := ⟨[.tmp 6], .seq (.ops [⟨(some 6), .mov, [.k (.int .i64 0)], none, [6]⟩]) <|
.seq (.block 0 (.seq (.ops [⟨(some 8), .mov, [.r 0], none, []⟩,
    ⟨(some 9), .mov, [.r 1], none, []⟩,
    ⟨(some 10), .bin .lss, [.r 8, .r 9], none, [8, 9]⟩,
    ⟨(some 11), .mov, [.r 10], none, [10]⟩,
    ⟨(some 12), .mov, [.r 2], (some (11, false)), []⟩,
    ⟨(some 13), .mov, [.r 1], (some (11, false)), []⟩,
    ⟨(some 14), .bin .lss, [.r 12, .r 13], (some (11, false)), [12, 13]⟩,
    ⟨(some 15), .pick, [.r 11, .k (.bool true), .r 14], none, [11, 14]⟩,
    ⟨(some 7), .mov, [.r 15], none, [15]⟩]) <|
  .cond (.r 7)
    (.seq (.ops [⟨(some 16), .mov, [.r 1], none, [0, 1, 2, 7]⟩,
      ⟨(some 6), .mov, [.r 16], none, [16]⟩]) <|
    .ret)
    (.seq (.ops [⟨(some 18), .mov, [.r 0], none, [1, 7]⟩,
      ⟨(some 19), .mov, [.r 2], none, []⟩,
      ⟨(some 20), .bin .gtr, [.r 18, .r 19], none, [18, 19]⟩,
      ⟨(some 17), .mov, [.r 20], none, [20]⟩]) <|
    .cond (.r 17)
      (.seq (.ops [⟨(some 21), .mov, [.r 2], none, [0, 2, 17]⟩,
        ⟨(some 6), .mov, [.r 21], none, [21]⟩]) <|
      .ret)
      (.skip)))) <|
.seq (.ops [⟨(some 22), .mov, [.r 0], none, [0, 2, 17]⟩,
  ⟨(some 6), .mov, [.r 22], none, [22]⟩]) <|
.ret⟩
theorem c65 : cFn Try.prog 65 = some m65.bare := by kernel_rfl

def mp (f : FuncId) : Option MDef := match f with
  | 3 => some (.code m3)
  | 4 => some (.code m4)
  | 5 => some (.code m5)
  | 16 => some (.code m16)
  | 17 => some (.code m17)
  | 18 => some (.code m18)
  | 19 => some (.code m19)
  | 20 => some (.code m20)
  | 21 => some (.code m21)
  | 63 => some (.code m63)
  | 64 => some (.code m64)
  | 65 => some (.code m65)
  | _ => none
theorem mp_code : ∀ f fn, mp f = some (.code fn) → cFn Try.prog f = some fn.bare := by
  intro f fn h
  unfold mp at h
  split at h
  · cases h; exact c3
  · cases h; exact c4
  · cases h; exact c5
  · cases h; exact c16
  · cases h; exact c17
  · cases h; exact c18
  · cases h; exact c19
  · cases h; exact c20
  · cases h; exact c21
  · cases h; exact c63
  · cases h; exact c64
  · cases h; exact c65
  · cases h
theorem mp_ok : MapOk Try.prog mp := ⟨by kernel_rfl, mp_code, fun f s h => by
  unfold mp at h
  split at h <;> cases h⟩
end Go.Mod

/- The model's code of functions of the program, and that it is the program's. Printed by wip/tool. -/
import Derived.Test.YtfeaopbeiahbnaaTapeM
import Derived.Test.YtfeaopbeiahbnaaProg
import Derived.Test.YtfeaopbeiahbnaaFwW
namespace Go.Mod
open Go.Proofs

/-- 'swingbridge/swingbridgelaw21.JobLengths' -/
def m10_0 : MCode := .seq (.seq (.ops [⟨(some 33), .mov, [.r 5], none, [56]⟩,
            ⟨(some 34), .call 41, [.r 33], none, [33]⟩,
            ⟨(some 35), .mov, [.r 6], none, []⟩,
            ⟨(some 36), .bin .eql, [.r 34, .r 35], none, [34, 35]⟩]) <|
          .cond (.r 36)
            (.skip)
            (.exit 2)) <|
          .block 3 (.seq (.ops [⟨(some 37), .mov, [.r 7], none, [7, 36]⟩,
              ⟨(some 38), .bin .add, [.r 37, .k (.int .i64 1)], none, [37]⟩,
              ⟨(some 7), .mov, [.r 38], none, [38]⟩]) <|
            .seq (.ops [⟨(some 39), .mov, [.r 5], none, []⟩,
              ⟨(some 40), .call 42, [.r 39], none, [39]⟩,
              ⟨(some 9), .mov, [.r 40], none, [40]⟩]) <|
            .seq (.ops [⟨(some 41), .mov, [.r 7], none, []⟩,
              ⟨(some 42), .fa 5, [.r 2], none, []⟩,
              ⟨(some 43), .ld none, [.r 42], none, [42]⟩,
              ⟨(some 44), .mov, [.r 6], none, []⟩,
              ⟨(some 45), .ia 3, [.r 43, .r 44], none, [43, 44]⟩,
              ⟨(some 46), .fa 1, [.r 45], none, [45]⟩,
              ⟨(some 47), .ld none, [.r 46], none, [46]⟩,
              ⟨(some 48), .bin .gtr, [.r 41, .r 47], none, [41, 47]⟩,
              ⟨(some 49), .mov, [.r 48], none, [48]⟩,
              ⟨(some 50), .mov, [.r 9], (some (49, false)), [9]⟩,
              ⟨(some 51), .mov, [.r 5], (some (49, false)), []⟩,
              ⟨(some 52), .call 41, [.r 51], (some (49, false)), [51]⟩,
              ⟨(some 53), .mov, [.r 6], (some (49, false)), []⟩,
              ⟨(some 54), .bin .neq, [.r 52, .r 53], (some (49, false)), [52, 53]⟩,
              ⟨(some 55), .eqv true .bool, [.r 50, .r 54], (some (49, false)), [50, 54]⟩,
              ⟨(some 56), .pick, [.r 49, .k (.bool true), .r 55], none, [49, 55]⟩]) <|
            .cond (.r 56)
              (.seq (.ops [⟨(some 4), .mov, [.k (.bool false)], none, [2, 5, 6, 7, 8, 56]⟩]) <|
              .ret)
              (.skip))
def m10_1 : MCode := .seq (.seq (.ops [⟨(some 24), .mov, [.r 6], none, []⟩,
      ⟨(some 25), .fa 5, [.r 2], none, []⟩,
      ⟨(some 26), .ld none, [.r 25], none, [25]⟩,
      ⟨(some 27), .len, [.r 26], none, [26]⟩,
      ⟨(some 28), .bin .lss, [.r 24, .r 27], none, [24, 27]⟩]) <|
    .cond (.r 28)
      (.skip)
      (.exit 0)) <|
    .seq (.block 1 (.seq (.ops [⟨(some 7), .mov, [.k (.int .i64 0)], none, [28]⟩]) <|
      .seq (.ops [⟨(some 31), .mov, [.r 5], none, []⟩,
        ⟨(some 32), .call 40, [.r 31], none, [31]⟩,
        ⟨(some 8), .mov, [.r 32], none, [32]⟩]) <|
      .seq (.block 2 (.loop m10_0)) <|
      .seq (.ops [⟨(some 57), .mov, [.r 7], none, [36]⟩,
        ⟨(some 58), .mov, [.r 8], none, [8]⟩,
        ⟨(some 59), .bin .neq, [.r 57, .r 58], none, [57, 58]⟩,
        ⟨(some 60), .mov, [.r 59], none, [59]⟩,
        ⟨(some 61), .mov, [.r 7], (some (60, false)), [7]⟩,
        ⟨(some 62), .bin .lss, [.r 61, .k (.int .i64 1)], (some (60, false)), [61]⟩,
        ⟨(some 63), .pick, [.r 60, .k (.bool true), .r 62], none, [60, 62]⟩,
        ⟨(some 64), .mov, [.r 63], none, [63]⟩,
        ⟨(some 65), .mov, [.r 5], (some (64, false)), []⟩,
        ⟨(some 66), .call 41, [.r 65], (some (64, false)), [65]⟩,
        ⟨(some 67), .mov, [.r 6], (some (64, false)), []⟩,
        ⟨(some 68), .bin .add, [.r 67, .k (.int .i64 1)], (some (64, false)), [67]⟩,
        ⟨(some 69), .bin .neq, [.r 66, .r 68], (some (64, false)), [66, 68]⟩,
        ⟨(some 70), .pick, [.r 64, .k (.bool true), .r 69], none, [64, 69]⟩]) <|
      .cond (.r 70)
        (.seq (.ops [⟨(some 4), .mov, [.k (.bool false)], none, [2, 5, 6, 70]⟩]) <|
        .ret)
        (.skip))) <|
    .ops [⟨(some 29), .mov, [.r 6], none, [6, 70]⟩,
      ⟨(some 30), .bin .add, [.r 29, .k (.int .i64 1)], none, [29]⟩,
      ⟨(some 6), .mov, [.r 30], none, [30]⟩]
def m10 : MFn := ⟨[.tmp 4], .seq (.ops [⟨(some 2), .box, [.r 0], none, [0]⟩,
  ⟨(some 4), .mov, [.k (.bool false)], none, [4]⟩]) <|
.seq (.seq (.ops [⟨(some 10), .call 37, [], none, []⟩,
  ⟨(some 11), .un .not, [.r 10], none, [10]⟩]) <|
.cond (.r 11)
  (.seq (.ops [⟨(some 4), .mov, [.k (.bool false)], none, [1, 2, 11]⟩]) <|
  .ret)
  (.skip)) <|
.seq (.seq (.ops [⟨(some 12), .ld (some 6), [.r 2], none, [11]⟩,
  ⟨(some 13), .call 38, [.r 12], none, [12]⟩,
  ⟨(some 14), .un .not, [.r 13], none, [13]⟩,
  ⟨(some 15), .mov, [.r 14], none, [14]⟩,
  ⟨(some 16), .mov, [.r 1], (some (15, false)), []⟩,
  ⟨(some 17), .len, [.r 16], (some (15, false)), [16]⟩,
  ⟨(some 18), .bin .gtr, [.r 17, .k (.int .i64 60)], (some (15, false)), [17]⟩,
  ⟨(some 19), .pick, [.r 15, .k (.bool true), .r 18], none, [15, 18]⟩]) <|
.cond (.r 19)
  (.seq (.ops [⟨(some 4), .mov, [.k (.bool true)], none, [1, 2, 19]⟩]) <|
  .ret)
  (.skip)) <|
.seq (.draw [⟨(some 20), .ld (some 6), [.r 2], none, [19]⟩,
  ⟨(some 21), .mov, [.r 1], none, [1]⟩,
  ⟨(some 22), .call 17, [.r 21], none, [21]⟩,
  ⟨(some 23), .call 39, [.r 20, .k (.int .i64 0), .r 22], none, [20, 22]⟩,
  ⟨(some 5), .mov, [.r 23], none, [23]⟩] [(0, 2)]) <|
.seq (.seq (.ops [⟨(some 6), .mov, [.k (.int .i64 0)], none, []⟩]) <|
.block 0 (.loop m10_1)) <|
.seq (.ops [⟨(some 71), .mov, [.r 5], none, [2, 6, 28]⟩,
  ⟨(some 72), .call 43, [.r 71], none, [71]⟩,
  ⟨(some 73), .mov, [.r 72], none, [72]⟩,
  ⟨(some 74), .mov, [.r 5], (some (73, true)), [5]⟩,
  ⟨(some 75), .call 42, [.r 74], (some (73, true)), [74]⟩,
  ⟨(some 76), .un .not, [.r 75], (some (73, true)), [75]⟩,
  ⟨(some 77), .pick, [.r 73, .r 76, .k (.bool false)], none, [73, 76]⟩,
  ⟨(some 4), .mov, [.r 77], none, [77]⟩]) <|
.ret⟩
theorem c10 : cFn Try.prog 10 = some m10.bare := by kernel_rfl

/-- 'swingbridge/swingbridgelaw21.JobFull' -/
def m11_0 : MCode := .seq (.seq (.ops [⟨(some 53), .mov, [.r 9], none, []⟩,
      ⟨(some 54), .call 43, [.r 53], none, [53]⟩,
      ⟨(some 55), .un .not, [.r 54], none, [54]⟩,
      ⟨(some 56), .mov, [.r 55], none, [55]⟩,
      ⟨(some 57), .mov, [.r 10], (some (56, true)), []⟩,
      ⟨(some 58), .mov, [.r 6], (some (56, true)), []⟩,
      ⟨(some 59), .bin .leq, [.r 57, .r 58], (some (56, true)), [57, 58]⟩,
      ⟨(some 60), .pick, [.r 56, .r 59, .k (.bool false)], none, [56, 59]⟩]) <|
    .cond (.r 60)
      (.skip)
      (.exit 2)) <|
    .block 3 (.seq (.seq (.draw [⟨(some 61), .mov, [.r 9], none, [60]⟩,
        ⟨(some 62), .call 44, [.r 61], none, [61]⟩,
        ⟨(some 63), .mov, [.r 9], none, []⟩,
        ⟨(some 64), .call 41, [.r 63], none, [63]⟩,
        ⟨(some 65), .bin .rem, [.r 64, .k (.int .i64 3)], none, [64]⟩,
        ⟨(some 66), .bin .add, [.k (.int .i64 1), .r 65], none, [65]⟩,
        ⟨(some 67), .bin .neq, [.r 62, .r 66], none, [62, 66]⟩,
        ⟨(some 68), .mov, [.r 67], none, [67]⟩,
        ⟨(some 69), .mov, [.r 9], (some (68, false)), []⟩,
        ⟨(some 70), .call 40, [.r 69], (some (68, false)), [69]⟩,
        ⟨(some 71), .bin .lss, [.r 70, .k (.int .i64 1)], (some (68, false)), [70]⟩,
        ⟨(some 72), .pick, [.r 68, .k (.bool true), .r 71], none, [68, 71]⟩,
        ⟨(some 73), .mov, [.r 72], none, [72]⟩,
        ⟨(some 74), .mov, [.r 9], (some (73, false)), []⟩,
        ⟨(some 75), .call 40, [.r 74], (some (73, false)), [74]⟩,
        ⟨(some 76), .fa 5, [.r 5], (some (73, false)), []⟩,
        ⟨(some 77), .ld none, [.r 76], (some (73, false)), [76]⟩,
        ⟨(some 78), .mov, [.r 9], (some (73, false)), []⟩,
        ⟨(some 79), .call 41, [.r 78], (some (73, false)), [78]⟩,
        ⟨(some 80), .ia 3, [.r 77, .r 79], (some (73, false)), [77, 79]⟩,
        ⟨(some 81), .fa 1, [.r 80], (some (73, false)), [80]⟩,
        ⟨(some 82), .ld none, [.r 81], (some (73, false)), [81]⟩,
        ⟨(some 83), .bin .gtr, [.r 75, .r 82], (some (73, false)), [75, 82]⟩,
        ⟨(some 84), .pick, [.r 73, .k (.bool true), .r 83], none, [73, 83]⟩] [(16, 14), (16, 18)]) <|
      .cond (.r 84)
        (.seq (.ops [⟨(some 4), .mov, [.k (.bool false)], none, [0, 1, 5, 6, 9, 10, 84]⟩]) <|
        .ret)
        (.skip)) <|
      .seq (.ops [⟨(some 85), .mov, [.r 9], none, [84]⟩,
        ⟨(some 86), .call 42, [.r 85], none, [85, 86]⟩]) <|
      .ops [⟨(some 87), .mov, [.r 10], none, [10]⟩,
        ⟨(some 88), .bin .add, [.r 87, .k (.int .i64 1)], none, [87]⟩,
        ⟨(some 10), .mov, [.r 88], none, [88]⟩])
def m11_1 : MCode := .seq (.seq (.ops [⟨(some 22), .mov, [.r 7], none, []⟩,
      ⟨(some 23), .mov, [.r 0], none, []⟩,
      ⟨(some 24), .len, [.r 23], none, [23]⟩,
      ⟨(some 25), .bin .lss, [.r 22, .r 24], none, [22, 24]⟩]) <|
    .cond (.r 25)
      (.skip)
      (.exit 0)) <|
    .seq (.block 1 (.seq (.ops [⟨(some 28), .mov, [.r 0], none, [25]⟩,
        ⟨(some 29), .mov, [.r 7], none, []⟩,
        ⟨(some 30), .ia 1, [.r 28, .r 29], none, [28, 29]⟩,
        ⟨(some 31), .ld none, [.r 30], none, [30]⟩,
        ⟨(some 32), .bin .rem, [.r 31, .k (.int .u8 60)], none, [31]⟩,
        ⟨(some 33), .conv .i64, [.r 32], none, [32]⟩,
        ⟨(some 34), .bin .add, [.r 33, .k (.int .i64 1)], none, [33]⟩,
        ⟨(some 8), .mov, [.r 34], none, [34]⟩]) <|
      .seq (.ops [⟨(some 35), .fa 5, [.r 5], none, []⟩,
        ⟨(some 36), .ld none, [.r 35], none, [35]⟩,
        ⟨(some 37), .mov, [.r 7], none, []⟩,
        ⟨(some 38), .bin .rem, [.r 37, .k (.int .i64 3)], none, [37]⟩,
        ⟨(some 39), .bin .add, [.k (.int .i64 1), .r 38], none, [38]⟩,
        ⟨(some 40), .mov, [.r 8], none, []⟩,
        ⟨(some 41), .build [.int .i64 0, .int .i64 0, .int .i64 0] [(0, 1), (1, 1)], [.r 39, .r 40], none, [39, 40]⟩,
        ⟨(some 42), .bslice 3 1 [.int .i64 0, .int .i64 0, .int .i64 0] [(0, 3)], [.r 41], none, [41]⟩,
        ⟨(some 43), .app 3 24, [.r 36, .r 42], none, [36, 42]⟩,
        ⟨(some 44), .fa 5, [.r 5], none, []⟩,
        ⟨none, .st 1, [.r 44, .r 43], none, [43, 44]⟩]) <|
      .ops [⟨(some 45), .mov, [.r 6], none, [6]⟩,
        ⟨(some 46), .mov, [.r 8], none, [8]⟩,
        ⟨(some 47), .bin .add, [.r 45, .r 46], none, [45, 46]⟩,
        ⟨(some 6), .mov, [.r 47], none, [47]⟩])) <|
    .ops [⟨(some 26), .mov, [.r 7], none, [7]⟩,
      ⟨(some 27), .bin .add, [.r 26, .k (.int .i64 1)], none, [26]⟩,
      ⟨(some 7), .mov, [.r 27], none, [27]⟩]
def m11 : MFn := ⟨[.tmp 4], .seq (.ops [⟨(some 4), .mov, [.k (.bool false)], none, [4]⟩]) <|
.seq (.seq (.ops [⟨(some 11), .call 37, [], none, []⟩,
  ⟨(some 12), .un .not, [.r 11], none, [11]⟩]) <|
.cond (.r 12)
  (.seq (.ops [⟨(some 4), .mov, [.k (.bool false)], none, [0, 1, 12]⟩]) <|
  .ret)
  (.skip)) <|
.seq (.seq (.ops [⟨(some 13), .mov, [.r 0], none, [12]⟩,
  ⟨(some 14), .len, [.r 13], none, [13]⟩,
  ⟨(some 15), .bin .lss, [.r 14, .k (.int .i64 1)], none, [14]⟩,
  ⟨(some 16), .mov, [.r 15], none, [15]⟩,
  ⟨(some 17), .mov, [.r 0], (some (16, false)), []⟩,
  ⟨(some 18), .len, [.r 17], (some (16, false)), [17]⟩,
  ⟨(some 19), .bin .gtr, [.r 18, .k (.int .i64 6)], (some (16, false)), [18]⟩,
  ⟨(some 20), .pick, [.r 16, .k (.bool true), .r 19], none, [16, 19]⟩]) <|
.cond (.r 20)
  (.seq (.ops [⟨(some 4), .mov, [.k (.bool true)], none, [0, 1, 20]⟩]) <|
  .ret)
  (.skip)) <|
.seq (.ops [⟨(some 21), .build [.string ⟨#[]⟩, .int .i64 0, .int .i64 0, .int .i64 0, .int .i64 0, .slice none 0 0] [], [], none, [20]⟩,
  ⟨(some 5), .new 0 [.string ⟨#[]⟩, .int .i64 0, .int .i64 0, .int .i64 0, .int .i64 0, .slice none 0 0], [], none, []⟩,
  ⟨none, .st 6, [.r 5, .r 21], none, [21]⟩]) <|
.seq (.ops [⟨(some 6), .mov, [.k (.int .i64 0)], none, []⟩]) <|
.seq (.seq (.ops [⟨(some 7), .mov, [.k (.int .i64 0)], none, []⟩]) <|
.block 0 (.loop m11_1)) <|
.seq (.draw [⟨(some 48), .ld (some 6), [.r 5], none, [7, 25]⟩,
  ⟨(some 49), .mov, [.r 1], none, []⟩,
  ⟨(some 50), .conv .i64, [.r 49], none, [49]⟩,
  ⟨(some 51), .call 17, [.k (.slice none 0 0)], none, []⟩,
  ⟨(some 52), .call 39, [.r 48, .r 50, .r 51], none, [48, 50, 51]⟩,
  ⟨(some 9), .mov, [.r 52], none, [52]⟩] [(0, 3)]) <|
.seq (.ops [⟨(some 10), .mov, [.k (.int .i64 0)], none, []⟩]) <|
.seq (.block 2 (.loop m11_0)) <|
.seq (.ops [⟨(some 89), .mov, [.r 10], none, [5, 10, 60]⟩,
  ⟨(some 90), .mov, [.r 6], none, [6]⟩,
  ⟨(some 91), .bin .eql, [.r 89, .r 90], none, [89, 90]⟩,
  ⟨(some 92), .mov, [.r 91], none, [91]⟩,
  ⟨(some 93), .mov, [.r 9], (some (92, true)), []⟩,
  ⟨(some 94), .call 45, [.r 93], (some (92, true)), [93]⟩,
  ⟨(some 95), .mov, [.r 1], (some (92, true)), [1]⟩,
  ⟨(some 96), .conv .i64, [.r 95], (some (92, true)), [95]⟩,
  ⟨(some 97), .bin .eql, [.r 94, .r 96], (some (92, true)), [94, 96]⟩,
  ⟨(some 98), .pick, [.r 92, .r 97, .k (.bool false)], none, [92, 97]⟩,
  ⟨(some 99), .mov, [.r 98], none, [98]⟩,
  ⟨(some 100), .mov, [.r 9], (some (99, true)), [9]⟩,
  ⟨(some 101), .call 41, [.r 100], (some (99, true)), [100]⟩,
  ⟨(some 102), .mov, [.r 0], (some (99, true)), [0]⟩,
  ⟨(some 103), .len, [.r 102], (some (99, true)), [102]⟩,
  ⟨(some 104), .bin .eql, [.r 101, .r 103], (some (99, true)), [101, 103]⟩,
  ⟨(some 105), .pick, [.r 99, .r 104, .k (.bool false)], none, [99, 104]⟩,
  ⟨(some 4), .mov, [.r 105], none, [105]⟩]) <|
.ret⟩
theorem c11 : cFn Try.prog 11 = some m11.bare := by kernel_rfl

/-- 'swingbridge/swingbridgelaw21.JobPlays' -/
def m12_0 : MCode := .seq (.seq (.ops [⟨(some 38), .mov, [.r 13], none, []⟩,
      ⟨(some 39), .mov, [.r 3], none, []⟩,
      ⟨(some 40), .conv .i64, [.r 39], none, [39]⟩,
      ⟨(some 41), .bin .leq, [.r 38, .r 40], none, [38, 40]⟩]) <|
    .cond (.r 41)
      (.skip)
      (.exit 0)) <|
    .seq (.block 1 (.seq (.seq (.draw [⟨(some 44), .mov, [.r 11], none, [41]⟩,
        ⟨(some 45), .call 45, [.r 44], none, [44]⟩,
        ⟨(some 46), .mov, [.r 1], none, []⟩,
        ⟨(some 47), .bin .neq, [.r 45, .r 46], none, [45, 46]⟩,
        ⟨(some 48), .mov, [.r 47], none, [47]⟩,
        ⟨(some 49), .mov, [.r 11], (some (48, false)), []⟩,
        ⟨(some 50), .call 41, [.r 49], (some (48, false)), [49]⟩,
        ⟨(some 51), .mov, [.r 12], (some (48, false)), []⟩,
        ⟨(some 52), .nilck, [.r 51], (some (48, false)), [51]⟩,
        ⟨(some 53), .fa 7, [.r 52], (some (48, false)), [52]⟩,
        ⟨(some 54), .ld none, [.r 53], (some (48, false)), [53]⟩,
        ⟨(some 55), .bin .neq, [.r 50, .r 54], (some (48, false)), [50, 54]⟩,
        ⟨(some 56), .pick, [.r 48, .k (.bool true), .r 55], none, [48, 55]⟩,
        ⟨(some 57), .mov, [.r 56], none, [56]⟩,
        ⟨(some 58), .mov, [.r 11], (some (57, false)), []⟩,
        ⟨(some 59), .call 44, [.r 58], (some (57, false)), [58]⟩,
        ⟨(some 60), .mov, [.r 12], (some (57, false)), []⟩,
        ⟨(some 61), .call 47, [.r 60], (some (57, false)), [60]⟩,
        ⟨(some 62), .bin .neq, [.r 59, .r 61], (some (57, false)), [59, 61]⟩,
        ⟨(some 63), .pick, [.r 57, .k (.bool true), .r 62], none, [57, 62]⟩,
        ⟨(some 64), .mov, [.r 63], none, [63]⟩,
        ⟨(some 65), .mov, [.r 11], (some (64, false)), []⟩,
        ⟨(some 66), .call 40, [.r 65], (some (64, false)), [65]⟩,
        ⟨(some 67), .mov, [.r 12], (some (64, false)), []⟩,
        ⟨(some 68), .nilck, [.r 67], (some (64, false)), [67]⟩,
        ⟨(some 69), .fa 8, [.r 68], (some (64, false)), [68]⟩,
        ⟨(some 70), .ld none, [.r 69], (some (64, false)), [69]⟩,
        ⟨(some 71), .bin .neq, [.r 66, .r 70], (some (64, false)), [66, 70]⟩,
        ⟨(some 72), .pick, [.r 64, .k (.bool true), .r 71], none, [64, 71]⟩,
        ⟨(some 73), .mov, [.r 72], none, [72]⟩,
        ⟨(some 74), .mov, [.r 11], (some (73, false)), []⟩,
        ⟨(some 75), .call 48, [.r 74], (some (73, false)), [74]⟩,
        ⟨(some 76), .mov, [.r 12], (some (73, false)), []⟩,
        ⟨(some 77), .call 49, [.r 76], (some (73, false)), [76]⟩,
        ⟨(some 78), .bin .neq, [.r 75, .r 77], (some (73, false)), [75, 77]⟩,
        ⟨(some 79), .pick, [.r 73, .k (.bool true), .r 78], none, [73, 78]⟩,
        ⟨(some 80), .mov, [.r 79], none, [79]⟩,
        ⟨(some 81), .mov, [.r 11], (some (80, false)), []⟩,
        ⟨(some 82), .call 43, [.r 81], (some (80, false)), [81]⟩,
        ⟨(some 83), .mov, [.r 12], (some (80, false)), []⟩,
        ⟨(some 84), .call 50, [.r 83], (some (80, false)), [83]⟩,
        ⟨(some 85), .eqv true .bool, [.r 82, .r 84], (some (80, false)), [82, 84]⟩,
        ⟨(some 86), .pick, [.r 80, .k (.bool true), .r 85], none, [80, 85]⟩,
        ⟨(some 87), .mov, [.r 86], none, [86]⟩,
        ⟨(some 88), .mov, [.r 9], (some (87, false)), []⟩,
        ⟨(some 89), .call 21, [.r 88], (some (87, false)), [88]⟩,
        ⟨(some 90), .mov, [.r 10], (some (87, false)), []⟩,
        ⟨(some 91), .nilck, [.r 90], (some (87, false)), [90]⟩,
        ⟨(some 92), .fa 1, [.r 91], (some (87, false)), [91]⟩,
        ⟨(some 93), .ld none, [.r 92], (some (87, false)), [92]⟩,
        ⟨(some 94), .bin .neq, [.r 89, .r 93], (some (87, false)), [89, 93]⟩,
        ⟨(some 95), .pick, [.r 87, .k (.bool true), .r 94], none, [87, 94]⟩] [(10, 6), (26, 22), (49, 45)]) <|
      .cond (.r 95)
        (.seq (.ops [⟨(some 8), .mov, [.k (.bool false)], none, [1, 3, 9, 10, 11, 12, 13, 95]⟩]) <|
        .ret)
        (.skip)) <|
      .seq (.ops [⟨(some 96), .mov, [.r 11], none, [95]⟩,
        ⟨(some 97), .mov, [.r 9], none, []⟩,
        ⟨(some 98), .call 18, [.r 97], none, [97]⟩,
        ⟨(some 99), .call 51, [.r 96, .r 98], none, [96, 98]⟩,
        ⟨(some 14), .mov, [.r 99], none, [99]⟩]) <|
      .seq (.ops [⟨(some 100), .mov, [.r 14], none, [14]⟩,
        ⟨(some 101), .call 42, [.r 100], none, [100, 101]⟩]) <|
      .seq (.ops [⟨(some 102), .mov, [.r 11], none, []⟩,
        ⟨(some 103), .call 42, [.r 102], none, [102]⟩,
        ⟨(some 104), .mov, [.r 12], none, []⟩,
        ⟨(some 105), .call 52, [.r 104], none, [104]⟩,
        ⟨(some 106), .eqv true .bool, [.r 103, .r 105], none, [103, 105]⟩]) <|
      .cond (.r 106)
        (.seq (.ops [⟨(some 8), .mov, [.k (.bool false)], none, [1, 3, 9, 10, 11, 12, 13, 106]⟩]) <|
        .ret)
        (.skip))) <|
    .ops [⟨(some 42), .mov, [.r 13], none, [13, 106]⟩,
      ⟨(some 43), .bin .add, [.r 42, .k (.int .i64 1)], none, [42]⟩,
      ⟨(some 13), .mov, [.r 43], none, [43]⟩]
def m12 : MFn := ⟨[.tmp 8], .seq (.ops [⟨(some 4), .box, [.r 0], none, [0]⟩,
  ⟨(some 8), .mov, [.k (.bool false)], none, [8]⟩]) <|
.seq (.seq (.ops [⟨(some 15), .call 37, [], none, []⟩,
  ⟨(some 16), .un .not, [.r 15], none, [15]⟩]) <|
.cond (.r 16)
  (.seq (.ops [⟨(some 8), .mov, [.k (.bool false)], none, [1, 2, 3, 4, 16]⟩]) <|
  .ret)
  (.skip)) <|
.seq (.seq (.ops [⟨(some 17), .ld (some 6), [.r 4], none, [16]⟩,
  ⟨(some 18), .call 38, [.r 17], none, [17]⟩,
  ⟨(some 19), .un .not, [.r 18], none, [18]⟩,
  ⟨(some 20), .mov, [.r 19], none, [19]⟩,
  ⟨(some 21), .mov, [.r 2], (some (20, false)), []⟩,
  ⟨(some 22), .len, [.r 21], (some (20, false)), [21]⟩,
  ⟨(some 23), .bin .gtr, [.r 22, .k (.int .i64 60)], (some (20, false)), [22]⟩,
  ⟨(some 24), .pick, [.r 20, .k (.bool true), .r 23], none, [20, 23]⟩]) <|
.cond (.r 24)
  (.seq (.ops [⟨(some 8), .mov, [.k (.bool true)], none, [1, 2, 3, 4, 24]⟩]) <|
  .ret)
  (.skip)) <|
.seq (.ops [⟨(some 25), .mov, [.r 2], none, [24]⟩,
  ⟨(some 26), .call 17, [.r 25], none, [25]⟩,
  ⟨(some 27), .mov, [.r 2], none, [2]⟩,
  ⟨(some 28), .build [.slice none 0 0, .int .i64 0] [(0, 1)], [.r 27], none, [27]⟩,
  ⟨(some 29), .box, [.r 28], none, [28]⟩,
  ⟨(some 9), .mov, [.r 26], none, [26]⟩,
  ⟨(some 10), .mov, [.r 29], none, [29]⟩]) <|
.seq (.draw [⟨(some 30), .ld (some 6), [.r 4], none, []⟩,
  ⟨(some 31), .mov, [.r 1], none, []⟩,
  ⟨(some 32), .mov, [.r 9], none, []⟩,
  ⟨(some 33), .call 39, [.r 30, .r 31, .r 32], none, [30, 31, 32]⟩,
  ⟨(some 34), .ld (some 6), [.r 4], none, [4]⟩,
  ⟨(some 35), .mov, [.r 1], none, []⟩,
  ⟨(some 36), .mov, [.r 10], none, []⟩,
  ⟨(some 37), .call 46, [.r 34, .r 35, .r 36], none, [34, 35, 36]⟩,
  ⟨(some 11), .mov, [.r 33], none, [33]⟩,
  ⟨(some 12), .mov, [.r 37], none, [37]⟩] [(4, 3)]) <|
.seq (.seq (.ops [⟨(some 13), .mov, [.k (.int .i64 0)], none, []⟩]) <|
.block 0 (.loop m12_0)) <|
.seq (.ops [⟨(some 8), .mov, [.k (.bool true)], none, [1, 3, 9, 10, 11, 12, 13, 41]⟩]) <|
.ret⟩
theorem c12 : cFn Try.prog 12 = some m12.bare := by kernel_rfl

/-- 'swingbridge/swingbridgelaw21.known' -/
def m37 : MFn := ⟨[.tmp 0], .seq (.ops [⟨(some 0), .mov, [.k (.bool false)], none, [0]⟩]) <|
.seq (.ops [⟨(some 11), .call 17, [.k (.slice none 0 0)], none, []⟩,
  ⟨(some 1), .mov, [.r 11], none, [11]⟩]) <|
.seq (.seq (.ops [⟨(some 12), .mov, [.r 1], none, []⟩,
  ⟨(some 13), .eqv false .ptr, [.r 12, .k (.pointer none)], none, [12]⟩]) <|
.cond (.r 13)
  (.seq (.ops [⟨(some 0), .mov, [.k (.bool false)], none, [1, 13]⟩]) <|
  .ret)
  (.skip)) <|
.seq (.ops [⟨(some 14), .build [.int .i64 0, .int .i64 0, .int .i64 0] [(0, 1), (1, 1)], [.k (.int .i64 1), .k (.int .i64 2)], none, [13]⟩,
  ⟨(some 15), .build [.int .i64 0, .int .i64 0, .int .i64 0] [(0, 1), (1, 1), (2, 1)], [.k (.int .i64 3), .k (.int .i64 1), .k (.int .i64 3)], none, []⟩,
  ⟨(some 16), .bslice 3 2 [.int .i64 0, .int .i64 0, .int .i64 0] [(0, 3), (3, 3)], [.r 14, .r 15], none, [14, 15]⟩,
  ⟨(some 17), .build [.string ⟨#[]⟩, .int .i64 0, .int .i64 0, .int .i64 0, .int .i64 0, .slice none 0 0] [(5, 1)], [.r 16], none, [16]⟩,
  ⟨(some 18), .mov, [.r 1], none, [1]⟩,
  ⟨(some 19), .call 39, [.r 17, .k (.int .i64 5), .r 18], none, [17, 18]⟩,
  ⟨(some 2), .mov, [.r 19], none, [19]⟩]) <|
.seq (.seq (.ops [⟨(some 20), .mov, [.r 2], none, []⟩,
  ⟨(some 21), .eqv false .ptr, [.r 20, .k (.pointer none)], none, [20]⟩]) <|
.cond (.r 21)
  (.seq (.ops [⟨(some 0), .mov, [.k (.bool false)], none, [2, 21]⟩]) <|
  .ret)
  (.skip)) <|
.seq (.ops [⟨(some 22), .mov, [.r 2], none, [21]⟩,
  ⟨(some 23), .call 42, [.r 22], none, [22]⟩,
  ⟨(some 24), .mov, [.r 2], none, []⟩,
  ⟨(some 25), .call 42, [.r 24], none, [24]⟩,
  ⟨(some 3), .mov, [.r 23], none, [23]⟩,
  ⟨(some 4), .mov, [.r 25], none, [25]⟩]) <|
.seq (.ops [⟨(some 26), .mov, [.r 2], none, []⟩,
  ⟨(some 27), .call 41, [.r 26], none, [26]⟩,
  ⟨(some 28), .mov, [.r 2], none, []⟩,
  ⟨(some 29), .call 44, [.r 28], none, [28]⟩,
  ⟨(some 30), .mov, [.r 2], none, []⟩,
  ⟨(some 31), .call 48, [.r 30], none, [30]⟩,
  ⟨(some 5), .mov, [.r 27], none, [27]⟩,
  ⟨(some 6), .mov, [.r 29], none, [29]⟩,
  ⟨(some 7), .mov, [.r 31], none, [31]⟩]) <|
.seq (.ops [⟨(some 32), .mov, [.r 2], none, []⟩,
  ⟨(some 33), .call 17, [.k (.slice none 0 0)], none, []⟩,
  ⟨(some 34), .call 51, [.r 32, .r 33], none, [32, 33]⟩,
  ⟨(some 8), .mov, [.r 34], none, [34]⟩]) <|
.seq (.ops [⟨(some 35), .mov, [.r 2], none, []⟩,
  ⟨(some 36), .call 42, [.r 35], none, [35]⟩,
  ⟨(some 37), .mov, [.r 2], none, []⟩,
  ⟨(some 38), .call 42, [.r 37], none, [37]⟩,
  ⟨(some 9), .mov, [.r 36], none, [36]⟩,
  ⟨(some 10), .mov, [.r 38], none, [38]⟩]) <|
.seq (.ops [⟨(some 39), .mov, [.r 2], none, []⟩,
  ⟨(some 40), .call 45, [.r 39], none, [39]⟩,
  ⟨(some 41), .bin .eql, [.r 40, .k (.int .i64 5)], none, [40]⟩,
  ⟨(some 42), .mov, [.r 41], none, [41]⟩,
  ⟨(some 43), .mov, [.r 3], (some (42, true)), [3]⟩,
  ⟨(some 44), .un .not, [.r 43], (some (42, true)), [43]⟩,
  ⟨(some 45), .pick, [.r 42, .r 44, .k (.bool false)], none, [42, 44]⟩,
  ⟨(some 46), .mov, [.r 45], none, [45]⟩,
  ⟨(some 47), .mov, [.r 4], (some (46, true)), [4]⟩,
  ⟨(some 48), .pick, [.r 46, .r 47, .k (.bool false)], none, [46, 47]⟩,
  ⟨(some 49), .mov, [.r 48], none, [48]⟩,
  ⟨(some 50), .mov, [.r 5], (some (49, true)), [5]⟩,
  ⟨(some 51), .bin .eql, [.r 50, .k (.int .i64 1)], (some (49, true)), [50]⟩,
  ⟨(some 52), .pick, [.r 49, .r 51, .k (.bool false)], none, [49, 51]⟩,
  ⟨(some 53), .mov, [.r 52], none, [52]⟩,
  ⟨(some 54), .mov, [.r 6], (some (53, true)), [6]⟩,
  ⟨(some 55), .bin .eql, [.r 54, .k (.int .i64 3)], (some (53, true)), [54]⟩,
  ⟨(some 56), .pick, [.r 53, .r 55, .k (.bool false)], none, [53, 55]⟩,
  ⟨(some 57), .mov, [.r 56], none, [56]⟩,
  ⟨(some 58), .mov, [.r 7], (some (57, true)), [7]⟩,
  ⟨(some 59), .bin .eql, [.r 58, .k (.int .i64 3)], (some (57, true)), [58]⟩,
  ⟨(some 60), .pick, [.r 57, .r 59, .k (.bool false)], none, [57, 59]⟩,
  ⟨(some 61), .mov, [.r 60], none, [60]⟩,
  ⟨(some 62), .mov, [.r 8], (some (61, true)), []⟩,
  ⟨(some 63), .eqv true .ptr, [.r 62, .k (.pointer none)], (some (61, true)), [62]⟩,
  ⟨(some 64), .pick, [.r 61, .r 63, .k (.bool false)], none, [61, 63]⟩,
  ⟨(some 65), .mov, [.r 64], none, [64]⟩,
  ⟨(some 66), .mov, [.r 8], (some (65, true)), []⟩,
  ⟨(some 67), .call 41, [.r 66], (some (65, true)), [66]⟩,
  ⟨(some 68), .bin .eql, [.r 67, .k (.int .i64 1)], (some (65, true)), [67]⟩,
  ⟨(some 69), .pick, [.r 65, .r 68, .k (.bool false)], none, [65, 68]⟩,
  ⟨(some 70), .mov, [.r 69], none, [69]⟩,
  ⟨(some 71), .mov, [.r 9], (some (70, true)), [9]⟩,
  ⟨(some 72), .pick, [.r 70, .r 71, .k (.bool false)], none, [70, 71]⟩,
  ⟨(some 73), .mov, [.r 72], none, [72]⟩,
  ⟨(some 74), .mov, [.r 10], (some (73, true)), [10]⟩,
  ⟨(some 75), .un .not, [.r 74], (some (73, true)), [74]⟩,
  ⟨(some 76), .pick, [.r 73, .r 75, .k (.bool false)], none, [73, 75]⟩,
  ⟨(some 77), .mov, [.r 76], none, [76]⟩,
  ⟨(some 78), .mov, [.r 2], (some (77, true)), []⟩,
  ⟨(some 79), .call 43, [.r 78], (some (77, true)), [78]⟩,
  ⟨(some 80), .pick, [.r 77, .r 79, .k (.bool false)], none, [77, 79]⟩,
  ⟨(some 81), .mov, [.r 80], none, [80]⟩,
  ⟨(some 82), .mov, [.r 2], (some (81, true)), []⟩,
  ⟨(some 83), .call 41, [.r 82], (some (81, true)), [82]⟩,
  ⟨(some 84), .bin .eql, [.r 83, .k (.int .i64 2)], (some (81, true)), [83]⟩,
  ⟨(some 85), .pick, [.r 81, .r 84, .k (.bool false)], none, [81, 84]⟩,
  ⟨(some 86), .mov, [.r 85], none, [85]⟩,
  ⟨(some 87), .mov, [.r 2], (some (86, true)), []⟩,
  ⟨(some 88), .call 40, [.r 87], (some (86, true)), [87]⟩,
  ⟨(some 89), .bin .eql, [.r 88, .k (.int .i64 0)], (some (86, true)), [88]⟩,
  ⟨(some 90), .pick, [.r 86, .r 89, .k (.bool false)], none, [86, 89]⟩,
  ⟨(some 91), .mov, [.r 90], none, [90]⟩,
  ⟨(some 92), .mov, [.r 2], (some (91, true)), [2]⟩,
  ⟨(some 93), .call 44, [.r 92], (some (91, true)), [92]⟩,
  ⟨(some 94), .bin .eql, [.r 93, .k (.int .i64 0)], (some (91, true)), [93]⟩,
  ⟨(some 95), .pick, [.r 91, .r 94, .k (.bool false)], none, [91, 94]⟩,
  ⟨(some 96), .mov, [.r 95], none, [95]⟩,
  ⟨(some 97), .mov, [.r 8], (some (96, true)), [8]⟩,
  ⟨(some 98), .call 43, [.r 97], (some (96, true)), [97]⟩,
  ⟨(some 99), .un .not, [.r 98], (some (96, true)), [98]⟩,
  ⟨(some 100), .pick, [.r 96, .r 99, .k (.bool false)], none, [96, 99]⟩,
  ⟨(some 0), .mov, [.r 100], none, [100]⟩]) <|
.ret⟩
theorem c37 : cFn Try.prog 37 = some m37.bare := by kernel_rfl

/-- 'swingbridge/swingbridgelaw21.fits' -/
def m38_0 : MCode := .seq (.seq (.ops [⟨(some 4), .mov, [.r 3], none, []⟩,
      ⟨(some 5), .fa 5, [.r 1], none, []⟩,
      ⟨(some 6), .ld none, [.r 5], none, [5]⟩,
      ⟨(some 7), .len, [.r 6], none, [6]⟩,
      ⟨(some 8), .bin .lss, [.r 4, .r 7], none, [4, 7]⟩]) <|
    .cond (.r 8)
      (.skip)
      (.exit 0)) <|
    .seq (.block 1 (.seq (.ops [⟨(some 11), .fa 5, [.r 1], none, [8]⟩,
        ⟨(some 12), .ld none, [.r 11], none, [11]⟩,
        ⟨(some 13), .mov, [.r 3], none, []⟩,
        ⟨(some 14), .ia 3, [.r 12, .r 13], none, [12, 13]⟩,
        ⟨(some 15), .fa 1, [.r 14], none, [14]⟩,
        ⟨(some 16), .ld none, [.r 15], none, [15]⟩,
        ⟨(some 17), .bin .lss, [.r 16, .k (.int .i64 1)], none, [16]⟩,
        ⟨(some 18), .mov, [.r 17], none, [17]⟩,
        ⟨(some 19), .fa 5, [.r 1], (some (18, false)), []⟩,
        ⟨(some 20), .ld none, [.r 19], (some (18, false)), [19]⟩,
        ⟨(some 21), .mov, [.r 3], (some (18, false)), []⟩,
        ⟨(some 22), .ia 3, [.r 20, .r 21], (some (18, false)), [20, 21]⟩,
        ⟨(some 23), .fa 1, [.r 22], (some (18, false)), [22]⟩,
        ⟨(some 24), .ld none, [.r 23], (some (18, false)), [23]⟩,
        ⟨(some 25), .bin .gtr, [.r 24, .k (.int .i64 200)], (some (18, false)), [24]⟩,
        ⟨(some 26), .pick, [.r 18, .k (.bool true), .r 25], none, [18, 25]⟩]) <|
      .cond (.r 26)
        (.seq (.ops [⟨(some 2), .mov, [.k (.bool false)], none, [1, 3, 26]⟩]) <|
        .ret)
        (.skip))) <|
    .ops [⟨(some 9), .mov, [.r 3], none, [3, 26]⟩,
      ⟨(some 10), .bin .add, [.r 9, .k (.int .i64 1)], none, [9]⟩,
      ⟨(some 3), .mov, [.r 10], none, [10]⟩]
def m38 : MFn := ⟨[.tmp 2], .seq (.ops [⟨(some 1), .box, [.r 0], none, [0]⟩,
  ⟨(some 2), .mov, [.k (.bool false)], none, [2]⟩]) <|
.seq (.seq (.ops [⟨(some 3), .mov, [.k (.int .i64 0)], none, []⟩]) <|
.block 0 (.loop m38_0)) <|
.seq (.ops [⟨(some 27), .fa 5, [.r 1], none, [3, 8]⟩,
  ⟨(some 28), .ld none, [.r 27], none, [27]⟩,
  ⟨(some 29), .len, [.r 28], none, [28]⟩,
  ⟨(some 30), .bin .geq, [.r 29, .k (.int .i64 1)], none, [29]⟩,
  ⟨(some 31), .mov, [.r 30], none, [30]⟩,
  ⟨(some 32), .fa 5, [.r 1], (some (31, true)), [1]⟩,
  ⟨(some 33), .ld none, [.r 32], (some (31, true)), [32]⟩,
  ⟨(some 34), .len, [.r 33], (some (31, true)), [33]⟩,
  ⟨(some 35), .bin .leq, [.r 34, .k (.int .i64 10)], (some (31, true)), [34]⟩,
  ⟨(some 36), .pick, [.r 31, .r 35, .k (.bool false)], none, [31, 35]⟩,
  ⟨(some 2), .mov, [.r 36], none, [36]⟩]) <|
.ret⟩
theorem c38 : cFn Try.prog 38 = some m38.bare := by kernel_rfl

/-- 'swingbridge/job.New' -/
def m39 : MFn := ⟨[.tmp 6], .seq (.ops [⟨(some 3), .box, [.r 0], none, [0]⟩,
  ⟨(some 6), .mov, [.k (.pointer none)], none, [6]⟩]) <|
.seq (.ops [⟨(some 8), .fa 5, [.r 3], none, [3]⟩,
  ⟨(some 9), .ld none, [.r 8], none, [8]⟩,
  ⟨(some 10), .call 70, [.r 9], none, [9]⟩,
  ⟨(some 11), .mov, [.r 1], none, [1]⟩,
  ⟨(some 12), .mov, [.r 2], none, [2]⟩,
  ⟨(some 13), .build [.slice none 0 0, .int .i64 0, .int .i64 0, .int .i64 0, .pointer none] [(0, 1), (3, 1), (4, 1)], [.r 10, .r 11, .r 12], none, [10, 11, 12]⟩,
  ⟨(some 14), .box, [.r 13], none, [13]⟩,
  ⟨(some 7), .mov, [.r 14], none, [14]⟩]) <|
.seq (.ops [⟨(some 15), .mov, [.r 7], none, []⟩,
  ⟨(some 16), .call 71, [.r 15], none, [15, 16]⟩]) <|
.seq (.ops [⟨(some 17), .mov, [.r 7], none, [7]⟩,
  ⟨(some 6), .mov, [.r 17], none, [17]⟩]) <|
.ret⟩
theorem c39 : cFn Try.prog 39 = some m39.bare := by kernel_rfl

/-- '(*swingbridge/job.Job).Left' -/
def m40 : MFn := ⟨[.tmp 2], .seq (.ops [⟨(some 2), .mov, [.k (.int .i64 0)], none, [2]⟩]) <|
.seq (.ops [⟨(some 3), .mov, [.r 0], none, [0]⟩,
  ⟨(some 4), .nilck, [.r 3], none, [3]⟩,
  ⟨(some 5), .fa 2, [.r 4], none, [4]⟩,
  ⟨(some 6), .ld none, [.r 5], none, [5]⟩,
  ⟨(some 2), .mov, [.r 6], none, [6]⟩]) <|
.ret⟩
theorem c40 : cFn Try.prog 40 = some m40.bare := by kernel_rfl

/-- '(*swingbridge/job.Job).Part' -/
def m41 : MFn := ⟨[.tmp 2], .seq (.ops [⟨(some 2), .mov, [.k (.int .i64 0)], none, [2]⟩]) <|
.seq (.ops [⟨(some 3), .mov, [.r 0], none, [0]⟩,
  ⟨(some 4), .nilck, [.r 3], none, [3]⟩,
  ⟨(some 5), .fa 1, [.r 4], none, [4]⟩,
  ⟨(some 6), .ld none, [.r 5], none, [5]⟩,
  ⟨(some 2), .mov, [.r 6], none, [6]⟩]) <|
.ret⟩
theorem c41 : cFn Try.prog 41 = some m41.bare := by kernel_rfl

/-- '(*swingbridge/job.Job).Tick' -/
def m42 : MFn := ⟨[.tmp 2], .seq (.ops [⟨(some 2), .mov, [.k (.bool false)], none, [2]⟩]) <|
.seq (.skip) <|
.seq (.block 0 (.seq (.ops [⟨(some 16), .mov, [.r 0], none, []⟩,
    ⟨(some 17), .call 43, [.r 16], none, [16]⟩,
    ⟨(some 15), .mov, [.r 17], none, [17]⟩]) <|
  .cond (.r 15)
    (.exit 0)
    (.seq (.ops [⟨(some 19), .mov, [.r 0], none, [15]⟩,
      ⟨(some 20), .nilck, [.r 19], none, [19]⟩,
      ⟨(some 21), .fa 2, [.r 20], none, [20]⟩,
      ⟨(some 22), .ld none, [.r 21], none, [21]⟩,
      ⟨(some 23), .bin .gtr, [.r 22, .k (.int .i64 1)], none, [22]⟩,
      ⟨(some 18), .mov, [.r 23], none, [23]⟩]) <|
    .cond (.r 18)
      (.ops [⟨(some 24), .mov, [.r 0], none, [0, 18]⟩,
        ⟨(some 25), .nilck, [.r 24], none, []⟩,
        ⟨(some 26), .fa 2, [.r 25], none, [25]⟩,
        ⟨(some 27), .ld none, [.r 26], none, [26]⟩,
        ⟨(some 28), .bin .sub, [.r 27, .k (.int .i64 1)], none, [27]⟩,
        ⟨(some 29), .nilck, [.r 24], none, [24]⟩,
        ⟨(some 30), .fa 2, [.r 29], none, [29]⟩,
        ⟨none, .st 1, [.r 30, .r 28], none, [28, 30]⟩])
      (.seq (.ops [⟨(some 3), .mov, [.r 0], none, [18]⟩,
        ⟨(some 4), .nilck, [.r 3], none, []⟩,
        ⟨(some 5), .fa 1, [.r 4], none, [4]⟩,
        ⟨(some 6), .ld none, [.r 5], none, [5]⟩,
        ⟨(some 7), .bin .add, [.r 6, .k (.int .i64 1)], none, [6]⟩,
        ⟨(some 8), .nilck, [.r 3], none, [3]⟩,
        ⟨(some 9), .fa 1, [.r 8], none, [8]⟩,
        ⟨none, .st 1, [.r 9, .r 7], none, [7, 9]⟩]) <|
      .seq (.ops [⟨(some 10), .mov, [.r 0], none, []⟩,
        ⟨(some 11), .nilck, [.r 10], none, [10]⟩,
        ⟨(some 12), .fa 2, [.r 11], none, [11]⟩,
        ⟨none, .st 1, [.r 12, .k (.int .i64 0)], none, [12]⟩]) <|
      .seq (.ops [⟨(some 13), .mov, [.r 0], none, [0]⟩,
        ⟨(some 14), .call 71, [.r 13], none, [13, 14]⟩]) <|
      .seq (.ops [⟨(some 2), .mov, [.k (.bool true)], none, []⟩]) <|
      .ret)))) <|
.seq (.ops [⟨(some 2), .mov, [.k (.bool false)], none, [0, 15]⟩]) <|
.ret⟩
theorem c42 : cFn Try.prog 42 = some m42.bare := by kernel_rfl

/-- '(*swingbridge/job.Job).Over' -/
def m43 : MFn := ⟨[.tmp 2], .seq (.ops [⟨(some 2), .mov, [.k (.bool false)], none, [2]⟩]) <|
.seq (.draw [⟨(some 3), .mov, [.r 0], none, []⟩,
  ⟨(some 4), .nilck, [.r 3], none, [3]⟩,
  ⟨(some 5), .fa 1, [.r 4], none, [4]⟩,
  ⟨(some 6), .ld none, [.r 5], none, [5]⟩,
  ⟨(some 7), .mov, [.r 0], none, [0]⟩,
  ⟨(some 8), .nilck, [.r 7], none, [7]⟩,
  ⟨(some 9), .fa 0, [.r 8], none, [8]⟩,
  ⟨(some 10), .ld none, [.r 9], none, [9]⟩,
  ⟨(some 11), .len, [.r 10], none, [10]⟩,
  ⟨(some 12), .bin .geq, [.r 6, .r 11], none, [6, 11]⟩,
  ⟨(some 2), .mov, [.r 12], none, [12]⟩] []) <|
.ret⟩
theorem c43 : cFn Try.prog 43 = some m43.bare := by kernel_rfl

/-- '(*swingbridge/job.Job).Kind' -/
def m44 : MFn := ⟨[.tmp 2], .seq (.ops [⟨(some 2), .mov, [.k (.int .i64 0)], none, [2]⟩]) <|
.seq (.ops [⟨(some 3), .mov, [.r 0], none, [0]⟩,
  ⟨(some 4), .call 72, [.r 3], none, [3]⟩,
  ⟨(some 5), .fld 0 none, [.r 4], none, [4]⟩,
  ⟨(some 2), .mov, [.r 5], none, [5]⟩]) <|
.ret⟩
theorem c44 : cFn Try.prog 44 = some m44.bare := by kernel_rfl

/-- '(*swingbridge/job.Job).Release' -/
def m45 : MFn := ⟨[.tmp 2], .seq (.ops [⟨(some 2), .mov, [.k (.int .i64 0)], none, [2]⟩]) <|
.seq (.ops [⟨(some 3), .mov, [.r 0], none, [0]⟩,
  ⟨(some 4), .nilck, [.r 3], none, [3]⟩,
  ⟨(some 5), .fa 3, [.r 4], none, [4]⟩,
  ⟨(some 6), .ld none, [.r 5], none, [5]⟩,
  ⟨(some 2), .mov, [.r 6], none, [6]⟩]) <|
.ret⟩
theorem c45 : cFn Try.prog 45 = some m45.bare := by kernel_rfl

/-- 'swingbridge/swingbridgeref20.New' -/
def m46 : MFn := ⟨[.tmp 6], .seq (.ops [⟨(some 3), .box, [.r 0], none, [0]⟩,
  ⟨(some 6), .mov, [.k (.pointer none)], none, [6]⟩]) <|
.seq (.ops [⟨(some 8), .ld (some 6), [.r 3], none, [3]⟩,
  ⟨(some 9), .mov, [.r 1], none, [1]⟩,
  ⟨(some 10), .mov, [.r 2], none, [2]⟩,
  ⟨(some 11), .build [.string ⟨#[]⟩, .int .i64 0, .int .i64 0, .int .i64 0, .int .i64 0, .slice none 0 0, .int .i64 0, .int .i64 0, .int .i64 0, .pointer none] [(0, 6), (6, 1), (9, 1)], [.r 8, .r 9, .r 10], none, [8, 9, 10]⟩,
  ⟨(some 12), .box, [.r 11], none, [11]⟩,
  ⟨(some 7), .mov, [.r 12], none, [12]⟩]) <|
.seq (.ops [⟨(some 13), .mov, [.r 7], none, []⟩,
  ⟨(some 14), .call 73, [.r 13], none, [13, 14]⟩]) <|
.seq (.ops [⟨(some 15), .mov, [.r 7], none, [7]⟩,
  ⟨(some 6), .mov, [.r 15], none, [15]⟩]) <|
.ret⟩
theorem c46 : cFn Try.prog 46 = some m46.bare := by kernel_rfl

/-- '(*swingbridge/swingbridgeref20.Job).Kind' -/
def m47 : MFn := ⟨[.tmp 2], .seq (.ops [⟨(some 2), .mov, [.k (.int .i64 0)], none, [2]⟩]) <|
.seq (.seq (.ops [⟨(some 3), .mov, [.r 0], none, []⟩,
  ⟨(some 4), .call 50, [.r 3], none, [3]⟩]) <|
.cond (.r 4)
  (.seq (.ops [⟨(some 2), .mov, [.k (.int .i64 0)], none, [0, 4]⟩]) <|
  .ret)
  (.skip)) <|
.seq (.draw [⟨(some 5), .mov, [.r 0], none, [4]⟩,
  ⟨(some 6), .nilck, [.r 5], none, [5]⟩,
  ⟨(some 7), .fa 0, [.r 6], none, [6]⟩,
  ⟨(some 8), .fa 5, [.r 7], none, [7]⟩,
  ⟨(some 9), .ld none, [.r 8], none, [8]⟩,
  ⟨(some 10), .mov, [.r 0], none, [0]⟩,
  ⟨(some 11), .nilck, [.r 10], none, [10]⟩,
  ⟨(some 12), .fa 7, [.r 11], none, [11]⟩,
  ⟨(some 13), .ld none, [.r 12], none, [12]⟩,
  ⟨(some 14), .ia 3, [.r 9, .r 13], none, [9, 13]⟩,
  ⟨(some 15), .fa 0, [.r 14], none, [14]⟩,
  ⟨(some 16), .ld none, [.r 15], none, [15]⟩,
  ⟨(some 2), .mov, [.r 16], none, [16]⟩] []) <|
.ret⟩
theorem c47 : cFn Try.prog 47 = some m47.bare := by kernel_rfl

/-- '(*swingbridge/job.Job).Res' -/
def m48 : MFn := ⟨[.tmp 2], .seq (.ops [⟨(some 2), .mov, [.k (.int .i64 0)], none, [2]⟩]) <|
.seq (.ops [⟨(some 3), .mov, [.r 0], none, [0]⟩,
  ⟨(some 4), .call 72, [.r 3], none, [3]⟩,
  ⟨(some 5), .fld 2 none, [.r 4], none, [4]⟩,
  ⟨(some 2), .mov, [.r 5], none, [5]⟩]) <|
.ret⟩
theorem c48 : cFn Try.prog 48 = some m48.bare := by kernel_rfl

/-- '(*swingbridge/swingbridgeref20.Job).Res' -/
def m49 : MFn := ⟨[.tmp 2], .seq (.ops [⟨(some 2), .mov, [.k (.int .i64 0)], none, [2]⟩]) <|
.seq (.seq (.ops [⟨(some 3), .mov, [.r 0], none, []⟩,
  ⟨(some 4), .call 50, [.r 3], none, [3]⟩]) <|
.cond (.r 4)
  (.seq (.ops [⟨(some 2), .mov, [.k (.int .i64 0)], none, [0, 4]⟩]) <|
  .ret)
  (.skip)) <|
.seq (.draw [⟨(some 5), .mov, [.r 0], none, [4]⟩,
  ⟨(some 6), .nilck, [.r 5], none, [5]⟩,
  ⟨(some 7), .fa 0, [.r 6], none, [6]⟩,
  ⟨(some 8), .fa 5, [.r 7], none, [7]⟩,
  ⟨(some 9), .ld none, [.r 8], none, [8]⟩,
  ⟨(some 10), .mov, [.r 0], none, [0]⟩,
  ⟨(some 11), .nilck, [.r 10], none, [10]⟩,
  ⟨(some 12), .fa 7, [.r 11], none, [11]⟩,
  ⟨(some 13), .ld none, [.r 12], none, [12]⟩,
  ⟨(some 14), .ia 3, [.r 9, .r 13], none, [9, 13]⟩,
  ⟨(some 15), .fa 2, [.r 14], none, [14]⟩,
  ⟨(some 16), .ld none, [.r 15], none, [15]⟩,
  ⟨(some 2), .mov, [.r 16], none, [16]⟩] []) <|
.ret⟩
theorem c49 : cFn Try.prog 49 = some m49.bare := by kernel_rfl

/-- '(*swingbridge/swingbridgeref20.Job).Over' -/
def m50 : MFn := ⟨[.tmp 2], .seq (.ops [⟨(some 2), .mov, [.k (.bool false)], none, [2]⟩]) <|
.seq (.draw [⟨(some 3), .mov, [.r 0], none, []⟩,
  ⟨(some 4), .nilck, [.r 3], none, [3]⟩,
  ⟨(some 5), .fa 7, [.r 4], none, [4]⟩,
  ⟨(some 6), .ld none, [.r 5], none, [5]⟩,
  ⟨(some 7), .mov, [.r 0], none, [0]⟩,
  ⟨(some 8), .nilck, [.r 7], none, [7]⟩,
  ⟨(some 9), .fa 0, [.r 8], none, [8]⟩,
  ⟨(some 10), .fa 5, [.r 9], none, [9]⟩,
  ⟨(some 11), .ld none, [.r 10], none, [10]⟩,
  ⟨(some 12), .len, [.r 11], none, [11]⟩,
  ⟨(some 13), .bin .geq, [.r 6, .r 12], none, [6, 12]⟩,
  ⟨(some 2), .mov, [.r 13], none, [13]⟩] []) <|
.ret⟩
theorem c50 : cFn Try.prog 50 = some m50.bare := by kernel_rfl

/-- '(*swingbridge/job.Job).Copy' -/
def m51 : MFn := ⟨[.tmp 4], .seq (.ops [⟨(some 4), .mov, [.k (.pointer none)], none, [4]⟩]) <|
.seq (.ops [⟨(some 6), .mov, [.r 0], none, [0]⟩,
  ⟨(some 7), .nilck, [.r 6], none, [6]⟩,
  ⟨(some 8), .ld (some 5), [.r 7], none, [7]⟩,
  ⟨(some 5), .new 0 [.slice none 0 0, .int .i64 0, .int .i64 0, .int .i64 0, .pointer none], [], none, []⟩,
  ⟨none, .st 5, [.r 5, .r 8], none, [8]⟩]) <|
.seq (.ops [⟨(some 9), .mov, [.r 1], none, [1]⟩,
  ⟨(some 10), .fa 4, [.r 5], none, []⟩,
  ⟨none, .st 1, [.r 10, .r 9], none, [9, 10]⟩]) <|
.seq (.ops [⟨(some 4), .mov, [.r 5], none, [5]⟩]) <|
.ret⟩
theorem c51 : cFn Try.prog 51 = some m51.bare := by kernel_rfl

/-- '(*swingbridge/swingbridgeref20.Job).Tick' -/
def m52 : MFn := ⟨[.tmp 2], .seq (.ops [⟨(some 2), .mov, [.k (.bool false)], none, [2]⟩]) <|
.seq (.seq (.ops [⟨(some 3), .mov, [.r 0], none, []⟩,
  ⟨(some 4), .call 50, [.r 3], none, [3]⟩]) <|
.cond (.r 4)
  (.seq (.ops [⟨(some 2), .mov, [.k (.bool false)], none, [0, 4]⟩]) <|
  .ret)
  (.skip)) <|
.seq (.ops [⟨(some 5), .mov, [.r 0], none, [4]⟩,
  ⟨(some 6), .mov, [.r 0], none, []⟩,
  ⟨(some 7), .nilck, [.r 6], none, [6]⟩,
  ⟨(some 8), .fa 8, [.r 7], none, [7]⟩,
  ⟨(some 9), .ld none, [.r 8], none, [8]⟩,
  ⟨(some 10), .bin .sub, [.r 9, .k (.int .i64 1)], none, [9]⟩,
  ⟨(some 11), .nilck, [.r 5], none, [5]⟩,
  ⟨(some 12), .fa 8, [.r 11], none, [11]⟩,
  ⟨none, .st 1, [.r 12, .r 10], none, [10, 12]⟩]) <|
.seq (.seq (.ops [⟨(some 13), .mov, [.r 0], none, []⟩,
  ⟨(some 14), .nilck, [.r 13], none, [13]⟩,
  ⟨(some 15), .fa 8, [.r 14], none, [14]⟩,
  ⟨(some 16), .ld none, [.r 15], none, [15]⟩,
  ⟨(some 17), .bin .gtr, [.r 16, .k (.int .i64 0)], none, [16]⟩]) <|
.cond (.r 17)
  (.seq (.ops [⟨(some 2), .mov, [.k (.bool false)], none, [0, 17]⟩]) <|
  .ret)
  (.skip)) <|
.seq (.ops [⟨(some 18), .mov, [.r 0], none, [17]⟩,
  ⟨(some 19), .mov, [.r 0], none, []⟩,
  ⟨(some 20), .nilck, [.r 19], none, [19]⟩,
  ⟨(some 21), .fa 7, [.r 20], none, [20]⟩,
  ⟨(some 22), .ld none, [.r 21], none, [21]⟩,
  ⟨(some 23), .bin .add, [.r 22, .k (.int .i64 1)], none, [22]⟩,
  ⟨(some 24), .nilck, [.r 18], none, [18]⟩,
  ⟨(some 25), .fa 7, [.r 24], none, [24]⟩,
  ⟨none, .st 1, [.r 25, .r 23], none, [23, 25]⟩]) <|
.seq (.ops [⟨(some 26), .mov, [.r 0], none, [0]⟩,
  ⟨(some 27), .call 73, [.r 26], none, [26, 27]⟩]) <|
.seq (.ops [⟨(some 2), .mov, [.k (.bool true)], none, []⟩]) <|
.ret⟩
theorem c52 : cFn Try.prog 52 = some m52.bare := by kernel_rfl

/-- 'slices.Clone[[]swingbridge/api.Part,swingbridge/api.Part]' -/
def m70 : MFn := ⟨[.tmp 2], .seq (.ops [⟨(some 2), .mov, [.k (.slice none 0 0)], none, [2]⟩]) <|
.seq (.seq (.ops [⟨(some 3), .mov, [.r 0], none, []⟩,
  ⟨(some 4), .eqv false .slice, [.r 3, .k (.slice none 0 0)], none, [3]⟩]) <|
.cond (.r 4)
  (.seq (.ops [⟨(some 2), .mov, [.k (.slice none 0 0)], none, [0, 4]⟩]) <|
  .ret)
  (.skip)) <|
.seq (.ops [⟨(some 5), .bslice 3 0 [.int .i64 0, .int .i64 0, .int .i64 0] [], [], none, [4]⟩,
  ⟨(some 6), .mov, [.r 0], none, [0]⟩,
  ⟨(some 7), .app 3 24, [.r 5, .r 6], none, [5, 6]⟩,
  ⟨(some 2), .mov, [.r 7], none, [7]⟩]) <|
.ret⟩
theorem c70 : cFn Try.prog 70 = some m70.bare := by kernel_rfl

/-- '(*swingbridge/job.Job).begins' -/
def m71 : MFn := ⟨[], .seq (.ops [⟨(some 2), .mov, [.r 0], none, []⟩,
  ⟨(some 3), .call 43, [.r 2], none, [2]⟩,
  ⟨(some 4), .un .not, [.r 3], none, [3]⟩]) <|
.cond (.r 4)
  (.draw [⟨(some 5), .mov, [.r 0], none, [4]⟩,
    ⟨(some 6), .mov, [.r 0], none, []⟩,
    ⟨(some 7), .nilck, [.r 6], none, [6]⟩,
    ⟨(some 8), .fa 4, [.r 7], none, [7]⟩,
    ⟨(some 9), .ld none, [.r 8], none, [8]⟩,
    ⟨(some 10), .mov, [.r 0], none, []⟩,
    ⟨(some 11), .nilck, [.r 10], none, [10]⟩,
    ⟨(some 12), .fa 0, [.r 11], none, [11]⟩,
    ⟨(some 13), .ld none, [.r 12], none, [12]⟩,
    ⟨(some 14), .mov, [.r 0], none, [0]⟩,
    ⟨(some 15), .nilck, [.r 14], none, [14]⟩,
    ⟨(some 16), .fa 1, [.r 15], none, [15]⟩,
    ⟨(some 17), .ld none, [.r 16], none, [16]⟩,
    ⟨(some 18), .ia 3, [.r 13, .r 17], none, [13, 17]⟩,
    ⟨(some 19), .fa 1, [.r 18], none, [18]⟩,
    ⟨(some 20), .ld none, [.r 19], none, [19]⟩,
    ⟨(some 21), .call 19, [.r 9, .k (.int .i64 1), .r 20], none, [9, 20]⟩,
    ⟨(some 22), .nilck, [.r 5], none, [5]⟩,
    ⟨(some 23), .fa 2, [.r 22], none, [22]⟩,
    ⟨none, .st 1, [.r 23, .r 21], none, [21, 23]⟩] [])
  (.skip)⟩
theorem c71 : cFn Try.prog 71 = some m71.bare := by kernel_rfl

/-- '(*swingbridge/job.Job).part' -/
def m72 : MFn := ⟨[.cell 2 (some 3)], .seq (.ops [⟨(some 2), .new 0 [.int .i64 0, .int .i64 0, .int .i64 0], [], none, []⟩]) <|
.seq (.seq (.ops [⟨(some 3), .mov, [.r 0], none, []⟩,
  ⟨(some 4), .call 43, [.r 3], none, [3]⟩]) <|
.cond (.r 4)
  (.seq (.ops [⟨(some 5), .build [.int .i64 0, .int .i64 0, .int .i64 0] [], [], none, [0, 4]⟩,
    ⟨none, .st 3, [.r 2, .r 5], none, [5]⟩]) <|
  .ret)
  (.skip)) <|
.seq (.draw [⟨(some 6), .mov, [.r 0], none, [4]⟩,
  ⟨(some 7), .nilck, [.r 6], none, [6]⟩,
  ⟨(some 8), .fa 0, [.r 7], none, [7]⟩,
  ⟨(some 9), .ld none, [.r 8], none, [8]⟩,
  ⟨(some 10), .mov, [.r 0], none, [0]⟩,
  ⟨(some 11), .nilck, [.r 10], none, [10]⟩,
  ⟨(some 12), .fa 1, [.r 11], none, [11]⟩,
  ⟨(some 13), .ld none, [.r 12], none, [12]⟩,
  ⟨(some 14), .ia 3, [.r 9, .r 13], none, [9, 13]⟩,
  ⟨(some 15), .ld (some 3), [.r 14], none, [14]⟩,
  ⟨none, .st 3, [.r 2, .r 15], none, [15]⟩] []) <|
.ret⟩
theorem c72 : cFn Try.prog 72 = some m72.bare := by kernel_rfl

/-- '(*swingbridge/swingbridgeref20.Job).begin' -/
def m73 : MFn := ⟨[], .seq (.ops [⟨(some 2), .mov, [.r 0], none, []⟩,
  ⟨(some 3), .nilck, [.r 2], none, [2]⟩,
  ⟨(some 4), .fa 8, [.r 3], none, [3]⟩,
  ⟨none, .st 1, [.r 4, .k (.int .i64 0)], none, [4]⟩]) <|
.seq (.ops [⟨(some 5), .mov, [.r 0], none, []⟩,
  ⟨(some 6), .call 50, [.r 5], none, [5]⟩,
  ⟨(some 7), .un .not, [.r 6], none, [6]⟩]) <|
.cond (.r 7)
  (.draw [⟨(some 8), .mov, [.r 0], none, [7]⟩,
    ⟨(some 9), .mov, [.r 0], none, []⟩,
    ⟨(some 10), .nilck, [.r 9], none, [9]⟩,
    ⟨(some 11), .fa 9, [.r 10], none, [10]⟩,
    ⟨(some 12), .ld none, [.r 11], none, [11]⟩,
    ⟨(some 13), .mov, [.r 0], none, []⟩,
    ⟨(some 14), .nilck, [.r 13], none, [13]⟩,
    ⟨(some 15), .fa 0, [.r 14], none, [14]⟩,
    ⟨(some 16), .fa 5, [.r 15], none, [15]⟩,
    ⟨(some 17), .ld none, [.r 16], none, [16]⟩,
    ⟨(some 18), .mov, [.r 0], none, [0]⟩,
    ⟨(some 19), .nilck, [.r 18], none, [18]⟩,
    ⟨(some 20), .fa 7, [.r 19], none, [19]⟩,
    ⟨(some 21), .ld none, [.r 20], none, [20]⟩,
    ⟨(some 22), .ia 3, [.r 17, .r 21], none, [17, 21]⟩,
    ⟨(some 23), .fa 1, [.r 22], none, [22]⟩,
    ⟨(some 24), .ld none, [.r 23], none, [23]⟩,
    ⟨(some 25), .call 20, [.r 12, .k (.int .i64 1), .r 24], none, [12, 24]⟩,
    ⟨(some 26), .nilck, [.r 8], none, [8]⟩,
    ⟨(some 27), .fa 8, [.r 26], none, [26]⟩,
    ⟨none, .st 1, [.r 27, .r 25], none, [25, 27]⟩] [])
  (.skip)⟩
theorem c73 : cFn Try.prog 73 = some m73.bare := by kernel_rfl

def mpJ (f : FuncId) : Option MDef := match f with
  | 10 => some (.code m10)
  | 11 => some (.code m11)
  | 12 => some (.code m12)
  | 17 => some (.code m17)
  | 18 => some (.code m18)
  | 19 => some (.code m19)
  | 20 => some (.code m20)
  | 21 => some (.code m21)
  | 37 => some (.code m37)
  | 38 => some (.code m38)
  | 39 => some (.code m39)
  | 40 => some (.code m40)
  | 41 => some (.code m41)
  | 42 => some (.code m42)
  | 43 => some (.code m43)
  | 44 => some (.code m44)
  | 45 => some (.code m45)
  | 46 => some (.code m46)
  | 47 => some (.code m47)
  | 48 => some (.code m48)
  | 49 => some (.code m49)
  | 50 => some (.code m50)
  | 51 => some (.code m51)
  | 52 => some (.code m52)
  | 63 => some (.code m63)
  | 64 => some (.code m64)
  | 65 => some (.code m65)
  | 70 => some (.code m70)
  | 71 => some (.code m71)
  | 72 => some (.code m72)
  | 73 => some (.code m73)
  | _ => none
theorem mpJ_code : ∀ f fn, mpJ f = some (.code fn) → cFn Try.prog f = some fn.bare := by
  intro f fn h
  unfold mpJ at h
  split at h
  · cases h; exact c10
  · cases h; exact c11
  · cases h; exact c12
  · cases h; exact c17
  · cases h; exact c18
  · cases h; exact c19
  · cases h; exact c20
  · cases h; exact c21
  · cases h; exact c37
  · cases h; exact c38
  · cases h; exact c39
  · cases h; exact c40
  · cases h; exact c41
  · cases h; exact c42
  · cases h; exact c43
  · cases h; exact c44
  · cases h; exact c45
  · cases h; exact c46
  · cases h; exact c47
  · cases h; exact c48
  · cases h; exact c49
  · cases h; exact c50
  · cases h; exact c51
  · cases h; exact c52
  · cases h; exact c63
  · cases h; exact c64
  · cases h; exact c65
  · cases h; exact c70
  · cases h; exact c71
  · cases h; exact c72
  · cases h; exact c73
  · cases h
theorem mpJ_ok : MapOk Try.prog mpJ := ⟨by kernel_rfl, mpJ_code, fun f s h => by
  unfold mpJ at h
  split at h <;> cases h⟩
end Go.Mod

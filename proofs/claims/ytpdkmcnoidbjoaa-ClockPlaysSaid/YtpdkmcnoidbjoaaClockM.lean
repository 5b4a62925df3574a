/- The model's code of functions of the program, and that it is the program's. Printed by wip/tool. -/

import Derived.Test.YtpdkmcnoidbjoaaProg
import Derived.Test.YtpdkmcnoidbjoaaFwW
namespace Go.Mod
open Go.Proofs

/-- 'swingbridge/swingbridgelaw5.ClockPlays' -/
def m9_0 : MCode := .seq (.seq (.ops [⟨(some 17), .mov, [.r 5], none, []⟩,
      ⟨(some 18), .mov, [.r 0], none, []⟩,
      ⟨(some 19), .len, [.r 18], none, [18]⟩,
      ⟨(some 20), .bin .lss, [.r 17, .r 19], none, [17, 19]⟩]) <|
    .cond (.r 20)
      (.skip)
      (.exit 0)) <|
    .seq (.block 1 (.seq (.ops [⟨(some 6), .mov, [.k (.bool true)], none, [6, 20]⟩]) <|
      .seq (.seq (.ops [⟨(some 23), .mov, [.r 0], none, []⟩,
        ⟨(some 24), .mov, [.r 5], none, []⟩,
        ⟨(some 25), .ia 4, [.r 23, .r 24], none, [23, 24]⟩,
        ⟨(some 26), .ld (some 4), [.r 25], none, [25]⟩,
        ⟨(some 7), .new 0 [.int .i64 0, .bool false, .int .i64 0, .int .i64 0], [], none, []⟩,
        ⟨none, .st 4, [.r 7, .r 26], none, [26]⟩]) <|
      .block 2 (.seq (.ops [⟨(some 33), .fa 0, [.r 7], none, []⟩,
          ⟨(some 34), .ld none, [.r 33], none, [33]⟩,
          ⟨(some 35), .bin .leq, [.r 34, .k (.int .i64 3)], none, [34]⟩,
          ⟨(some 32), .mov, [.r 35], none, [35]⟩]) <|
        .cond (.r 32)
          (.seq (.ops [⟨(some 36), .fa 2, [.r 7], none, [32]⟩,
            ⟨(some 37), .ld (some 2), [.r 36], none, [36]⟩,
            ⟨(some 8), .new 0 [.int .i64 0, .int .i64 0], [], none, []⟩,
            ⟨none, .st 2, [.r 8, .r 37], none, [37]⟩]) <|
          .seq (.seq (.ops [⟨(some 38), .fa 1, [.r 7], none, [7]⟩,
            ⟨(some 39), .ld none, [.r 38], none, [38]⟩]) <|
          .cond (.r 39)
            (.draw [⟨(some 40), .mov, [.r 4], none, [39]⟩,
              ⟨(some 41), .nilck, [.r 40], none, [40]⟩,
              ⟨(some 42), .fa 1, [.r 41], none, [41]⟩,
              ⟨(some 43), .ld none, [.r 42], none, [42]⟩,
              ⟨(some 44), .fa 0, [.r 8], none, []⟩,
              ⟨(some 45), .ld none, [.r 44], none, [44]⟩,
              ⟨(some 46), .bin .and, [.r 45, .k (.int .i64 7)], none, [45]⟩,
              ⟨(some 47), .bin .add, [.r 43, .r 46], none, [43, 46]⟩,
              ⟨(some 48), .fa 0, [.r 8], none, []⟩,
              ⟨none, .st 1, [.r 48, .r 47], none, [47, 48]⟩] [])
            (.skip)) <|
          .draw [⟨(some 49), .mov, [.r 3], none, [39]⟩,
            ⟨(some 50), .ld (some 2), [.r 8], none, []⟩,
            ⟨(some 51), .call 43, [.r 49, .r 50], none, [49, 50]⟩,
            ⟨(some 52), .mov, [.r 4], none, []⟩,
            ⟨(some 53), .ld (some 2), [.r 8], none, [8]⟩,
            ⟨(some 54), .call 44, [.r 52, .r 53], none, [52, 53]⟩,
            ⟨(some 55), .bin .eql, [.r 51, .r 54], none, [51, 54]⟩,
            ⟨(some 6), .mov, [.r 55], none, [55]⟩] [(4, 2)])
          (.seq (.ops [⟨(some 57), .fa 0, [.r 7], none, [32]⟩,
            ⟨(some 58), .ld none, [.r 57], none, [57]⟩,
            ⟨(some 59), .bin .eql, [.r 58, .k (.int .i64 4)], none, [58]⟩,
            ⟨(some 56), .mov, [.r 59], none, [59]⟩]) <|
          .cond (.r 56)
            (.draw [⟨(some 60), .mov, [.r 3], none, [56]⟩,
              ⟨(some 61), .fa 2, [.r 7], none, []⟩,
              ⟨(some 62), .fa 1, [.r 61], none, [61]⟩,
              ⟨(some 63), .ld none, [.r 62], none, [62]⟩,
              ⟨(some 64), .call 45, [.r 60, .r 63], none, [60, 63]⟩,
              ⟨(some 65), .mov, [.r 4], none, []⟩,
              ⟨(some 66), .fa 2, [.r 7], none, [7]⟩,
              ⟨(some 67), .fa 1, [.r 66], none, [66]⟩,
              ⟨(some 68), .ld none, [.r 67], none, [67]⟩,
              ⟨(some 69), .call 46, [.r 65, .r 68], none, [65, 68]⟩,
              ⟨(some 70), .eqv false .bool, [.r 64, .r 69], none, [64, 69]⟩,
              ⟨(some 6), .mov, [.r 70], none, [70]⟩] [(8, 4)])
            (.ops [⟨(some 27), .mov, [.r 3], none, [7, 56]⟩,
              ⟨(some 28), .call 47, [.r 27], none, [27]⟩,
              ⟨(some 29), .mov, [.r 4], none, []⟩,
              ⟨(some 30), .call 48, [.r 29], none, [29]⟩,
              ⟨(some 31), .call 38, [.r 28, .r 30], none, [28, 30]⟩,
              ⟨(some 6), .mov, [.r 31], none, [31]⟩])))) <|
      .seq (.draw [⟨(some 71), .mov, [.r 6], none, [6]⟩,
        ⟨(some 72), .un .not, [.r 71], none, [71]⟩,
        ⟨(some 73), .mov, [.r 72], none, [72]⟩,
        ⟨(some 74), .mov, [.r 3], (some (73, false)), []⟩,
        ⟨(some 75), .call 50, [.r 74], (some (73, false)), [74]⟩,
        ⟨(some 76), .mov, [.r 4], (some (73, false)), []⟩,
        ⟨(some 77), .nilck, [.r 76], (some (73, false)), [76]⟩,
        ⟨(some 78), .fa 0, [.r 77], (some (73, false)), [77]⟩,
        ⟨(some 79), .ld none, [.r 78], (some (73, false)), [78]⟩,
        ⟨(some 80), .call 49, [.r 75, .r 79], (some (73, false)), [75, 79]⟩,
        ⟨(some 81), .un .not, [.r 80], (some (73, false)), [80]⟩,
        ⟨(some 82), .pick, [.r 73, .k (.bool true), .r 81], none, [73, 81]⟩,
        ⟨(some 83), .mov, [.r 82], none, [82]⟩,
        ⟨(some 84), .mov, [.r 3], (some (83, false)), []⟩,
        ⟨(some 85), .call 51, [.r 84], (some (83, false)), [84]⟩,
        ⟨(some 86), .mov, [.r 4], (some (83, false)), []⟩,
        ⟨(some 87), .nilck, [.r 86], (some (83, false)), [86]⟩,
        ⟨(some 88), .fa 1, [.r 87], (some (83, false)), [87]⟩,
        ⟨(some 89), .ld none, [.r 88], (some (83, false)), [88]⟩,
        ⟨(some 90), .bin .neq, [.r 85, .r 89], (some (83, false)), [85, 89]⟩,
        ⟨(some 91), .pick, [.r 83, .k (.bool true), .r 90], none, [83, 90]⟩,
        ⟨(some 92), .mov, [.r 91], none, [91]⟩,
        ⟨(some 93), .mov, [.r 3], (some (92, false)), []⟩,
        ⟨(some 94), .call 52, [.r 93], (some (92, false)), [93]⟩,
        ⟨(some 95), .mov, [.r 4], (some (92, false)), []⟩,
        ⟨(some 96), .nilck, [.r 95], (some (92, false)), [95]⟩,
        ⟨(some 97), .fa 0, [.r 96], (some (92, false)), [96]⟩,
        ⟨(some 98), .ld none, [.r 97], (some (92, false)), [97]⟩,
        ⟨(some 99), .len, [.r 98], (some (92, false)), [98]⟩,
        ⟨(some 100), .bin .neq, [.r 94, .r 99], (some (92, false)), [94, 99]⟩,
        ⟨(some 101), .pick, [.r 92, .k (.bool true), .r 100], none, [92, 100]⟩] [(8, 4), (18, 14), (27, 23)]) <|
      .cond (.r 101)
        (.seq (.ops [⟨(some 2), .mov, [.k (.bool false)], none, [0, 3, 4, 5, 101]⟩]) <|
        .ret)
        (.skip))) <|
    .ops [⟨(some 21), .mov, [.r 5], none, [5, 101]⟩,
      ⟨(some 22), .bin .add, [.r 21, .k (.int .i64 1)], none, [21]⟩,
      ⟨(some 5), .mov, [.r 22], none, [22]⟩]
def m9 : MFn := ⟨[.tmp 2], .seq (.ops [⟨(some 2), .mov, [.k (.bool false)], none, [2]⟩]) <|
.seq (.seq (.ops [⟨(some 9), .call 41, [], none, []⟩,
  ⟨(some 10), .un .not, [.r 9], none, [9]⟩]) <|
.cond (.r 10)
  (.seq (.ops [⟨(some 2), .mov, [.k (.bool false)], none, [0, 10]⟩]) <|
  .ret)
  (.skip)) <|
.seq (.seq (.ops [⟨(some 11), .mov, [.r 0], none, [10]⟩,
  ⟨(some 12), .len, [.r 11], none, [11]⟩,
  ⟨(some 13), .bin .gtr, [.r 12, .k (.int .i64 150)], none, [12]⟩]) <|
.cond (.r 13)
  (.seq (.ops [⟨(some 2), .mov, [.k (.bool true)], none, [0, 13]⟩]) <|
  .ret)
  (.skip)) <|
.seq (.ops [⟨(some 14), .call 42, [], none, [13]⟩,
  ⟨(some 15), .build [.slice none 0 0, .int .i64 0] [], [], none, []⟩,
  ⟨(some 16), .box, [.r 15], none, [15]⟩,
  ⟨(some 3), .mov, [.r 14], none, [14]⟩,
  ⟨(some 4), .mov, [.r 16], none, [16]⟩]) <|
.seq (.seq (.ops [⟨(some 5), .mov, [.k (.int .i64 0)], none, []⟩]) <|
.block 0 (.loop m9_0)) <|
.seq (.ops [⟨(some 2), .mov, [.k (.bool true)], none, [0, 3, 4, 5, 20]⟩]) <|
.ret⟩
theorem c9 : cFn Try.prog 9 = some m9.bare := by kernel_rfl

/-- 'swingbridge/swingbridgelaw5.ClockTimes' -/
def m10_0 : MCode := .seq (.seq (.ops [⟨(some 51), .mov, [.r 9], none, []⟩,
            ⟨(some 52), .mov, [.r 0], none, []⟩,
            ⟨(some 53), .len, [.r 52], none, [52]⟩,
            ⟨(some 54), .bin .lss, [.r 51, .r 53], none, [51, 53]⟩]) <|
          .cond (.r 54)
            (.skip)
            (.exit 4)) <|
          .seq (.block 5 (.seq (.seq (.ops [⟨(some 57), .mov, [.r 0], none, [54]⟩,
              ⟨(some 58), .mov, [.r 9], none, []⟩,
              ⟨(some 59), .ia 1, [.r 57, .r 58], none, [57, 58]⟩,
              ⟨(some 60), .ld none, [.r 59], none, [59]⟩,
              ⟨(some 61), .bin .rem, [.r 60, .k (.int .u8 50)], none, [60]⟩,
              ⟨(some 62), .conv .i64, [.r 61], none, [61]⟩,
              ⟨(some 63), .mov, [.r 6], none, []⟩,
              ⟨(some 64), .bin .neq, [.r 62, .r 63], none, [62, 63]⟩]) <|
            .cond (.r 64)
              (.exit 5)
              (.skip)) <|
            .seq (.seq (.ops [⟨(some 65), .mov, [.r 8], none, [64]⟩,
              ⟨(some 66), .mov, [.r 7], none, []⟩,
              ⟨(some 67), .len, [.r 66], none, [66]⟩,
              ⟨(some 68), .bin .geq, [.r 65, .r 67], none, [65, 67]⟩,
              ⟨(some 69), .mov, [.r 68], none, [68]⟩,
              ⟨(some 70), .mov, [.r 7], (some (69, false)), []⟩,
              ⟨(some 71), .mov, [.r 8], (some (69, false)), []⟩,
              ⟨(some 72), .ia 1, [.r 70, .r 71], (some (69, false)), [70, 71]⟩,
              ⟨(some 73), .ld none, [.r 72], (some (69, false)), [72]⟩,
              ⟨(some 74), .mov, [.r 9], (some (69, false)), []⟩,
              ⟨(some 75), .bin .neq, [.r 73, .r 74], (some (69, false)), [73, 74]⟩,
              ⟨(some 76), .pick, [.r 69, .k (.bool true), .r 75], none, [69, 75]⟩]) <|
            .cond (.r 76)
              (.seq (.ops [⟨(some 2), .mov, [.k (.bool false)], none, [0, 3, 5, 6, 7, 8, 9, 76]⟩]) <|
              .ret)
              (.skip)) <|
            .ops [⟨(some 77), .mov, [.r 8], none, [8, 76]⟩,
              ⟨(some 78), .bin .add, [.r 77, .k (.int .i64 1)], none, [77]⟩,
              ⟨(some 8), .mov, [.r 78], none, [78]⟩])) <|
          .ops [⟨(some 55), .mov, [.r 9], none, [9, 64]⟩,
            ⟨(some 56), .bin .add, [.r 55, .k (.int .i64 1)], none, [55]⟩,
            ⟨(some 9), .mov, [.r 56], none, [56]⟩]
def m10_1 : MCode := .seq (.seq (.ops [⟨(some 35), .mov, [.r 6], none, []⟩,
      ⟨(some 36), .bin .lss, [.r 35, .k (.int .i64 51)], none, [35]⟩]) <|
    .cond (.r 36)
      (.skip)
      (.exit 2)) <|
    .seq (.block 3 (.seq (.seq (.ops [⟨(some 39), .mov, [.r 3], none, [36]⟩,
        ⟨(some 40), .call 51, [.r 39], none, [39]⟩,
        ⟨(some 41), .mov, [.r 6], none, []⟩,
        ⟨(some 42), .bin .neq, [.r 40, .r 41], none, [40, 41]⟩,
        ⟨(some 43), .mov, [.r 42], none, [42]⟩,
        ⟨(some 44), .mov, [.r 3], (some (43, false)), []⟩,
        ⟨(some 45), .call 52, [.r 44], (some (43, false)), [44]⟩,
        ⟨(some 46), .mov, [.r 5], (some (43, false)), []⟩,
        ⟨(some 47), .bin .neq, [.r 45, .r 46], (some (43, false)), [45, 46]⟩,
        ⟨(some 48), .pick, [.r 43, .k (.bool true), .r 47], none, [43, 47]⟩]) <|
      .cond (.r 48)
        (.seq (.ops [⟨(some 2), .mov, [.k (.bool false)], none, [0, 3, 5, 6, 48]⟩]) <|
        .ret)
        (.skip)) <|
      .seq (.ops [⟨(some 49), .mov, [.r 3], none, [48]⟩,
        ⟨(some 50), .call 47, [.r 49], none, [49]⟩,
        ⟨(some 7), .mov, [.r 50], none, [50]⟩]) <|
      .seq (.ops [⟨(some 8), .mov, [.k (.int .i64 0)], none, []⟩]) <|
      .seq (.seq (.ops [⟨(some 9), .mov, [.k (.int .i64 0)], none, []⟩]) <|
      .block 4 (.loop m10_0)) <|
      .seq (.seq (.ops [⟨(some 79), .mov, [.r 8], none, [9, 54]⟩,
        ⟨(some 80), .mov, [.r 7], none, [7]⟩,
        ⟨(some 81), .len, [.r 80], none, [80]⟩,
        ⟨(some 82), .bin .neq, [.r 79, .r 81], none, [79, 81]⟩]) <|
      .cond (.r 82)
        (.seq (.ops [⟨(some 2), .mov, [.k (.bool false)], none, [0, 3, 5, 6, 8, 82]⟩]) <|
        .ret)
        (.skip)) <|
      .ops [⟨(some 83), .mov, [.r 5], none, [5, 82]⟩,
        ⟨(some 84), .mov, [.r 8], none, [8]⟩,
        ⟨(some 85), .bin .sub, [.r 83, .r 84], none, [83, 84]⟩,
        ⟨(some 5), .mov, [.r 85], none, [85]⟩])) <|
    .ops [⟨(some 37), .mov, [.r 6], none, [6]⟩,
      ⟨(some 38), .bin .add, [.r 37, .k (.int .i64 1)], none, [37]⟩,
      ⟨(some 6), .mov, [.r 38], none, [38]⟩]
def m10_2 : MCode := .seq (.seq (.ops [⟨(some 16), .mov, [.r 4], none, []⟩,
      ⟨(some 17), .mov, [.r 0], none, []⟩,
      ⟨(some 18), .len, [.r 17], none, [17]⟩,
      ⟨(some 19), .bin .lss, [.r 16, .r 18], none, [16, 18]⟩]) <|
    .cond (.r 19)
      (.skip)
      (.exit 0)) <|
    .seq (.block 1 (.seq (.ops [⟨(some 22), .mov, [.r 3], none, [19]⟩,
        ⟨(some 23), .mov, [.r 0], none, []⟩,
        ⟨(some 24), .mov, [.r 4], none, []⟩,
        ⟨(some 25), .ia 1, [.r 23, .r 24], none, [23, 24]⟩,
        ⟨(some 26), .ld none, [.r 25], none, [25]⟩,
        ⟨(some 27), .bin .rem, [.r 26, .k (.int .u8 50)], none, [26]⟩,
        ⟨(some 28), .conv .i64, [.r 27], none, [27]⟩,
        ⟨(some 29), .mov, [.r 4], none, []⟩,
        ⟨(some 30), .build [.int .i64 0, .int .i64 0] [(0, 1), (1, 1)], [.r 28, .r 29], none, [28, 29]⟩,
        ⟨(some 31), .call 43, [.r 22, .r 30], none, [22, 30]⟩,
        ⟨(some 32), .bin .neq, [.r 31, .k (.int .i64 0)], none, [31]⟩]) <|
      .cond (.r 32)
        (.seq (.ops [⟨(some 2), .mov, [.k (.bool false)], none, [0, 3, 4, 32]⟩]) <|
        .ret)
        (.skip))) <|
    .ops [⟨(some 20), .mov, [.r 4], none, [4, 32]⟩,
      ⟨(some 21), .bin .add, [.r 20, .k (.int .i64 1)], none, [20]⟩,
      ⟨(some 4), .mov, [.r 21], none, [21]⟩]
def m10 : MFn := ⟨[.tmp 2], .seq (.ops [⟨(some 2), .mov, [.k (.bool false)], none, [2]⟩]) <|
.seq (.seq (.ops [⟨(some 10), .call 41, [], none, []⟩,
  ⟨(some 11), .un .not, [.r 10], none, [10]⟩]) <|
.cond (.r 11)
  (.seq (.ops [⟨(some 2), .mov, [.k (.bool false)], none, [0, 11]⟩]) <|
  .ret)
  (.skip)) <|
.seq (.seq (.ops [⟨(some 12), .mov, [.r 0], none, [11]⟩,
  ⟨(some 13), .len, [.r 12], none, [12]⟩,
  ⟨(some 14), .bin .gtr, [.r 13, .k (.int .i64 64)], none, [13]⟩]) <|
.cond (.r 14)
  (.seq (.ops [⟨(some 2), .mov, [.k (.bool true)], none, [0, 14]⟩]) <|
  .ret)
  (.skip)) <|
.seq (.ops [⟨(some 15), .call 42, [], none, [14]⟩,
  ⟨(some 3), .mov, [.r 15], none, [15]⟩]) <|
.seq (.seq (.ops [⟨(some 4), .mov, [.k (.int .i64 0)], none, []⟩]) <|
.block 0 (.loop m10_2)) <|
.seq (.ops [⟨(some 33), .mov, [.r 0], none, [4, 19]⟩,
  ⟨(some 34), .len, [.r 33], none, [33]⟩,
  ⟨(some 5), .mov, [.r 34], none, [34]⟩]) <|
.seq (.seq (.ops [⟨(some 6), .mov, [.k (.int .i64 0)], none, []⟩]) <|
.block 2 (.loop m10_1)) <|
.seq (.ops [⟨(some 86), .mov, [.r 5], none, [0, 3, 5, 6, 36]⟩,
  ⟨(some 87), .bin .eql, [.r 86, .k (.int .i64 0)], none, [86]⟩,
  ⟨(some 2), .mov, [.r 87], none, [87]⟩]) <|
.ret⟩
theorem c10 : cFn Try.prog 10 = some m10.bare := by kernel_rfl

/-- 'swingbridge/swingbridgelaw5.ClockFull' -/
def m11_0 : MCode := .seq (.seq (.ops [⟨(some 45), .mov, [.r 13], none, []⟩,
      ⟨(some 46), .mov, [.r 12], none, []⟩,
      ⟨(some 47), .bin .lss, [.r 45, .r 46], none, [45, 46]⟩]) <|
    .cond (.r 47)
      (.skip)
      (.exit 2)) <|
    .seq (.block 3 (.seq (.ops [⟨(some 50), .mov, [.r 7], none, [47]⟩,
        ⟨(some 51), .mov, [.r 9], none, []⟩,
        ⟨(some 52), .mov, [.r 1], none, []⟩,
        ⟨(some 53), .conv .i64, [.r 52], none, [52]⟩,
        ⟨(some 54), .bin .add, [.r 51, .r 53], none, [51, 53]⟩,
        ⟨(some 55), .mov, [.r 13], none, []⟩,
        ⟨(some 56), .build [.int .i64 0, .int .i64 0] [(0, 1), (1, 1)], [.r 54, .r 55], none, [54, 55]⟩,
        ⟨(some 57), .call 43, [.r 50, .r 56], none, [50, 56]⟩,
        ⟨(some 14), .mov, [.r 57], none, [57]⟩]) <|
      .seq (.ops [⟨(some 58), .mov, [.r 14], none, []⟩,
        ⟨(some 59), .bin .eql, [.r 58, .k (.int .i64 0)], none, [58]⟩,
        ⟨(some 60), .mov, [.r 13], none, []⟩,
        ⟨(some 61), .bin .lss, [.r 60, .k (.int .i64 64)], none, [60]⟩,
        ⟨(some 62), .eqv true .bool, [.r 59, .r 61], none, [59, 61]⟩,
        ⟨(some 63), .mov, [.r 62], none, [62]⟩,
        ⟨(some 64), .mov, [.r 14], (some (63, false)), []⟩,
        ⟨(some 65), .bin .neq, [.r 64, .k (.int .i64 0)], (some (63, false)), [64]⟩,
        ⟨(some 66), .mov, [.r 65], (some (63, false)), [65]⟩,
        ⟨(some 67), .mov, [.r 14], (some (66, true)), [14]⟩,
        ⟨(some 68), .bin .neq, [.r 67, .k (.int .i64 12)], (some (66, true)), [67]⟩,
        ⟨(some 69), .pick, [.r 66, .r 68, .k (.bool false)], (some (63, false)), [66, 68]⟩,
        ⟨(some 70), .pick, [.r 63, .k (.bool true), .r 69], none, [63, 69]⟩]) <|
      .cond (.r 70)
        (.seq (.ops [⟨(some 6), .mov, [.k (.bool false)], none, [1, 7, 9, 10, 11, 12, 13, 70]⟩]) <|
        .ret)
        (.skip))) <|
    .ops [⟨(some 48), .mov, [.r 13], none, [13, 70]⟩,
      ⟨(some 49), .bin .add, [.r 48, .k (.int .i64 1)], none, [48]⟩,
      ⟨(some 13), .mov, [.r 49], none, [49]⟩]
def m11_1 : MCode := .seq (.seq (.ops [⟨(some 18), .mov, [.r 8], none, []⟩,
      ⟨(some 19), .mov, [.r 2], none, []⟩,
      ⟨(some 20), .conv .i64, [.r 19], none, [19]⟩,
      ⟨(some 21), .bin .lss, [.r 18, .r 20], none, [18, 20]⟩]) <|
    .cond (.r 21)
      (.skip)
      (.exit 0)) <|
    .seq (.block 1 (.seq (.ops [⟨(some 24), .mov, [.r 7], none, [21]⟩,
        ⟨(some 25), .call 47, [.r 24], none, [24]⟩,
        ⟨(some 26), .len, [.r 25], none, [25]⟩,
        ⟨(some 27), .bin .neq, [.r 26, .k (.int .i64 0)], none, [26]⟩]) <|
      .cond (.r 27)
        (.seq (.ops [⟨(some 6), .mov, [.k (.bool false)], none, [0, 1, 2, 7, 8, 27]⟩]) <|
        .ret)
        (.skip))) <|
    .ops [⟨(some 22), .mov, [.r 8], none, [8, 27]⟩,
      ⟨(some 23), .bin .add, [.r 22, .k (.int .i64 1)], none, [22]⟩,
      ⟨(some 8), .mov, [.r 23], none, [23]⟩]
def m11 : MFn := ⟨[.tmp 6], .seq (.ops [⟨(some 6), .mov, [.k (.bool false)], none, [6]⟩]) <|
.seq (.seq (.ops [⟨(some 15), .call 41, [], none, []⟩,
  ⟨(some 16), .un .not, [.r 15], none, [15]⟩]) <|
.cond (.r 16)
  (.seq (.ops [⟨(some 6), .mov, [.k (.bool false)], none, [0, 1, 2, 16]⟩]) <|
  .ret)
  (.skip)) <|
.seq (.ops [⟨(some 17), .call 42, [], none, [16]⟩,
  ⟨(some 7), .mov, [.r 17], none, [17]⟩]) <|
.seq (.seq (.ops [⟨(some 8), .mov, [.k (.int .i64 0)], none, []⟩]) <|
.block 0 (.loop m11_1)) <|
.seq (.ops [⟨(some 28), .mov, [.r 2], none, [2, 8, 21]⟩,
  ⟨(some 29), .conv .i64, [.r 28], none, [28]⟩,
  ⟨(some 9), .mov, [.r 29], none, [29]⟩]) <|
.seq (.ops [⟨(some 30), .mov, [.r 7], none, []⟩,
  ⟨(some 31), .mov, [.r 9], none, []⟩,
  ⟨(some 32), .bin .sub, [.r 31, .k (.int .i64 1)], none, [31]⟩,
  ⟨(some 33), .build [.int .i64 0, .int .i64 0] [(0, 1)], [.r 32], none, [32]⟩,
  ⟨(some 34), .call 43, [.r 30, .r 33], none, [30, 33]⟩,
  ⟨(some 10), .mov, [.r 34], none, [34]⟩]) <|
.seq (.ops [⟨(some 35), .mov, [.r 7], none, []⟩,
  ⟨(some 36), .mov, [.r 1], none, []⟩,
  ⟨(some 37), .conv .i64, [.r 36], none, [36]⟩,
  ⟨(some 38), .bin .add, [.k (.int .i64 1000001), .r 37], none, [37]⟩,
  ⟨(some 39), .build [.int .i64 0, .int .i64 0] [(0, 1)], [.r 38], none, [38]⟩,
  ⟨(some 40), .call 43, [.r 35, .r 39], none, [35, 39]⟩,
  ⟨(some 11), .mov, [.r 40], none, [40]⟩]) <|
.seq (.ops [⟨(some 41), .mov, [.r 0], none, [0]⟩,
  ⟨(some 42), .bin .rem, [.r 41, .k (.int .u8 3)], none, [41]⟩,
  ⟨(some 43), .conv .i64, [.r 42], none, [42]⟩,
  ⟨(some 44), .bin .add, [.k (.int .i64 63), .r 43], none, [43]⟩,
  ⟨(some 12), .mov, [.r 44], none, [44]⟩]) <|
.seq (.seq (.ops [⟨(some 13), .mov, [.k (.int .i64 0)], none, []⟩]) <|
.block 2 (.loop m11_0)) <|
.seq (.ops [⟨(some 71), .mov, [.r 10], none, [1, 10, 13, 47]⟩,
  ⟨(some 72), .bin .eql, [.r 71, .k (.int .i64 10)], none, [71]⟩,
  ⟨(some 73), .mov, [.r 72], none, [72]⟩,
  ⟨(some 74), .mov, [.r 11], (some (73, true)), [11]⟩,
  ⟨(some 75), .bin .eql, [.r 74, .k (.int .i64 10)], (some (73, true)), [74]⟩,
  ⟨(some 76), .pick, [.r 73, .r 75, .k (.bool false)], none, [73, 75]⟩,
  ⟨(some 77), .mov, [.r 76], none, [76]⟩,
  ⟨(some 78), .mov, [.r 7], (some (77, true)), []⟩,
  ⟨(some 79), .call 52, [.r 78], (some (77, true)), [78]⟩,
  ⟨(some 80), .mov, [.r 12], (some (77, true)), [12]⟩,
  ⟨(some 81), .minmax false, [.r 80, .k (.int .i64 64)], (some (77, true)), [80]⟩,
  ⟨(some 82), .bin .eql, [.r 79, .r 81], (some (77, true)), [79, 81]⟩,
  ⟨(some 83), .pick, [.r 77, .r 82, .k (.bool false)], none, [77, 82]⟩,
  ⟨(some 84), .mov, [.r 83], none, [83]⟩,
  ⟨(some 85), .mov, [.r 7], (some (84, true)), [7]⟩,
  ⟨(some 86), .call 51, [.r 85], (some (84, true)), [85]⟩,
  ⟨(some 87), .mov, [.r 9], (some (84, true)), [9]⟩,
  ⟨(some 88), .bin .eql, [.r 86, .r 87], (some (84, true)), [86, 87]⟩,
  ⟨(some 89), .pick, [.r 84, .r 88, .k (.bool false)], none, [84, 88]⟩,
  ⟨(some 6), .mov, [.r 89], none, [89]⟩]) <|
.ret⟩
theorem c11 : cFn Try.prog 11 = some m11.bare := by kernel_rfl

/-- 'swingbridge/swingbridgelaw5.ClockDrops' -/
def m12_0 : MCode := .seq (.seq (.ops [⟨(some 54), .mov, [.r 10], none, []⟩,
      ⟨(some 55), .bin .lss, [.r 54, .k (.int .i64 30)], none, [54]⟩]) <|
    .cond (.r 55)
      (.skip)
      (.exit 0)) <|
    .seq (.block 1 (.seq (.ops [⟨(some 58), .mov, [.r 7], none, [55]⟩,
        ⟨(some 59), .call 47, [.r 58], none, [58]⟩,
        ⟨(some 11), .mov, [.r 59], none, [59]⟩]) <|
      .seq (.ops [⟨(some 60), .mov, [.r 11], none, [11]⟩,
        ⟨(some 61), .len, [.r 60], none, [60]⟩,
        ⟨(some 62), .bin .eql, [.r 61, .k (.int .i64 1)], none, [61]⟩,
        ⟨(some 63), .mov, [.r 10], none, []⟩,
        ⟨(some 64), .mov, [.r 8], none, []⟩,
        ⟨(some 65), .mov, [.r 9], none, []⟩,
        ⟨(some 66), .minmax true, [.r 64, .r 65], none, [64, 65]⟩,
        ⟨(some 67), .bin .eql, [.r 63, .r 66], none, [63, 66]⟩,
        ⟨(some 68), .eqv true .bool, [.r 62, .r 67], none, [62, 67]⟩]) <|
      .cond (.r 68)
        (.seq (.ops [⟨(some 6), .mov, [.k (.bool false)], none, [2, 7, 8, 9, 10, 68]⟩]) <|
        .ret)
        (.skip))) <|
    .ops [⟨(some 56), .mov, [.r 10], none, [10, 68]⟩,
      ⟨(some 57), .bin .add, [.r 56, .k (.int .i64 1)], none, [56]⟩,
      ⟨(some 10), .mov, [.r 57], none, [57]⟩]
def m12 : MFn := ⟨[.tmp 6], .seq (.ops [⟨(some 6), .mov, [.k (.bool false)], none, [6]⟩]) <|
.seq (.seq (.ops [⟨(some 12), .call 41, [], none, []⟩,
  ⟨(some 13), .un .not, [.r 12], none, [12]⟩]) <|
.cond (.r 13)
  (.seq (.ops [⟨(some 6), .mov, [.k (.bool false)], none, [0, 1, 2, 13]⟩]) <|
  .ret)
  (.skip)) <|
.seq (.ops [⟨(some 14), .call 42, [], none, [13]⟩,
  ⟨(some 7), .mov, [.r 14], none, [14]⟩]) <|
.seq (.ops [⟨(some 15), .mov, [.r 0], none, [0]⟩,
  ⟨(some 16), .bin .rem, [.r 15, .k (.int .u8 30)], none, [15]⟩,
  ⟨(some 17), .conv .i64, [.r 16], none, [16]⟩,
  ⟨(some 18), .mov, [.r 1], none, [1]⟩,
  ⟨(some 19), .bin .rem, [.r 18, .k (.int .u8 30)], none, [18]⟩,
  ⟨(some 20), .conv .i64, [.r 19], none, [19]⟩,
  ⟨(some 8), .mov, [.r 17], none, [17]⟩,
  ⟨(some 9), .mov, [.r 20], none, [20]⟩]) <|
.seq (.ops [⟨(some 21), .mov, [.r 7], none, []⟩,
  ⟨(some 22), .mov, [.r 8], none, []⟩,
  ⟨(some 23), .mov, [.r 2], none, []⟩,
  ⟨(some 24), .conv .i64, [.r 23], none, [23]⟩,
  ⟨(some 25), .build [.int .i64 0, .int .i64 0] [(0, 1), (1, 1)], [.r 22, .r 24], none, [22, 24]⟩,
  ⟨(some 26), .call 43, [.r 21, .r 25], none, [21, 25, 26]⟩]) <|
.seq (.ops [⟨(some 27), .mov, [.r 7], none, []⟩,
  ⟨(some 28), .mov, [.r 9], none, []⟩,
  ⟨(some 29), .mov, [.r 2], none, []⟩,
  ⟨(some 30), .conv .i64, [.r 29], none, [29]⟩,
  ⟨(some 31), .build [.int .i64 0, .int .i64 0] [(0, 1), (1, 1)], [.r 28, .r 30], none, [28, 30]⟩,
  ⟨(some 32), .call 43, [.r 27, .r 31], none, [27, 31, 32]⟩]) <|
.seq (.seq (.ops [⟨(some 33), .mov, [.r 7], none, []⟩,
  ⟨(some 34), .mov, [.r 2], none, []⟩,
  ⟨(some 35), .conv .i64, [.r 34], none, [34]⟩,
  ⟨(some 36), .call 45, [.r 33, .r 35], none, [33, 35]⟩,
  ⟨(some 37), .un .not, [.r 36], none, [36]⟩,
  ⟨(some 38), .mov, [.r 37], none, [37]⟩,
  ⟨(some 39), .mov, [.r 7], (some (38, false)), []⟩,
  ⟨(some 40), .call 52, [.r 39], (some (38, false)), [39]⟩,
  ⟨(some 41), .bin .neq, [.r 40, .k (.int .i64 1)], (some (38, false)), [40]⟩,
  ⟨(some 42), .pick, [.r 38, .k (.bool true), .r 41], none, [38, 41]⟩,
  ⟨(some 43), .mov, [.r 42], none, [42]⟩,
  ⟨(some 44), .mov, [.r 7], (some (43, false)), []⟩,
  ⟨(some 45), .call 50, [.r 44], (some (43, false)), [44]⟩,
  ⟨(some 46), .ia 2, [.r 45, .k (.int .i64 0)], (some (43, false)), [45]⟩,
  ⟨(some 47), .fa 0, [.r 46], (some (43, false)), [46]⟩,
  ⟨(some 48), .ld none, [.r 47], (some (43, false)), [47]⟩,
  ⟨(some 49), .mov, [.r 8], (some (43, false)), []⟩,
  ⟨(some 50), .mov, [.r 9], (some (43, false)), []⟩,
  ⟨(some 51), .minmax true, [.r 49, .r 50], (some (43, false)), [49, 50]⟩,
  ⟨(some 52), .bin .neq, [.r 48, .r 51], (some (43, false)), [48, 51]⟩,
  ⟨(some 53), .pick, [.r 43, .k (.bool true), .r 52], none, [43, 52]⟩]) <|
.cond (.r 53)
  (.seq (.ops [⟨(some 6), .mov, [.k (.bool false)], none, [2, 7, 8, 9, 53]⟩]) <|
  .ret)
  (.skip)) <|
.seq (.seq (.ops [⟨(some 10), .mov, [.k (.int .i64 0)], none, [53]⟩]) <|
.block 0 (.loop m12_0)) <|
.seq (.ops [⟨(some 69), .mov, [.r 7], none, [7, 8, 9, 10, 55]⟩,
  ⟨(some 70), .mov, [.r 2], none, [2]⟩,
  ⟨(some 71), .conv .i64, [.r 70], none, [70]⟩,
  ⟨(some 72), .call 45, [.r 69, .r 71], none, [69, 71]⟩,
  ⟨(some 73), .un .not, [.r 72], none, [72]⟩,
  ⟨(some 6), .mov, [.r 73], none, [73]⟩]) <|
.ret⟩
theorem c12 : cFn Try.prog 12 = some m12.bare := by kernel_rfl

/-- 'swingbridge/swingbridgeref2.SameInts' -/
def m38_0 : MCode := .seq (.seq (.ops [⟨(some 11), .mov, [.r 5], none, []⟩,
      ⟨(some 12), .mov, [.r 0], none, []⟩,
      ⟨(some 13), .len, [.r 12], none, [12]⟩,
      ⟨(some 14), .bin .lss, [.r 11, .r 13], none, [11, 13]⟩]) <|
    .cond (.r 14)
      (.skip)
      (.exit 0)) <|
    .seq (.block 1 (.seq (.draw [⟨(some 17), .mov, [.r 0], none, [14]⟩,
        ⟨(some 18), .mov, [.r 5], none, []⟩,
        ⟨(some 19), .ia 1, [.r 17, .r 18], none, [17, 18]⟩,
        ⟨(some 20), .ld none, [.r 19], none, [19]⟩,
        ⟨(some 21), .mov, [.r 1], none, []⟩,
        ⟨(some 22), .mov, [.r 5], none, []⟩,
        ⟨(some 23), .ia 1, [.r 21, .r 22], none, [21, 22]⟩,
        ⟨(some 24), .ld none, [.r 23], none, [23]⟩,
        ⟨(some 25), .bin .neq, [.r 20, .r 24], none, [20, 24]⟩] []) <|
      .cond (.r 25)
        (.seq (.ops [⟨(some 4), .mov, [.k (.bool false)], none, [0, 1, 5, 25]⟩]) <|
        .ret)
        (.skip))) <|
    .ops [⟨(some 15), .mov, [.r 5], none, [5, 25]⟩,
      ⟨(some 16), .bin .add, [.r 15, .k (.int .i64 1)], none, [15]⟩,
      ⟨(some 5), .mov, [.r 16], none, [16]⟩]
def m38 : MFn := ⟨[.tmp 4], .seq (.ops [⟨(some 4), .mov, [.k (.bool false)], none, [4]⟩]) <|
.seq (.seq (.ops [⟨(some 6), .mov, [.r 0], none, []⟩,
  ⟨(some 7), .len, [.r 6], none, [6]⟩,
  ⟨(some 8), .mov, [.r 1], none, []⟩,
  ⟨(some 9), .len, [.r 8], none, [8]⟩,
  ⟨(some 10), .bin .neq, [.r 7, .r 9], none, [7, 9]⟩]) <|
.cond (.r 10)
  (.seq (.ops [⟨(some 4), .mov, [.k (.bool false)], none, [0, 1, 10]⟩]) <|
  .ret)
  (.skip)) <|
.seq (.seq (.ops [⟨(some 5), .mov, [.k (.int .i64 0)], none, [10]⟩]) <|
.block 0 (.loop m38_0)) <|
.seq (.ops [⟨(some 4), .mov, [.k (.bool true)], none, [0, 1, 5, 14]⟩]) <|
.ret⟩
theorem c38 : cFn Try.prog 38 = some m38.bare := by kernel_rfl

/-- 'swingbridge/swingbridgelaw5.known' -/
def m41 : MFn := ⟨[.tmp 0], .seq (.ops [⟨(some 0), .mov, [.k (.bool false)], none, [0]⟩]) <|
.seq (.ops [⟨(some 8), .call 42, [], none, []⟩,
  ⟨(some 1), .mov, [.r 8], none, [8]⟩]) <|
.seq (.seq (.ops [⟨(some 9), .mov, [.r 1], none, []⟩,
  ⟨(some 10), .eqv false .ptr, [.r 9, .k (.pointer none)], none, [9]⟩]) <|
.cond (.r 10)
  (.seq (.ops [⟨(some 0), .mov, [.k (.bool false)], none, [1, 10]⟩]) <|
  .ret)
  (.skip)) <|
.seq (.ops [⟨(some 11), .mov, [.r 1], none, [10]⟩,
  ⟨(some 12), .build [.int .i64 0, .int .i64 0] [(0, 1), (1, 1)], [.k (.int .i64 1), .k (.int .i64 7)], none, []⟩,
  ⟨(some 13), .call 43, [.r 11, .r 12], none, [11, 12]⟩,
  ⟨(some 14), .mov, [.r 1], none, []⟩,
  ⟨(some 15), .build [.int .i64 0, .int .i64 0] [(1, 1)], [.k (.int .i64 8)], none, []⟩,
  ⟨(some 16), .call 43, [.r 14, .r 15], none, [14, 15]⟩,
  ⟨(some 17), .mov, [.r 1], none, []⟩,
  ⟨(some 18), .build [.int .i64 0, .int .i64 0] [(0, 1)], [.k (.int .i64 (-1))], none, []⟩,
  ⟨(some 19), .call 43, [.r 17, .r 18], none, [17, 18]⟩,
  ⟨(some 2), .mov, [.r 13], none, [13]⟩,
  ⟨(some 3), .mov, [.r 16], none, [16]⟩,
  ⟨(some 4), .mov, [.r 19], none, [19]⟩]) <|
.seq (.ops [⟨(some 20), .mov, [.r 1], none, []⟩,
  ⟨(some 21), .call 47, [.r 20], none, [20]⟩,
  ⟨(some 5), .mov, [.r 21], none, [21]⟩]) <|
.seq (.ops [⟨(some 22), .mov, [.r 1], none, []⟩,
  ⟨(some 23), .build [.int .i64 0, .int .i64 0] [], [], none, []⟩,
  ⟨(some 24), .call 43, [.r 22, .r 23], none, [22, 23]⟩,
  ⟨(some 6), .mov, [.r 24], none, [24]⟩]) <|
.seq (.ops [⟨(some 25), .mov, [.r 1], none, []⟩,
  ⟨(some 26), .call 47, [.r 25], none, [25]⟩,
  ⟨(some 7), .mov, [.r 26], none, [26]⟩]) <|
.seq (.ops [⟨(some 27), .mov, [.r 2], none, [2]⟩,
  ⟨(some 28), .bin .eql, [.r 27, .k (.int .i64 0)], none, [27]⟩,
  ⟨(some 29), .mov, [.r 28], none, [28]⟩,
  ⟨(some 30), .mov, [.r 3], (some (29, true)), [3]⟩,
  ⟨(some 31), .bin .eql, [.r 30, .k (.int .i64 0)], (some (29, true)), [30]⟩,
  ⟨(some 32), .pick, [.r 29, .r 31, .k (.bool false)], none, [29, 31]⟩,
  ⟨(some 33), .mov, [.r 32], none, [32]⟩,
  ⟨(some 34), .mov, [.r 4], (some (33, true)), [4]⟩,
  ⟨(some 35), .bin .eql, [.r 34, .k (.int .i64 10)], (some (33, true)), [34]⟩,
  ⟨(some 36), .pick, [.r 33, .r 35, .k (.bool false)], none, [33, 35]⟩,
  ⟨(some 37), .mov, [.r 36], none, [36]⟩,
  ⟨(some 38), .mov, [.r 5], (some (37, true)), []⟩,
  ⟨(some 39), .len, [.r 38], (some (37, true)), [38]⟩,
  ⟨(some 40), .bin .eql, [.r 39, .k (.int .i64 1)], (some (37, true)), [39]⟩,
  ⟨(some 41), .pick, [.r 37, .r 40, .k (.bool false)], none, [37, 40]⟩,
  ⟨(some 42), .mov, [.r 41], none, [41]⟩,
  ⟨(some 43), .mov, [.r 5], (some (42, true)), [5]⟩,
  ⟨(some 44), .ia 1, [.r 43, .k (.int .i64 0)], (some (42, true)), [43]⟩,
  ⟨(some 45), .ld none, [.r 44], (some (42, true)), [44]⟩,
  ⟨(some 46), .bin .eql, [.r 45, .k (.int .i64 8)], (some (42, true)), [45]⟩,
  ⟨(some 47), .pick, [.r 42, .r 46, .k (.bool false)], none, [42, 46]⟩,
  ⟨(some 48), .mov, [.r 47], none, [47]⟩,
  ⟨(some 49), .mov, [.r 6], (some (48, true)), [6]⟩,
  ⟨(some 50), .bin .eql, [.r 49, .k (.int .i64 10)], (some (48, true)), [49]⟩,
  ⟨(some 51), .pick, [.r 48, .r 50, .k (.bool false)], none, [48, 50]⟩,
  ⟨(some 52), .mov, [.r 51], none, [51]⟩,
  ⟨(some 53), .mov, [.r 7], (some (52, true)), []⟩,
  ⟨(some 54), .len, [.r 53], (some (52, true)), [53]⟩,
  ⟨(some 55), .bin .eql, [.r 54, .k (.int .i64 1)], (some (52, true)), [54]⟩,
  ⟨(some 56), .pick, [.r 52, .r 55, .k (.bool false)], none, [52, 55]⟩,
  ⟨(some 57), .mov, [.r 56], none, [56]⟩,
  ⟨(some 58), .mov, [.r 7], (some (57, true)), [7]⟩,
  ⟨(some 59), .ia 1, [.r 58, .k (.int .i64 0)], (some (57, true)), [58]⟩,
  ⟨(some 60), .ld none, [.r 59], (some (57, true)), [59]⟩,
  ⟨(some 61), .bin .eql, [.r 60, .k (.int .i64 7)], (some (57, true)), [60]⟩,
  ⟨(some 62), .pick, [.r 57, .r 61, .k (.bool false)], none, [57, 61]⟩,
  ⟨(some 63), .mov, [.r 62], none, [62]⟩,
  ⟨(some 64), .mov, [.r 1], (some (63, true)), []⟩,
  ⟨(some 65), .call 51, [.r 64], (some (63, true)), [64]⟩,
  ⟨(some 66), .bin .eql, [.r 65, .k (.int .i64 2)], (some (63, true)), [65]⟩,
  ⟨(some 67), .pick, [.r 63, .r 66, .k (.bool false)], none, [63, 66]⟩,
  ⟨(some 68), .mov, [.r 67], none, [67]⟩,
  ⟨(some 69), .mov, [.r 1], (some (68, true)), []⟩,
  ⟨(some 70), .call 52, [.r 69], (some (68, true)), [69]⟩,
  ⟨(some 71), .bin .eql, [.r 70, .k (.int .i64 0)], (some (68, true)), [70]⟩,
  ⟨(some 72), .pick, [.r 68, .r 71, .k (.bool false)], none, [68, 71]⟩,
  ⟨(some 73), .mov, [.r 72], none, [72]⟩,
  ⟨(some 74), .mov, [.r 1], (some (73, true)), []⟩,
  ⟨(some 75), .call 50, [.r 74], (some (73, true)), [74]⟩,
  ⟨(some 76), .len, [.r 75], (some (73, true)), [75]⟩,
  ⟨(some 77), .bin .eql, [.r 76, .k (.int .i64 0)], (some (73, true)), [76]⟩,
  ⟨(some 78), .pick, [.r 73, .r 77, .k (.bool false)], none, [73, 77]⟩,
  ⟨(some 79), .mov, [.r 78], none, [78]⟩,
  ⟨(some 80), .mov, [.r 1], (some (79, true)), [1]⟩,
  ⟨(some 81), .call 45, [.r 80, .k (.int .i64 7)], (some (79, true)), [80]⟩,
  ⟨(some 82), .un .not, [.r 81], (some (79, true)), [81]⟩,
  ⟨(some 83), .pick, [.r 79, .r 82, .k (.bool false)], none, [79, 82]⟩,
  ⟨(some 0), .mov, [.r 83], none, [83]⟩]) <|
.ret⟩
theorem c41 : cFn Try.prog 41 = some m41.bare := by kernel_rfl

/-- 'swingbridge/clock.New' -/
def m42 : MFn := ⟨[.tmp 0], .seq (.ops [⟨(some 0), .mov, [.k (.pointer none)], none, [0]⟩]) <|
.seq (.ops [⟨(some 1), .mkchan 0, [.k (.int .i64 64)], none, []⟩,
  ⟨(some 2), .build [.int .i64 0, .slice none 0 0, .chan none] [(2, 1)], [.r 1], none, [1]⟩,
  ⟨(some 3), .box, [.r 2], none, [2]⟩,
  ⟨(some 0), .mov, [.r 3], none, [3]⟩]) <|
.ret⟩
theorem c42 : cFn Try.prog 42 = some m42.bare := by kernel_rfl

/-- '(*swingbridge/clock.Clock).Put' -/
def m43_0 : MCode := .seq (.seq (.ops [⟨(some 31), .mov, [.r 5], none, []⟩,
      ⟨(some 32), .bin .gtr, [.r 31, .k (.int .i64 0)], none, [31]⟩]) <|
    .cond (.r 32)
      (.skip)
      (.exit 1)) <|
    .block 2 (.seq (.seq (.draw [⟨(some 33), .mov, [.r 0], none, [32]⟩,
        ⟨(some 34), .nilck, [.r 33], none, [33]⟩,
        ⟨(some 35), .fa 1, [.r 34], none, [34]⟩,
        ⟨(some 36), .ld none, [.r 35], none, [35]⟩,
        ⟨(some 37), .mov, [.r 5], none, []⟩,
        ⟨(some 38), .bin .sub, [.r 37, .k (.int .i64 1)], none, [37]⟩,
        ⟨(some 39), .ia 2, [.r 36, .r 38], none, [36, 38]⟩,
        ⟨(some 40), .fa 0, [.r 39], none, [39]⟩,
        ⟨(some 41), .ld none, [.r 40], none, [40]⟩,
        ⟨(some 42), .fa 0, [.r 3], none, []⟩,
        ⟨(some 43), .ld none, [.r 42], none, [42]⟩,
        ⟨(some 44), .bin .leq, [.r 41, .r 43], none, [41, 43]⟩] []) <|
      .cond (.r 44)
        (.exit 1)
        (.skip)) <|
      .ops [⟨(some 45), .mov, [.r 5], none, [5, 44]⟩,
        ⟨(some 46), .bin .sub, [.r 45, .k (.int .i64 1)], none, [45]⟩,
        ⟨(some 5), .mov, [.r 46], none, [46]⟩])
def m43 : MFn := ⟨[.tmp 4], .seq (.ops [⟨(some 3), .box, [.r 1], none, [1]⟩,
  ⟨(some 4), .mov, [.k (.int .i64 0)], none, [4]⟩]) <|
.seq (.seq (.draw [⟨(some 6), .fa 0, [.r 3], none, []⟩,
  ⟨(some 7), .ld none, [.r 6], none, [6]⟩,
  ⟨(some 8), .mov, [.r 0], none, []⟩,
  ⟨(some 9), .nilck, [.r 8], none, [8]⟩,
  ⟨(some 10), .fa 0, [.r 9], none, [9]⟩,
  ⟨(some 11), .ld none, [.r 10], none, [10]⟩,
  ⟨(some 12), .bin .lss, [.r 7, .r 11], none, [7, 11]⟩,
  ⟨(some 13), .mov, [.r 12], none, [12]⟩,
  ⟨(some 14), .fa 0, [.r 3], (some (13, false)), []⟩,
  ⟨(some 15), .ld none, [.r 14], (some (13, false)), [14]⟩,
  ⟨(some 16), .bin .gtr, [.r 15, .k (.int .i64 1000000)], (some (13, false)), [15]⟩,
  ⟨(some 17), .pick, [.r 13, .k (.bool true), .r 16], none, [13, 16]⟩] []) <|
.cond (.r 17)
  (.seq (.ops [⟨(some 4), .mov, [.k (.int .i64 10)], none, [0, 3, 17]⟩]) <|
  .ret)
  (.skip)) <|
.seq (.seq (.seq (.ops [⟨(some 18), .mov, [.r 0], none, [17]⟩,
  ⟨(some 19), .nilck, [.r 18], none, [18]⟩,
  ⟨(some 20), .fa 2, [.r 19], none, [19]⟩,
  ⟨(some 21), .ld none, [.r 20], none, [20]⟩]) <|
.ops [⟨(some 22), .build [] [], [], none, []⟩]) <|
.seq (.ops [⟨(some 23), .sel1 true (.agg #[]) false, [.r 21, .r 22], none, [21, 22]⟩,
  ⟨(some 24), .extract 0, [.r 23], none, [23]⟩,
  ⟨(some 25), .bin .eql, [.r 24, .k (.int .i64 0)], none, [24]⟩]) <|
.block 0 (.cond (.r 25)
    (.skip)
    (.seq (.ops [⟨(some 4), .mov, [.k (.int .i64 12)], none, [0, 3, 25]⟩]) <|
    .ret))) <|
.seq (.ops [⟨(some 26), .mov, [.r 0], none, [25]⟩,
  ⟨(some 27), .nilck, [.r 26], none, [26]⟩,
  ⟨(some 28), .fa 1, [.r 27], none, [27]⟩,
  ⟨(some 29), .ld none, [.r 28], none, [28]⟩,
  ⟨(some 30), .len, [.r 29], none, [29]⟩,
  ⟨(some 5), .mov, [.r 30], none, [30]⟩]) <|
.seq (.skip) <|
.seq (.block 1 (.loop m43_0)) <|
.seq (.draw [⟨(some 47), .mov, [.r 0], none, [32, 44]⟩,
  ⟨(some 48), .mov, [.r 0], none, [0]⟩,
  ⟨(some 49), .nilck, [.r 48], none, [48]⟩,
  ⟨(some 50), .fa 1, [.r 49], none, [49]⟩,
  ⟨(some 51), .ld none, [.r 50], none, [50]⟩,
  ⟨(some 52), .mov, [.r 5], none, [5]⟩,
  ⟨(some 53), .ld (some 2), [.r 3], none, [3]⟩,
  ⟨(some 54), .bslice 2 1 [.int .i64 0, .int .i64 0] [(0, 2)], [.r 53], none, [53]⟩,
  ⟨(some 55), .call 75, [.r 51, .r 52, .r 54], none, [51, 52, 54]⟩,
  ⟨(some 56), .nilck, [.r 47], none, [47]⟩,
  ⟨(some 57), .fa 1, [.r 56], none, [56]⟩,
  ⟨none, .st 1, [.r 57, .r 55], none, [55, 57]⟩] []) <|
.seq (.ops [⟨(some 4), .mov, [.k (.int .i64 0)], none, []⟩]) <|
.ret⟩
theorem c43 : cFn Try.prog 43 = some m43.bare := by kernel_rfl

/-- '(*swingbridge/swingbridgeref2.Clock).Put' -/
def m44_0 : MCode := .seq (.seq (.ops [⟨(some 26), .mov, [.r 7], none, []⟩,
      ⟨(some 27), .mov, [.r 0], none, []⟩,
      ⟨(some 28), .nilck, [.r 27], none, [27]⟩,
      ⟨(some 29), .fa 0, [.r 28], none, [28]⟩,
      ⟨(some 30), .ld none, [.r 29], none, [29]⟩,
      ⟨(some 31), .len, [.r 30], none, [30]⟩,
      ⟨(some 32), .bin .lss, [.r 26, .r 31], none, [26, 31]⟩]) <|
    .cond (.r 32)
      (.skip)
      (.exit 0)) <|
    .seq (.block 1 (.seq (.seq (.draw [⟨(some 35), .mov, [.r 6], none, [32]⟩,
        ⟨(some 36), .un .not, [.r 35], none, [35]⟩,
        ⟨(some 37), .mov, [.r 36], none, [36]⟩,
        ⟨(some 38), .mov, [.r 0], (some (37, true)), []⟩,
        ⟨(some 39), .nilck, [.r 38], (some (37, true)), [38]⟩,
        ⟨(some 40), .fa 0, [.r 39], (some (37, true)), [39]⟩,
        ⟨(some 41), .ld none, [.r 40], (some (37, true)), [40]⟩,
        ⟨(some 42), .mov, [.r 7], (some (37, true)), []⟩,
        ⟨(some 43), .ia 2, [.r 41, .r 42], (some (37, true)), [41, 42]⟩,
        ⟨(some 44), .fa 0, [.r 43], (some (37, true)), [43]⟩,
        ⟨(some 45), .ld none, [.r 44], (some (37, true)), [44]⟩,
        ⟨(some 46), .fa 0, [.r 3], (some (37, true)), []⟩,
        ⟨(some 47), .ld none, [.r 46], (some (37, true)), [46]⟩,
        ⟨(some 48), .bin .gtr, [.r 45, .r 47], (some (37, true)), [45, 47]⟩,
        ⟨(some 49), .pick, [.r 37, .r 48, .k (.bool false)], none, [37, 48]⟩] []) <|
      .cond (.r 49)
        (.seq (.ops [⟨(some 50), .mov, [.r 5], none, [5, 6, 49]⟩,
          ⟨(some 51), .ld (some 2), [.r 3], none, []⟩,
          ⟨(some 52), .bslice 2 1 [.int .i64 0, .int .i64 0] [(0, 2)], [.r 51], none, [51]⟩,
          ⟨(some 53), .app 2 16, [.r 50, .r 52], none, [50, 52]⟩,
          ⟨(some 5), .mov, [.r 53], none, [53]⟩]) <|
        .ops [⟨(some 6), .mov, [.k (.bool true)], none, []⟩])
        (.skip)) <|
      .ops [⟨(some 54), .mov, [.r 5], none, [5, 49]⟩,
        ⟨(some 55), .mov, [.r 0], none, []⟩,
        ⟨(some 56), .nilck, [.r 55], none, [55]⟩,
        ⟨(some 57), .fa 0, [.r 56], none, [56]⟩,
        ⟨(some 58), .ld none, [.r 57], none, [57]⟩,
        ⟨(some 59), .mov, [.r 7], none, []⟩,
        ⟨(some 60), .ia 2, [.r 58, .r 59], none, [58, 59]⟩,
        ⟨(some 61), .ld (some 2), [.r 60], none, [60]⟩,
        ⟨(some 62), .bslice 2 1 [.int .i64 0, .int .i64 0] [(0, 2)], [.r 61], none, [61]⟩,
        ⟨(some 63), .app 2 16, [.r 54, .r 62], none, [54, 62]⟩,
        ⟨(some 5), .mov, [.r 63], none, [63]⟩])) <|
    .ops [⟨(some 33), .mov, [.r 7], none, [7]⟩,
      ⟨(some 34), .bin .add, [.r 33, .k (.int .i64 1)], none, [33]⟩,
      ⟨(some 7), .mov, [.r 34], none, [34]⟩]
def m44 : MFn := ⟨[.tmp 4], .seq (.ops [⟨(some 3), .box, [.r 1], none, [1]⟩,
  ⟨(some 4), .mov, [.k (.int .i64 0)], none, [4]⟩]) <|
.seq (.seq (.draw [⟨(some 8), .fa 0, [.r 3], none, []⟩,
  ⟨(some 9), .ld none, [.r 8], none, [8]⟩,
  ⟨(some 10), .mov, [.r 0], none, []⟩,
  ⟨(some 11), .nilck, [.r 10], none, [10]⟩,
  ⟨(some 12), .fa 1, [.r 11], none, [11]⟩,
  ⟨(some 13), .ld none, [.r 12], none, [12]⟩,
  ⟨(some 14), .bin .lss, [.r 9, .r 13], none, [9, 13]⟩,
  ⟨(some 15), .mov, [.r 14], none, [14]⟩,
  ⟨(some 16), .fa 0, [.r 3], (some (15, false)), []⟩,
  ⟨(some 17), .ld none, [.r 16], (some (15, false)), [16]⟩,
  ⟨(some 18), .bin .gtr, [.r 17, .k (.int .i64 1000000)], (some (15, false)), [17]⟩,
  ⟨(some 19), .pick, [.r 15, .k (.bool true), .r 18], none, [15, 18]⟩] []) <|
.cond (.r 19)
  (.seq (.ops [⟨(some 4), .mov, [.k (.int .i64 10)], none, [0, 3, 19]⟩]) <|
  .ret)
  (.skip)) <|
.seq (.seq (.ops [⟨(some 20), .mov, [.r 0], none, [19]⟩,
  ⟨(some 21), .nilck, [.r 20], none, [20]⟩,
  ⟨(some 22), .fa 0, [.r 21], none, [21]⟩,
  ⟨(some 23), .ld none, [.r 22], none, [22]⟩,
  ⟨(some 24), .len, [.r 23], none, [23]⟩,
  ⟨(some 25), .bin .geq, [.r 24, .k (.int .i64 64)], none, [24]⟩]) <|
.cond (.r 25)
  (.seq (.ops [⟨(some 4), .mov, [.k (.int .i64 12)], none, [0, 3, 25]⟩]) <|
  .ret)
  (.skip)) <|
.seq (.ops [⟨(some 5), .mov, [.k (.slice none 0 0)], none, [25]⟩]) <|
.seq (.ops [⟨(some 6), .mov, [.k (.bool false)], none, []⟩]) <|
.seq (.seq (.ops [⟨(some 7), .mov, [.k (.int .i64 0)], none, []⟩]) <|
.block 0 (.loop m44_0)) <|
.seq (.seq (.ops [⟨(some 64), .mov, [.r 6], none, [6, 7, 32]⟩,
  ⟨(some 65), .un .not, [.r 64], none, [64]⟩]) <|
.cond (.r 65)
  (.ops [⟨(some 66), .mov, [.r 5], none, [5, 65]⟩,
    ⟨(some 67), .ld (some 2), [.r 3], none, [3]⟩,
    ⟨(some 68), .bslice 2 1 [.int .i64 0, .int .i64 0] [(0, 2)], [.r 67], none, [67]⟩,
    ⟨(some 69), .app 2 16, [.r 66, .r 68], none, [66, 68]⟩,
    ⟨(some 5), .mov, [.r 69], none, [69]⟩])
  (.skip)) <|
.seq (.ops [⟨(some 70), .mov, [.r 0], none, [0, 3, 65]⟩,
  ⟨(some 71), .mov, [.r 5], none, [5]⟩,
  ⟨(some 72), .nilck, [.r 70], none, [70]⟩,
  ⟨(some 73), .fa 0, [.r 72], none, [72]⟩,
  ⟨none, .st 1, [.r 73, .r 71], none, [71, 73]⟩]) <|
.seq (.ops [⟨(some 4), .mov, [.k (.int .i64 0)], none, []⟩]) <|
.ret⟩
theorem c44 : cFn Try.prog 44 = some m44.bare := by kernel_rfl

/-- '(*swingbridge/clock.Clock).Drop' -/
def m45 : MFn := ⟨[.tmp 4], .seq (.ops [⟨(some 3), .box, [.r 1], none, [1]⟩,
  ⟨(some 4), .mov, [.k (.bool false)], none, [4]⟩]) <|
.seq (.ops [⟨(some 6), .mov, [.r 0], none, []⟩,
  ⟨(some 7), .nilck, [.r 6], none, [6]⟩,
  ⟨(some 8), .fa 1, [.r 7], none, [7]⟩,
  ⟨(some 9), .ld none, [.r 8], none, [8]⟩,
  ⟨(some 10), .mkfunc 77, [.r 3], none, [3]⟩,
  ⟨(some 11), .call 76, [.r 9, .r 10], none, [9, 10]⟩,
  ⟨(some 5), .mov, [.r 11], none, [11]⟩]) <|
.seq (.seq (.ops [⟨(some 12), .mov, [.r 5], none, []⟩,
  ⟨(some 13), .bin .lss, [.r 12, .k (.int .i64 0)], none, [12]⟩]) <|
.cond (.r 13)
  (.seq (.ops [⟨(some 4), .mov, [.k (.bool false)], none, [0, 5, 13]⟩]) <|
  .ret)
  (.skip)) <|
.seq (.ops [⟨(some 14), .mov, [.r 0], none, [0, 13]⟩,
  ⟨(some 15), .mov, [.r 5], none, [5]⟩,
  ⟨(some 16), .call 78, [.r 14, .r 15, .k (.int .i64 1)], none, [14, 15, 16]⟩]) <|
.seq (.ops [⟨(some 4), .mov, [.k (.bool true)], none, []⟩]) <|
.ret⟩
theorem c45 : cFn Try.prog 45 = some m45.bare := by kernel_rfl

/-- '(*swingbridge/swingbridgeref2.Clock).Drop' -/
def m46_0 : MCode := .seq (.seq (.ops [⟨(some 6), .mov, [.r 5], none, []⟩,
      ⟨(some 7), .mov, [.r 0], none, []⟩,
      ⟨(some 8), .nilck, [.r 7], none, [7]⟩,
      ⟨(some 9), .fa 0, [.r 8], none, [8]⟩,
      ⟨(some 10), .ld none, [.r 9], none, [9]⟩,
      ⟨(some 11), .len, [.r 10], none, [10]⟩,
      ⟨(some 12), .bin .lss, [.r 6, .r 11], none, [6, 11]⟩]) <|
    .cond (.r 12)
      (.skip)
      (.exit 0)) <|
    .seq (.block 1 (.seq (.ops [⟨(some 15), .mov, [.r 0], none, [12]⟩,
        ⟨(some 16), .nilck, [.r 15], none, [15]⟩,
        ⟨(some 17), .fa 0, [.r 16], none, [16]⟩,
        ⟨(some 18), .ld none, [.r 17], none, [17]⟩,
        ⟨(some 19), .mov, [.r 5], none, []⟩,
        ⟨(some 20), .ia 2, [.r 18, .r 19], none, [18, 19]⟩,
        ⟨(some 21), .fa 1, [.r 20], none, [20]⟩,
        ⟨(some 22), .ld none, [.r 21], none, [21]⟩,
        ⟨(some 23), .mov, [.r 1], none, []⟩,
        ⟨(some 24), .bin .eql, [.r 22, .r 23], none, [22, 23]⟩]) <|
      .cond (.r 24)
        (.seq (.draw [⟨(some 25), .mov, [.r 0], none, [1, 24]⟩,
          ⟨(some 26), .mov, [.r 0], none, []⟩,
          ⟨(some 27), .nilck, [.r 26], none, [26]⟩,
          ⟨(some 28), .fa 0, [.r 27], none, [27]⟩,
          ⟨(some 29), .ld none, [.r 28], none, [28]⟩,
          ⟨(some 30), .mov, [.r 5], none, []⟩,
          ⟨(some 31), .sl 2 false true false, [.r 29, .r 30], none, [29, 30]⟩,
          ⟨(some 32), .app 2 16, [.k (.slice none 0 0), .r 31], none, [31]⟩,
          ⟨(some 33), .mov, [.r 0], none, [0]⟩,
          ⟨(some 34), .nilck, [.r 33], none, [33]⟩,
          ⟨(some 35), .fa 0, [.r 34], none, [34]⟩,
          ⟨(some 36), .ld none, [.r 35], none, [35]⟩,
          ⟨(some 37), .mov, [.r 5], none, [5]⟩,
          ⟨(some 38), .bin .add, [.r 37, .k (.int .i64 1)], none, [37]⟩,
          ⟨(some 39), .sl 2 true false false, [.r 36, .r 38], none, [36, 38]⟩,
          ⟨(some 40), .app 2 16, [.r 32, .r 39], none, [32, 39]⟩,
          ⟨(some 41), .nilck, [.r 25], none, [25]⟩,
          ⟨(some 42), .fa 0, [.r 41], none, [41]⟩,
          ⟨none, .st 1, [.r 42, .r 40], none, [40, 42]⟩] [(11, 7), (14, 7)]) <|
        .seq (.ops [⟨(some 4), .mov, [.k (.bool true)], none, []⟩]) <|
        .ret)
        (.skip))) <|
    .ops [⟨(some 13), .mov, [.r 5], none, [5, 24]⟩,
      ⟨(some 14), .bin .add, [.r 13, .k (.int .i64 1)], none, [13]⟩,
      ⟨(some 5), .mov, [.r 14], none, [14]⟩]
def m46 : MFn := ⟨[.tmp 4], .seq (.ops [⟨(some 4), .mov, [.k (.bool false)], none, [4]⟩]) <|
.seq (.seq (.ops [⟨(some 5), .mov, [.k (.int .i64 0)], none, []⟩]) <|
.block 0 (.loop m46_0)) <|
.seq (.ops [⟨(some 4), .mov, [.k (.bool false)], none, [0, 1, 5, 12]⟩]) <|
.ret⟩
theorem c46 : cFn Try.prog 46 = some m46.bare := by kernel_rfl

/-- '(*swingbridge/clock.Clock).Step' -/
def m47_0 : MCode := .seq (.ops [⟨(some 12), .bin .lss, [.r 11, .r 10], none, []⟩]) <|
    .seq (.cond (.r 12)
      (.skip)
      (.exit 0)) <|
    .seq (.block 1 (.seq (.ops [⟨(some 13), .ia 2, [.r 9, .r 11], none, [12]⟩,
        ⟨(some 14), .ld (some 2), [.r 13], none, [13]⟩,
        ⟨(some 5), .new 0 [.int .i64 0, .int .i64 0], [], none, []⟩,
        ⟨none, .st 2, [.r 5, .r 14], none, [14]⟩]) <|
      .seq (.seq (.draw [⟨(some 15), .fa 0, [.r 5], none, []⟩,
        ⟨(some 16), .ld none, [.r 15], none, [15]⟩,
        ⟨(some 17), .mov, [.r 0], none, []⟩,
        ⟨(some 18), .nilck, [.r 17], none, [17]⟩,
        ⟨(some 19), .fa 0, [.r 18], none, [18]⟩,
        ⟨(some 20), .ld none, [.r 19], none, [19]⟩,
        ⟨(some 21), .bin .gtr, [.r 16, .r 20], none, [16, 20]⟩] []) <|
      .cond (.r 21)
        (.exit 0)
        (.skip)) <|
      .ops [⟨(some 22), .mov, [.r 3], none, [3, 21]⟩,
        ⟨(some 23), .fa 1, [.r 5], none, [5]⟩,
        ⟨(some 24), .ld none, [.r 23], none, [23]⟩,
        ⟨(some 25), .bslice 1 1 [.int .i64 0] [(0, 1)], [.r 24], none, [24]⟩,
        ⟨(some 26), .app 1 8, [.r 22, .r 25], none, [22, 25]⟩,
        ⟨(some 3), .mov, [.r 26], none, [26]⟩])) <|
    .ops [⟨(some 27), .bin .add, [.r 11, .k (.int .i64 1)], none, [11]⟩,
      ⟨(some 11), .mov, [.r 27], none, [27]⟩]
def m47 : MFn := ⟨[.tmp 2], .seq (.ops [⟨(some 2), .mov, [.k (.slice none 0 0)], none, [2]⟩]) <|
.seq (.ops [⟨(some 3), .mov, [.k (.slice none 0 0)], none, []⟩]) <|
.seq (.skip) <|
.seq (.seq (.ops [⟨(some 6), .mov, [.r 0], none, []⟩,
  ⟨(some 7), .nilck, [.r 6], none, [6]⟩,
  ⟨(some 8), .fa 1, [.r 7], none, [7]⟩,
  ⟨(some 9), .ld none, [.r 8], none, [8]⟩,
  ⟨(some 10), .len, [.r 9], none, []⟩,
  ⟨(some 11), .mov, [.k (.int .i64 0)], none, []⟩]) <|
.block 0 (.loop m47_0)) <|
.seq (.ops [⟨(some 28), .mov, [.r 0], none, [5, 9, 10, 11, 12, 21]⟩,
  ⟨(some 29), .mov, [.r 3], none, []⟩,
  ⟨(some 30), .len, [.r 29], none, [29]⟩,
  ⟨(some 31), .call 78, [.r 28, .k (.int .i64 0), .r 30], none, [28, 30, 31]⟩]) <|
.seq (.ops [⟨(some 32), .mov, [.r 0], none, []⟩,
  ⟨(some 33), .mov, [.r 0], none, [0]⟩,
  ⟨(some 34), .nilck, [.r 33], none, [33]⟩,
  ⟨(some 35), .fa 0, [.r 34], none, [34]⟩,
  ⟨(some 36), .ld none, [.r 35], none, [35]⟩,
  ⟨(some 37), .bin .add, [.r 36, .k (.int .i64 1)], none, [36]⟩,
  ⟨(some 38), .minmax false, [.r 37, .k (.int .i64 1000000)], none, [37]⟩,
  ⟨(some 39), .nilck, [.r 32], none, [32]⟩,
  ⟨(some 40), .fa 0, [.r 39], none, [39]⟩,
  ⟨none, .st 1, [.r 40, .r 38], none, [38, 40]⟩]) <|
.seq (.ops [⟨(some 41), .mov, [.r 3], none, [3]⟩,
  ⟨(some 2), .mov, [.r 41], none, [41]⟩]) <|
.ret⟩
theorem c47 : cFn Try.prog 47 = some m47.bare := by kernel_rfl

/-- '(*swingbridge/swingbridgeref2.Clock).Step' -/
def m48_0 : MCode := .seq (.seq (.draw [⟨(some 4), .mov, [.r 0], none, []⟩,
      ⟨(some 5), .nilck, [.r 4], none, [4]⟩,
      ⟨(some 6), .fa 0, [.r 5], none, [5]⟩,
      ⟨(some 7), .ld none, [.r 6], none, [6]⟩,
      ⟨(some 8), .len, [.r 7], none, [7]⟩,
      ⟨(some 9), .bin .gtr, [.r 8, .k (.int .i64 0)], none, [8]⟩,
      ⟨(some 10), .mov, [.r 9], none, [9]⟩,
      ⟨(some 11), .mov, [.r 0], (some (10, true)), []⟩,
      ⟨(some 12), .nilck, [.r 11], (some (10, true)), [11]⟩,
      ⟨(some 13), .fa 0, [.r 12], (some (10, true)), [12]⟩,
      ⟨(some 14), .ld none, [.r 13], (some (10, true)), [13]⟩,
      ⟨(some 15), .ia 2, [.r 14, .k (.int .i64 0)], (some (10, true)), [14]⟩,
      ⟨(some 16), .fa 0, [.r 15], (some (10, true)), [15]⟩,
      ⟨(some 17), .ld none, [.r 16], (some (10, true)), [16]⟩,
      ⟨(some 18), .mov, [.r 0], (some (10, true)), []⟩,
      ⟨(some 19), .nilck, [.r 18], (some (10, true)), [18]⟩,
      ⟨(some 20), .fa 1, [.r 19], (some (10, true)), [19]⟩,
      ⟨(some 21), .ld none, [.r 20], (some (10, true)), [20]⟩,
      ⟨(some 22), .bin .eql, [.r 17, .r 21], (some (10, true)), [17, 21]⟩,
      ⟨(some 23), .pick, [.r 10, .r 22, .k (.bool false)], none, [10, 22]⟩] []) <|
    .cond (.r 23)
      (.skip)
      (.exit 0)) <|
    .block 1 (.seq (.ops [⟨(some 24), .mov, [.r 3], none, [3, 23]⟩,
        ⟨(some 25), .mov, [.r 0], none, []⟩,
        ⟨(some 26), .nilck, [.r 25], none, [25]⟩,
        ⟨(some 27), .fa 0, [.r 26], none, [26]⟩,
        ⟨(some 28), .ld none, [.r 27], none, [27]⟩,
        ⟨(some 29), .ia 2, [.r 28, .k (.int .i64 0)], none, [28]⟩,
        ⟨(some 30), .fa 1, [.r 29], none, [29]⟩,
        ⟨(some 31), .ld none, [.r 30], none, [30]⟩,
        ⟨(some 32), .bslice 1 1 [.int .i64 0] [(0, 1)], [.r 31], none, [31]⟩,
        ⟨(some 33), .app 1 8, [.r 24, .r 32], none, [24, 32]⟩,
        ⟨(some 3), .mov, [.r 33], none, [33]⟩]) <|
      .ops [⟨(some 34), .mov, [.r 0], none, []⟩,
        ⟨(some 35), .mov, [.r 0], none, []⟩,
        ⟨(some 36), .nilck, [.r 35], none, [35]⟩,
        ⟨(some 37), .fa 0, [.r 36], none, [36]⟩,
        ⟨(some 38), .ld none, [.r 37], none, [37]⟩,
        ⟨(some 39), .sl 2 true false false, [.r 38, .k (.int .i64 1)], none, [38]⟩,
        ⟨(some 40), .nilck, [.r 34], none, [34]⟩,
        ⟨(some 41), .fa 0, [.r 40], none, [40]⟩,
        ⟨none, .st 1, [.r 41, .r 39], none, [39, 41]⟩])
def m48 : MFn := ⟨[.tmp 2], .seq (.ops [⟨(some 2), .mov, [.k (.slice none 0 0)], none, [2]⟩]) <|
.seq (.ops [⟨(some 3), .mov, [.k (.slice none 0 0)], none, []⟩]) <|
.seq (.block 0 (.loop m48_0)) <|
.seq (.ops [⟨(some 42), .mov, [.r 0], none, [23]⟩,
  ⟨(some 43), .mov, [.r 0], none, [0]⟩,
  ⟨(some 44), .nilck, [.r 43], none, [43]⟩,
  ⟨(some 45), .fa 1, [.r 44], none, [44]⟩,
  ⟨(some 46), .ld none, [.r 45], none, [45]⟩,
  ⟨(some 47), .bin .add, [.r 46, .k (.int .i64 1)], none, [46]⟩,
  ⟨(some 48), .minmax false, [.r 47, .k (.int .i64 1000000)], none, [47]⟩,
  ⟨(some 49), .nilck, [.r 42], none, [42]⟩,
  ⟨(some 50), .fa 1, [.r 49], none, [49]⟩,
  ⟨none, .st 1, [.r 50, .r 48], none, [48, 50]⟩]) <|
.seq (.ops [⟨(some 51), .mov, [.r 3], none, [3]⟩,
  ⟨(some 2), .mov, [.r 51], none, [51]⟩]) <|
.ret⟩
theorem c48 : cFn Try.prog 48 = some m48.bare := by kernel_rfl

/-- 'swingbridge/swingbridgeref2.SameDues' -/
def m49_0 : MCode := .seq (.seq (.ops [⟨(some 11), .mov, [.r 5], none, []⟩,
      ⟨(some 12), .mov, [.r 0], none, []⟩,
      ⟨(some 13), .len, [.r 12], none, [12]⟩,
      ⟨(some 14), .bin .lss, [.r 11, .r 13], none, [11, 13]⟩]) <|
    .cond (.r 14)
      (.skip)
      (.exit 0)) <|
    .seq (.block 1 (.seq (.draw [⟨(some 17), .mov, [.r 0], none, [14]⟩,
        ⟨(some 18), .mov, [.r 5], none, []⟩,
        ⟨(some 19), .ia 2, [.r 17, .r 18], none, [17, 18]⟩,
        ⟨(some 20), .ld (some 2), [.r 19], none, [19]⟩,
        ⟨(some 21), .mov, [.r 1], none, []⟩,
        ⟨(some 22), .mov, [.r 5], none, []⟩,
        ⟨(some 23), .ia 2, [.r 21, .r 22], none, [21, 22]⟩,
        ⟨(some 24), .ld (some 2), [.r 23], none, [23]⟩,
        ⟨(some 25), .eqv true (.agg [.int, .int]), [.r 20, .r 24], none, [20, 24]⟩] []) <|
      .cond (.r 25)
        (.seq (.ops [⟨(some 4), .mov, [.k (.bool false)], none, [0, 1, 5, 25]⟩]) <|
        .ret)
        (.skip))) <|
    .ops [⟨(some 15), .mov, [.r 5], none, [5, 25]⟩,
      ⟨(some 16), .bin .add, [.r 15, .k (.int .i64 1)], none, [15]⟩,
      ⟨(some 5), .mov, [.r 16], none, [16]⟩]
def m49 : MFn := ⟨[.tmp 4], .seq (.ops [⟨(some 4), .mov, [.k (.bool false)], none, [4]⟩]) <|
.seq (.seq (.ops [⟨(some 6), .mov, [.r 0], none, []⟩,
  ⟨(some 7), .len, [.r 6], none, [6]⟩,
  ⟨(some 8), .mov, [.r 1], none, []⟩,
  ⟨(some 9), .len, [.r 8], none, [8]⟩,
  ⟨(some 10), .bin .neq, [.r 7, .r 9], none, [7, 9]⟩]) <|
.cond (.r 10)
  (.seq (.ops [⟨(some 4), .mov, [.k (.bool false)], none, [0, 1, 10]⟩]) <|
  .ret)
  (.skip)) <|
.seq (.seq (.ops [⟨(some 5), .mov, [.k (.int .i64 0)], none, [10]⟩]) <|
.block 0 (.loop m49_0)) <|
.seq (.ops [⟨(some 4), .mov, [.k (.bool true)], none, [0, 1, 5, 14]⟩]) <|
.ret⟩
theorem c49 : cFn Try.prog 49 = some m49.bare := by kernel_rfl

/-- '(*swingbridge/clock.Clock).All' -/
def m50 : MFn := ⟨[.tmp 2], .seq (.ops [⟨(some 2), .mov, [.k (.slice none 0 0)], none, [2]⟩]) <|
.seq (.ops [⟨(some 3), .mov, [.r 0], none, [0]⟩,
  ⟨(some 4), .nilck, [.r 3], none, [3]⟩,
  ⟨(some 5), .fa 1, [.r 4], none, [4]⟩,
  ⟨(some 6), .ld none, [.r 5], none, [5]⟩,
  ⟨(some 7), .call 79, [.r 6], none, [6]⟩,
  ⟨(some 2), .mov, [.r 7], none, [7]⟩]) <|
.ret⟩
theorem c50 : cFn Try.prog 50 = some m50.bare := by kernel_rfl

/-- '(*swingbridge/clock.Clock).Now' -/
def m51 : MFn := ⟨[.tmp 2], .seq (.ops [⟨(some 2), .mov, [.k (.int .i64 0)], none, [2]⟩]) <|
.seq (.ops [⟨(some 3), .mov, [.r 0], none, [0]⟩,
  ⟨(some 4), .nilck, [.r 3], none, [3]⟩,
  ⟨(some 5), .fa 0, [.r 4], none, [4]⟩,
  ⟨(some 6), .ld none, [.r 5], none, [5]⟩,
  ⟨(some 2), .mov, [.r 6], none, [6]⟩]) <|
.ret⟩
theorem c51 : cFn Try.prog 51 = some m51.bare := by kernel_rfl

/-- '(*swingbridge/clock.Clock).Len' -/
def m52 : MFn := ⟨[.tmp 2], .seq (.ops [⟨(some 2), .mov, [.k (.int .i64 0)], none, [2]⟩]) <|
.seq (.ops [⟨(some 3), .mov, [.r 0], none, [0]⟩,
  ⟨(some 4), .nilck, [.r 3], none, [3]⟩,
  ⟨(some 5), .fa 1, [.r 4], none, [4]⟩,
  ⟨(some 6), .ld none, [.r 5], none, [5]⟩,
  ⟨(some 7), .len, [.r 6], none, [6]⟩,
  ⟨(some 2), .mov, [.r 7], none, [7]⟩]) <|
.ret⟩
theorem c52 : cFn Try.prog 52 = some m52.bare := by kernel_rfl

/-- 'slices.Insert[[]swingbridge/api.Due,swingbridge/api.Due]' -/
def m75 : MFn := ⟨[.tmp 6], .seq (.ops [⟨(some 6), .mov, [.k (.slice none 0 0)], none, [6]⟩]) <|
.seq (.ops [⟨(some 10), .mov, [.r 0], none, []⟩,
  ⟨(some 11), .mov, [.r 1], none, []⟩,
  ⟨(some 12), .sl 2 true false false, [.r 10, .r 11], none, [10, 11, 12]⟩]) <|
.seq (.ops [⟨(some 13), .mov, [.r 2], none, []⟩,
  ⟨(some 14), .len, [.r 13], none, [13]⟩,
  ⟨(some 7), .mov, [.r 14], none, [14]⟩]) <|
.seq (.seq (.ops [⟨(some 15), .mov, [.r 7], none, []⟩,
  ⟨(some 16), .bin .eql, [.r 15, .k (.int .i64 0)], none, [15]⟩]) <|
.cond (.r 16)
  (.seq (.ops [⟨(some 17), .mov, [.r 0], none, [0, 1, 2, 7, 16]⟩,
    ⟨(some 6), .mov, [.r 17], none, [17]⟩]) <|
  .ret)
  (.skip)) <|
.seq (.ops [⟨(some 18), .mov, [.r 0], none, [16]⟩,
  ⟨(some 19), .len, [.r 18], none, [18]⟩,
  ⟨(some 8), .mov, [.r 19], none, [19]⟩]) <|
.seq (.seq (.ops [⟨(some 20), .mov, [.r 1], none, []⟩,
  ⟨(some 21), .mov, [.r 8], none, []⟩,
  ⟨(some 22), .bin .eql, [.r 20, .r 21], none, [20, 21]⟩]) <|
.cond (.r 22)
  (.seq (.ops [⟨(some 23), .mov, [.r 0], none, [0, 1, 7, 8, 22]⟩,
    ⟨(some 24), .mov, [.r 2], none, [2]⟩,
    ⟨(some 25), .app 2 16, [.r 23, .r 24], none, [23, 24]⟩,
    ⟨(some 6), .mov, [.r 25], none, [25]⟩]) <|
  .ret)
  (.skip)) <|
.seq (.seq (.ops [⟨(some 26), .mov, [.r 8], none, [22]⟩,
  ⟨(some 27), .mov, [.r 7], none, []⟩,
  ⟨(some 28), .bin .add, [.r 26, .r 27], none, [26, 27]⟩,
  ⟨(some 29), .mov, [.r 0], none, []⟩,
  ⟨(some 30), .cap, [.r 29], none, [29]⟩,
  ⟨(some 31), .bin .gtr, [.r 28, .r 30], none, [28, 30]⟩]) <|
.cond (.r 31)
  (.seq (.ops [⟨(some 32), .mov, [.r 0], none, [31]⟩,
    ⟨(some 33), .mov, [.r 1], none, []⟩,
    ⟨(some 34), .sl 2 false true false, [.r 32, .r 33], none, [32, 33]⟩,
    ⟨(some 35), .mov, [.r 8], none, [8]⟩,
    ⟨(some 36), .mov, [.r 7], none, []⟩,
    ⟨(some 37), .bin .add, [.r 35, .r 36], none, [35, 36]⟩,
    ⟨(some 38), .mov, [.r 1], none, []⟩,
    ⟨(some 39), .bin .sub, [.r 37, .r 38], none, [37, 38]⟩,
    ⟨(some 40), .appz 2 16 [.int .i64 0, .int .i64 0], [.r 34, .r 39], none, [34, 39]⟩,
    ⟨(some 9), .mov, [.r 40], none, [40]⟩]) <|
  .seq (.ops [⟨(some 41), .mov, [.r 9], none, []⟩,
    ⟨(some 42), .mov, [.r 1], none, []⟩,
    ⟨(some 43), .sl 2 true false false, [.r 41, .r 42], none, [41, 42]⟩,
    ⟨(some 44), .mov, [.r 2], none, [2]⟩,
    ⟨(some 45), .copy 2, [.r 43, .r 44], none, [43, 44, 45]⟩]) <|
  .seq (.draw [⟨(some 46), .mov, [.r 9], none, []⟩,
    ⟨(some 47), .mov, [.r 1], none, []⟩,
    ⟨(some 48), .mov, [.r 7], none, [7]⟩,
    ⟨(some 49), .bin .add, [.r 47, .r 48], none, [47, 48]⟩,
    ⟨(some 50), .sl 2 true false false, [.r 46, .r 49], none, [46, 49]⟩,
    ⟨(some 51), .mov, [.r 0], none, [0]⟩,
    ⟨(some 52), .mov, [.r 1], none, [1]⟩,
    ⟨(some 53), .sl 2 true false false, [.r 51, .r 52], none, [51, 52]⟩,
    ⟨(some 54), .copy 2, [.r 50, .r 53], none, [50, 53, 54]⟩] []) <|
  .seq (.ops [⟨(some 55), .mov, [.r 9], none, [9]⟩,
    ⟨(some 6), .mov, [.r 55], none, [55]⟩]) <|
  .ret)
  (.skip)) <|
.seq (.ops [⟨(some 56), .mov, [.r 0], none, [0, 31]⟩,
  ⟨(some 57), .mov, [.r 8], none, []⟩,
  ⟨(some 58), .mov, [.r 7], none, []⟩,
  ⟨(some 59), .bin .add, [.r 57, .r 58], none, [57, 58]⟩,
  ⟨(some 60), .sl 2 false true false, [.r 56, .r 59], none, [56, 59]⟩,
  ⟨(some 0), .mov, [.r 60], none, [60]⟩]) <|
.seq (.seq (.ops [⟨(some 61), .mov, [.r 2], none, []⟩,
  ⟨(some 62), .mov, [.r 0], none, []⟩,
  ⟨(some 63), .mov, [.r 1], none, []⟩,
  ⟨(some 64), .mov, [.r 7], none, []⟩,
  ⟨(some 65), .bin .add, [.r 63, .r 64], none, [63, 64]⟩,
  ⟨(some 66), .sl 2 true false false, [.r 62, .r 65], none, [62, 65]⟩,
  ⟨(some 67), .call 94, [.r 61, .r 66], none, [61, 66]⟩,
  ⟨(some 68), .un .not, [.r 67], none, [67]⟩]) <|
.cond (.r 68)
  (.seq (.draw [⟨(some 69), .mov, [.r 0], none, [8, 68]⟩,
    ⟨(some 70), .mov, [.r 1], none, []⟩,
    ⟨(some 71), .mov, [.r 7], none, [7]⟩,
    ⟨(some 72), .bin .add, [.r 70, .r 71], none, [70, 71]⟩,
    ⟨(some 73), .sl 2 true false false, [.r 69, .r 72], none, [69, 72]⟩,
    ⟨(some 74), .mov, [.r 0], none, []⟩,
    ⟨(some 75), .mov, [.r 1], none, []⟩,
    ⟨(some 76), .sl 2 true false false, [.r 74, .r 75], none, [74, 75]⟩,
    ⟨(some 77), .copy 2, [.r 73, .r 76], none, [73, 76, 77]⟩] []) <|
  .seq (.ops [⟨(some 78), .mov, [.r 0], none, []⟩,
    ⟨(some 79), .mov, [.r 1], none, [1]⟩,
    ⟨(some 80), .sl 2 true false false, [.r 78, .r 79], none, [78, 79]⟩,
    ⟨(some 81), .mov, [.r 2], none, [2]⟩,
    ⟨(some 82), .copy 2, [.r 80, .r 81], none, [80, 81, 82]⟩]) <|
  .seq (.ops [⟨(some 83), .mov, [.r 0], none, [0]⟩,
    ⟨(some 6), .mov, [.r 83], none, [83]⟩]) <|
  .ret)
  (.skip)) <|
.seq (.ops [⟨(some 84), .mov, [.r 0], none, [68]⟩,
  ⟨(some 85), .mov, [.r 8], none, [8]⟩,
  ⟨(some 86), .sl 2 true false false, [.r 84, .r 85], none, [84, 85]⟩,
  ⟨(some 87), .mov, [.r 2], none, [2]⟩,
  ⟨(some 88), .copy 2, [.r 86, .r 87], none, [86, 87, 88]⟩]) <|
.seq (.ops [⟨(some 89), .mov, [.r 0], none, []⟩,
  ⟨(some 90), .mov, [.r 1], none, [1]⟩,
  ⟨(some 91), .sl 2 true false false, [.r 89, .r 90], none, [89, 90]⟩,
  ⟨(some 92), .mov, [.r 7], none, [7]⟩,
  ⟨(some 93), .call 95, [.r 91, .r 92], none, [91, 92, 93]⟩]) <|
.seq (.ops [⟨(some 94), .mov, [.r 0], none, [0]⟩,
  ⟨(some 6), .mov, [.r 94], none, [94]⟩]) <|
.ret⟩
theorem c75 : cFn Try.prog 75 = some m75.bare := by kernel_rfl

/-- 'slices.IndexFunc[[]swingbridge/api.Due,swingbridge/api.Due]' -/
def m76_0 : MCode := .seq (.ops [⟨(some 9), .bin .lss, [.r 8, .r 7], none, []⟩]) <|
    .seq (.cond (.r 9)
      (.skip)
      (.exit 0)) <|
    .seq (.block 1 (.seq (.ops [⟨(some 10), .mov, [.r 8], none, [9]⟩,
        ⟨(some 5), .mov, [.r 10], none, [10]⟩]) <|
      .seq (.ops [⟨(some 11), .mov, [.r 1], none, []⟩,
        ⟨(some 12), .mov, [.r 0], none, []⟩,
        ⟨(some 13), .mov, [.r 5], none, []⟩,
        ⟨(some 14), .ia 2, [.r 12, .r 13], none, [12, 13]⟩,
        ⟨(some 15), .ld (some 2), [.r 14], none, [14]⟩,
        ⟨(some 16), .callv, [.r 11, .r 15], none, [11, 15]⟩]) <|
      .cond (.r 16)
        (.seq (.ops [⟨(some 17), .mov, [.r 5], none, [0, 1, 5, 7, 8, 16]⟩,
          ⟨(some 4), .mov, [.r 17], none, [17]⟩]) <|
        .ret)
        (.skip))) <|
    .ops [⟨(some 18), .bin .add, [.r 8, .k (.int .i64 1)], none, [5, 8, 16]⟩,
      ⟨(some 8), .mov, [.r 18], none, [18]⟩]
def m76 : MFn := ⟨[.tmp 4], .seq (.ops [⟨(some 4), .mov, [.k (.int .i64 0)], none, [4]⟩]) <|
.seq (.seq (.ops [⟨(some 6), .mov, [.r 0], none, []⟩,
  ⟨(some 7), .len, [.r 6], none, [6]⟩,
  ⟨(some 8), .mov, [.k (.int .i64 0)], none, []⟩]) <|
.block 0 (.loop m76_0)) <|
.seq (.ops [⟨(some 4), .mov, [.k (.int .i64 (-1))], none, [0, 1, 7, 8, 9]⟩]) <|
.ret⟩
theorem c76 : cFn Try.prog 76 = some m76.bare := by kernel_rfl

/-- '(*swingbridge/clock.Clock).Drop$1' -/
def m77 : MFn := ⟨[.tmp 3], .seq (.ops [⟨(some 2), .box, [.r 0], none, [0]⟩,
  ⟨(some 3), .mov, [.k (.bool false)], none, [3]⟩]) <|
.seq (.ops [⟨(some 4), .fa 1, [.r 2], none, [2]⟩,
  ⟨(some 5), .ld none, [.r 4], none, [4]⟩,
  ⟨(some 6), .ld none, [.r 1], none, []⟩,
  ⟨(some 7), .bin .eql, [.r 5, .r 6], none, [5, 6]⟩,
  ⟨(some 3), .mov, [.r 7], none, [7]⟩]) <|
.ret⟩
theorem c77 : cFn Try.prog 77 = some m77.bare := by kernel_rfl

/-- '(*swingbridge/clock.Clock).leave' -/
def m78_0 : MCode := .seq (.ops [⟨(some 20), .bin .lss, [.r 19, .r 18], none, []⟩]) <|
    .seq (.cond (.r 20)
      (.skip)
      (.exit 0)) <|
    .seq (.block 1 (.ops [⟨(some 21), .mov, [.r 0], none, [20]⟩,
        ⟨(some 22), .nilck, [.r 21], none, [21]⟩,
        ⟨(some 23), .fa 2, [.r 22], none, [22]⟩,
        ⟨(some 24), .ld none, [.r 23], none, [23]⟩,
        ⟨(some 25), .rcv (.agg #[]) false, [.r 24], none, [24, 25]⟩])) <|
    .ops [⟨(some 26), .bin .add, [.r 19, .k (.int .i64 1)], none, [19]⟩,
      ⟨(some 19), .mov, [.r 26], none, [26]⟩]
def m78 : MFn := ⟨[], .seq (.ops [⟨(some 6), .mov, [.r 0], none, []⟩,
  ⟨(some 7), .mov, [.r 0], none, []⟩,
  ⟨(some 8), .nilck, [.r 7], none, [7]⟩,
  ⟨(some 9), .fa 1, [.r 8], none, [8]⟩,
  ⟨(some 10), .ld none, [.r 9], none, [9]⟩,
  ⟨(some 11), .mov, [.r 1], none, []⟩,
  ⟨(some 12), .mov, [.r 1], none, [1]⟩,
  ⟨(some 13), .mov, [.r 2], none, []⟩,
  ⟨(some 14), .bin .add, [.r 12, .r 13], none, [12, 13]⟩,
  ⟨(some 15), .call 96, [.r 10, .r 11, .r 14], none, [10, 11, 14]⟩,
  ⟨(some 16), .nilck, [.r 6], none, [6]⟩,
  ⟨(some 17), .fa 1, [.r 16], none, [16]⟩,
  ⟨none, .st 1, [.r 17, .r 15], none, [15, 17]⟩]) <|
.seq (.ops [⟨(some 18), .mov, [.r 2], none, [2]⟩,
  ⟨(some 19), .mov, [.k (.int .i64 0)], none, []⟩]) <|
.block 0 (.loop m78_0)⟩
theorem c78 : cFn Try.prog 78 = some m78.bare := by kernel_rfl

/-- 'slices.Clone[[]swingbridge/api.Due,swingbridge/api.Due]' -/
def m79 : MFn := ⟨[.tmp 2], .seq (.ops [⟨(some 2), .mov, [.k (.slice none 0 0)], none, [2]⟩]) <|
.seq (.seq (.ops [⟨(some 3), .mov, [.r 0], none, []⟩,
  ⟨(some 4), .eqv false .slice, [.r 3, .k (.slice none 0 0)], none, [3]⟩]) <|
.cond (.r 4)
  (.seq (.ops [⟨(some 2), .mov, [.k (.slice none 0 0)], none, [0, 4]⟩]) <|
  .ret)
  (.skip)) <|
.seq (.ops [⟨(some 5), .bslice 2 0 [.int .i64 0, .int .i64 0] [], [], none, [4]⟩,
  ⟨(some 6), .mov, [.r 0], none, [0]⟩,
  ⟨(some 7), .app 2 16, [.r 5, .r 6], none, [5, 6]⟩,
  ⟨(some 2), .mov, [.r 7], none, [7]⟩]) <|
.ret⟩
theorem c79 : cFn Try.prog 79 = some m79.bare := by kernel_rfl

/-- 'slices.Delete[[]swingbridge/api.Due,swingbridge/api.Due]' -/
def m96 : MFn := ⟨[.tmp 6], .seq (.ops [⟨(some 6), .mov, [.k (.slice none 0 0)], none, [6]⟩]) <|
.seq (.ops [⟨(some 8), .mov, [.r 0], none, []⟩,
  ⟨(some 9), .mov, [.r 1], none, []⟩,
  ⟨(some 10), .mov, [.r 2], none, []⟩,
  ⟨(some 11), .mov, [.r 0], none, []⟩,
  ⟨(some 12), .len, [.r 11], none, [11]⟩,
  ⟨(some 13), .sl 2 true true true, [.r 8, .r 9, .r 10, .r 12], none, [8, 9, 10, 12, 13]⟩]) <|
.seq (.seq (.ops [⟨(some 14), .mov, [.r 1], none, []⟩,
  ⟨(some 15), .mov, [.r 2], none, []⟩,
  ⟨(some 16), .bin .eql, [.r 14, .r 15], none, [14, 15]⟩]) <|
.cond (.r 16)
  (.seq (.ops [⟨(some 17), .mov, [.r 0], none, [0, 1, 2, 16]⟩,
    ⟨(some 6), .mov, [.r 17], none, [17]⟩]) <|
  .ret)
  (.skip)) <|
.seq (.ops [⟨(some 18), .mov, [.r 0], none, [16]⟩,
  ⟨(some 19), .len, [.r 18], none, [18]⟩,
  ⟨(some 7), .mov, [.r 19], none, [19]⟩]) <|
.seq (.draw [⟨(some 20), .mov, [.r 0], none, []⟩,
  ⟨(some 21), .mov, [.r 1], none, [1]⟩,
  ⟨(some 22), .sl 2 false true false, [.r 20, .r 21], none, [20, 21]⟩,
  ⟨(some 23), .mov, [.r 0], none, [0]⟩,
  ⟨(some 24), .mov, [.r 2], none, [2]⟩,
  ⟨(some 25), .sl 2 true false false, [.r 23, .r 24], none, [23, 24]⟩,
  ⟨(some 26), .app 2 16, [.r 22, .r 25], none, [22, 25]⟩,
  ⟨(some 0), .mov, [.r 26], none, [26]⟩] []) <|
.seq (.ops [⟨(some 27), .mov, [.r 0], none, []⟩,
  ⟨(some 28), .mov, [.r 0], none, []⟩,
  ⟨(some 29), .len, [.r 28], none, [28]⟩,
  ⟨(some 30), .mov, [.r 7], none, [7]⟩,
  ⟨(some 31), .sl 2 true true false, [.r 27, .r 29, .r 30], none, [27, 29, 30]⟩,
  ⟨none, .clear 2 [.int .i64 0, .int .i64 0], [.r 31], none, [31]⟩]) <|
.seq (.ops [⟨(some 32), .mov, [.r 0], none, [0]⟩,
  ⟨(some 6), .mov, [.r 32], none, [32]⟩]) <|
.ret⟩
theorem c96 : cFn Try.prog 96 = some m96.bare := by kernel_rfl

def mpC (f : FuncId) : Option MDef := match f with
  | 9 => some (.code m9)
  | 10 => some (.code m10)
  | 11 => some (.code m11)
  | 12 => some (.code m12)
  | 38 => some (.code m38)
  | 41 => some (.code m41)
  | 42 => some (.code m42)
  | 43 => some (.code m43)
  | 44 => some (.code m44)
  | 45 => some (.code m45)
  | 46 => some (.code m46)
  | 47 => some (.code m47)
  | 48 => some (.code m48)
  | 49 => some (.code m49)
  | 50 => some (.code m50)
  | 51 => some (.code m51)
  | 52 => some (.code m52)
  | 75 => some (.code m75)
  | 76 => some (.code m76)
  | 77 => some (.code m77)
  | 78 => some (.code m78)
  | 79 => some (.code m79)
  | 96 => some (.code m96)
  | _ => none
theorem mpC_code : ∀ f fn, mpC f = some (.code fn) → cFn Try.prog f = some fn.bare := by
  intro f fn h
  unfold mpC at h
  split at h
  · cases h; exact c9
  · cases h; exact c10
  · cases h; exact c11
  · cases h; exact c12
  · cases h; exact c38
  · cases h; exact c41
  · cases h; exact c42
  · cases h; exact c43
  · cases h; exact c44
  · cases h; exact c45
  · cases h; exact c46
  · cases h; exact c47
  · cases h; exact c48
  · cases h; exact c49
  · cases h; exact c50
  · cases h; exact c51
  · cases h; exact c52
  · cases h; exact c75
  · cases h; exact c76
  · cases h; exact c77
  · cases h; exact c78
  · cases h; exact c79
  · cases h; exact c96
  · cases h
theorem mpC_ok : MapOk Try.prog mpC := ⟨by kernel_rfl, mpC_code, fun f s h => by
  unfold mpC at h
  split at h <;> cases h⟩
end Go.Mod

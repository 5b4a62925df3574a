/- The model's code of functions of the program, and that it is the program's. Printed by wip/tool. -/

import Derived.Test.YtpdkmcnoidbjoaaProg
import Derived.Test.YtpdkmcnoidbjoaaFwW
namespace Go.Mod
open Go.Proofs

/-- 'swingbridge/swingbridgelaw4.RankPlays' -/
def m5_0 : MCode := .seq (.seq (.ops [⟨(some 26), .mov, [.r 7], none, []⟩,
      ⟨(some 27), .mov, [.r 1], none, []⟩,
      ⟨(some 28), .len, [.r 27], none, [27]⟩,
      ⟨(some 29), .bin .lss, [.r 26, .r 28], none, [26, 28]⟩]) <|
    .cond (.r 29)
      (.skip)
      (.exit 0)) <|
    .seq (.block 1 (.seq (.ops [⟨(some 8), .mov, [.k (.bool true)], none, [8, 29]⟩]) <|
      .seq (.seq (.ops [⟨(some 32), .mov, [.r 1], none, []⟩,
        ⟨(some 33), .mov, [.r 7], none, []⟩,
        ⟨(some 34), .ia 3, [.r 32, .r 33], none, [32, 33]⟩,
        ⟨(some 35), .ld (some 3), [.r 34], none, [34]⟩,
        ⟨(some 9), .new 0 [.int .i64 0, .int .i64 0, .int .i64 0], [], none, []⟩,
        ⟨none, .st 3, [.r 9, .r 35], none, [35]⟩]) <|
      .block 2 (.seq (.ops [⟨(some 46), .fa 0, [.r 9], none, []⟩,
          ⟨(some 47), .ld none, [.r 46], none, [46]⟩,
          ⟨(some 48), .bin .leq, [.r 47, .k (.int .i64 4)], none, [47]⟩,
          ⟨(some 45), .mov, [.r 48], none, [48]⟩]) <|
        .cond (.r 45)
          (.draw [⟨(some 49), .mov, [.r 5], none, [45]⟩,
            ⟨(some 50), .fa 1, [.r 9], none, []⟩,
            ⟨(some 51), .ld none, [.r 50], none, [50]⟩,
            ⟨(some 52), .fa 2, [.r 9], none, []⟩,
            ⟨(some 53), .ld none, [.r 52], none, [52]⟩,
            ⟨(some 54), .call 30, [.r 49, .r 51, .r 53], none, [49, 51, 53]⟩,
            ⟨(some 55), .mov, [.r 6], none, []⟩,
            ⟨(some 56), .fa 1, [.r 9], none, []⟩,
            ⟨(some 57), .ld none, [.r 56], none, [56]⟩,
            ⟨(some 58), .fa 2, [.r 9], none, [9]⟩,
            ⟨(some 59), .ld none, [.r 58], none, [58]⟩,
            ⟨(some 60), .call 31, [.r 55, .r 57, .r 59], none, [55, 57, 59]⟩,
            ⟨(some 61), .bin .eql, [.r 54, .r 60], none, [54, 60]⟩,
            ⟨(some 8), .mov, [.r 61], none, [61]⟩] [(8, 5), (10, 5)])
          (.seq (.ops [⟨(some 63), .fa 0, [.r 9], none, [45]⟩,
            ⟨(some 64), .ld none, [.r 63], none, [63]⟩,
            ⟨(some 65), .bin .leq, [.r 64, .k (.int .i64 6)], none, [64]⟩,
            ⟨(some 62), .mov, [.r 65], none, [65]⟩]) <|
          .cond (.r 62)
            (.seq (.ops [⟨(some 67), .mov, [.r 5], none, [9, 62]⟩,
              ⟨(some 68), .call 32, [.r 67], none, [67]⟩,
              ⟨(some 66), .mov, [.r 68], none, [68]⟩,
              ⟨(some 69), .extract 0, [.r 66], none, []⟩,
              ⟨(some 70), .extract 1, [.r 66], none, [66]⟩,
              ⟨(some 10), .mov, [.r 69], none, [69]⟩,
              ⟨(some 11), .mov, [.r 70], none, [70]⟩]) <|
            .seq (.ops [⟨(some 72), .mov, [.r 6], none, []⟩,
              ⟨(some 73), .call 33, [.r 72], none, [72]⟩,
              ⟨(some 71), .mov, [.r 73], none, [73]⟩,
              ⟨(some 74), .extract 0, [.r 71], none, []⟩,
              ⟨(some 75), .extract 1, [.r 71], none, [71]⟩,
              ⟨(some 12), .mov, [.r 74], none, [74]⟩,
              ⟨(some 13), .mov, [.r 75], none, [75]⟩]) <|
            .ops [⟨(some 76), .mov, [.r 10], none, [10]⟩,
              ⟨(some 77), .mov, [.r 12], none, [12]⟩,
              ⟨(some 78), .bin .eql, [.r 76, .r 77], none, [76, 77]⟩,
              ⟨(some 79), .mov, [.r 78], none, [78]⟩,
              ⟨(some 80), .mov, [.r 11], (some (79, true)), [11]⟩,
              ⟨(some 81), .mov, [.r 13], (some (79, true)), [13]⟩,
              ⟨(some 82), .bin .eql, [.r 80, .r 81], (some (79, true)), [80, 81]⟩,
              ⟨(some 83), .pick, [.r 79, .r 82, .k (.bool false)], none, [79, 82]⟩,
              ⟨(some 8), .mov, [.r 83], none, [83]⟩])
            (.draw [⟨(some 36), .mov, [.r 5], none, [62]⟩,
              ⟨(some 37), .fa 2, [.r 9], none, []⟩,
              ⟨(some 38), .ld none, [.r 37], none, [37]⟩,
              ⟨(some 39), .call 34, [.r 36, .r 38], none, [36, 38]⟩,
              ⟨(some 40), .mov, [.r 6], none, []⟩,
              ⟨(some 41), .fa 2, [.r 9], none, [9]⟩,
              ⟨(some 42), .ld none, [.r 41], none, [41]⟩,
              ⟨(some 43), .call 35, [.r 40, .r 42], none, [40, 42]⟩,
              ⟨(some 44), .eqv false .bool, [.r 39, .r 43], none, [39, 43]⟩,
              ⟨(some 8), .mov, [.r 44], none, [44]⟩] [(6, 3)])))) <|
      .seq (.ops [⟨(some 84), .mov, [.r 6], none, []⟩,
        ⟨(some 85), .call 36, [.r 84], none, [84]⟩,
        ⟨(some 14), .mov, [.r 85], none, [85]⟩]) <|
      .seq (.ops [⟨(some 87), .mov, [.r 5], none, []⟩,
        ⟨(some 88), .call 37, [.r 87], none, [87]⟩,
        ⟨(some 86), .mov, [.r 88], none, [88]⟩,
        ⟨(some 89), .extract 0, [.r 86], none, []⟩,
        ⟨(some 90), .extract 1, [.r 86], none, [86]⟩,
        ⟨(some 15), .mov, [.r 89], none, [89]⟩,
        ⟨(some 16), .mov, [.r 90], none, [90]⟩]) <|
      .seq (.ops [⟨(some 91), .mov, [.r 8], none, [8]⟩,
        ⟨(some 92), .un .not, [.r 91], none, [91]⟩,
        ⟨(some 93), .mov, [.r 92], none, [92]⟩,
        ⟨(some 94), .mov, [.r 16], (some (93, false)), []⟩,
        ⟨(some 95), .mov, [.r 14], (some (93, false)), []⟩,
        ⟨(some 96), .len, [.r 95], (some (93, false)), [95]⟩,
        ⟨(some 97), .bin .gtr, [.r 96, .k (.int .i64 0)], (some (93, false)), [96]⟩,
        ⟨(some 98), .eqv true .bool, [.r 94, .r 97], (some (93, false)), [94, 97]⟩,
        ⟨(some 99), .pick, [.r 93, .k (.bool true), .r 98], none, [93, 98]⟩,
        ⟨(some 100), .mov, [.r 99], none, [99]⟩,
        ⟨(some 101), .mov, [.r 16], (some (100, false)), []⟩,
        ⟨(some 102), .mov, [.r 101], (some (100, false)), [101]⟩,
        ⟨(some 103), .mov, [.r 15], (some (102, true)), []⟩,
        ⟨(some 104), .mov, [.r 14], (some (102, true)), []⟩,
        ⟨(some 105), .ia 1, [.r 104, .k (.int .i64 0)], (some (102, true)), [104]⟩,
        ⟨(some 106), .ld none, [.r 105], (some (102, true)), [105]⟩,
        ⟨(some 107), .bin .neq, [.r 103, .r 106], (some (102, true)), [103, 106]⟩,
        ⟨(some 108), .pick, [.r 102, .r 107, .k (.bool false)], (some (100, false)), [102, 107]⟩,
        ⟨(some 109), .pick, [.r 100, .k (.bool true), .r 108], none, [100, 108]⟩,
        ⟨(some 110), .mov, [.r 109], none, [109]⟩,
        ⟨(some 111), .mov, [.r 16], (some (110, false)), [16]⟩,
        ⟨(some 112), .un .not, [.r 111], (some (110, false)), [111]⟩,
        ⟨(some 113), .mov, [.r 112], (some (110, false)), [112]⟩,
        ⟨(some 114), .mov, [.r 15], (some (113, true)), [15]⟩,
        ⟨(some 115), .bin .neq, [.r 114, .k (.int .i64 0)], (some (113, true)), [114]⟩,
        ⟨(some 116), .pick, [.r 113, .r 115, .k (.bool false)], (some (110, false)), [113, 115]⟩,
        ⟨(some 117), .pick, [.r 110, .k (.bool true), .r 116], none, [110, 116]⟩,
        ⟨(some 118), .mov, [.r 117], none, [117]⟩,
        ⟨(some 119), .mov, [.r 5], (some (118, false)), []⟩,
        ⟨(some 120), .call 39, [.r 119], (some (118, false)), [119]⟩,
        ⟨(some 121), .mov, [.r 14], (some (118, false)), []⟩,
        ⟨(some 122), .call 38, [.r 120, .r 121], (some (118, false)), [120, 121]⟩,
        ⟨(some 123), .un .not, [.r 122], (some (118, false)), [122]⟩,
        ⟨(some 124), .pick, [.r 118, .k (.bool true), .r 123], none, [118, 123]⟩,
        ⟨(some 125), .mov, [.r 124], none, [124]⟩,
        ⟨(some 126), .mov, [.r 5], (some (125, false)), []⟩,
        ⟨(some 127), .call 40, [.r 126], (some (125, false)), [126]⟩,
        ⟨(some 128), .mov, [.r 14], (some (125, false)), [14]⟩,
        ⟨(some 129), .len, [.r 128], (some (125, false)), [128]⟩,
        ⟨(some 130), .bin .neq, [.r 127, .r 129], (some (125, false)), [127, 129]⟩,
        ⟨(some 131), .pick, [.r 125, .k (.bool true), .r 130], none, [125, 130]⟩]) <|
      .cond (.r 131)
        (.seq (.ops [⟨(some 4), .mov, [.k (.bool false)], none, [1, 5, 6, 7, 131]⟩]) <|
        .ret)
        (.skip))) <|
    .ops [⟨(some 30), .mov, [.r 7], none, [7, 131]⟩,
      ⟨(some 31), .bin .add, [.r 30, .k (.int .i64 1)], none, [30]⟩,
      ⟨(some 7), .mov, [.r 31], none, [31]⟩]
def m5 : MFn := ⟨[.tmp 4], .seq (.ops [⟨(some 4), .mov, [.k (.bool false)], none, [4]⟩]) <|
.seq (.seq (.ops [⟨(some 17), .call 27, [], none, []⟩,
  ⟨(some 18), .un .not, [.r 17], none, [17]⟩]) <|
.cond (.r 18)
  (.seq (.ops [⟨(some 4), .mov, [.k (.bool false)], none, [0, 1, 18]⟩]) <|
  .ret)
  (.skip)) <|
.seq (.seq (.ops [⟨(some 19), .mov, [.r 1], none, [18]⟩,
  ⟨(some 20), .len, [.r 19], none, [19]⟩,
  ⟨(some 21), .bin .gtr, [.r 20, .k (.int .i64 100)], none, [20]⟩]) <|
.cond (.r 21)
  (.seq (.ops [⟨(some 4), .mov, [.k (.bool true)], none, [0, 1, 21]⟩]) <|
  .ret)
  (.skip)) <|
.seq (.ops [⟨(some 22), .mov, [.r 0], none, [21]⟩,
  ⟨(some 23), .call 28, [.r 22], none, [22]⟩,
  ⟨(some 24), .mov, [.r 0], none, [0]⟩,
  ⟨(some 25), .call 29, [.r 24], none, [24]⟩,
  ⟨(some 5), .mov, [.r 23], none, [23]⟩,
  ⟨(some 6), .mov, [.r 25], none, [25]⟩]) <|
.seq (.seq (.ops [⟨(some 7), .mov, [.k (.int .i64 0)], none, []⟩]) <|
.block 0 (.loop m5_0)) <|
.seq (.ops [⟨(some 4), .mov, [.k (.bool true)], none, [1, 5, 6, 7, 29]⟩]) <|
.ret⟩
theorem c5 : cFn Try.prog 5 = some m5.bare := by kernel_rfl

/-- 'swingbridge/swingbridgelaw4.RankSorts' -/
def m6_0 : MCode := .seq (.seq (.ops [⟨(some 33), .mov, [.r 6], none, []⟩,
      ⟨(some 34), .mov, [.r 0], none, []⟩,
      ⟨(some 35), .len, [.r 34], none, [34]⟩,
      ⟨(some 36), .bin .lss, [.r 33, .r 35], none, [33, 35]⟩]) <|
    .cond (.r 36)
      (.skip)
      (.exit 2)) <|
    .seq (.block 3 (.seq (.ops [⟨(some 40), .mov, [.r 3], none, [36]⟩,
        ⟨(some 41), .call 32, [.r 40], none, [40]⟩,
        ⟨(some 39), .mov, [.r 41], none, [41]⟩,
        ⟨(some 42), .extract 0, [.r 39], none, []⟩,
        ⟨(some 43), .extract 1, [.r 39], none, [39]⟩,
        ⟨(some 7), .mov, [.r 42], none, [42]⟩,
        ⟨(some 8), .mov, [.r 43], none, [43]⟩]) <|
      .seq (.seq (.draw [⟨(some 44), .mov, [.r 8], none, [8]⟩,
        ⟨(some 45), .bin .neq, [.r 44, .k (.int .i64 0)], none, [44]⟩,
        ⟨(some 46), .mov, [.r 45], none, [45]⟩,
        ⟨(some 47), .mov, [.r 7], (some (46, false)), []⟩,
        ⟨(some 48), .bin .lss, [.r 47, .k (.int .i64 0)], (some (46, false)), [47]⟩,
        ⟨(some 49), .pick, [.r 46, .k (.bool true), .r 48], none, [46, 48]⟩,
        ⟨(some 50), .mov, [.r 49], none, [49]⟩,
        ⟨(some 51), .mov, [.r 7], (some (50, false)), []⟩,
        ⟨(some 52), .mov, [.r 0], (some (50, false)), []⟩,
        ⟨(some 53), .len, [.r 52], (some (50, false)), [52]⟩,
        ⟨(some 54), .bin .geq, [.r 51, .r 53], (some (50, false)), [51, 53]⟩,
        ⟨(some 55), .pick, [.r 50, .k (.bool true), .r 54], none, [50, 54]⟩,
        ⟨(some 56), .mov, [.r 55], none, [55]⟩,
        ⟨(some 57), .mov, [.r 5], (some (56, false)), []⟩,
        ⟨(some 58), .bin .geq, [.r 57, .k (.int .i64 0)], (some (56, false)), [57]⟩,
        ⟨(some 59), .mov, [.r 58], (some (56, false)), [58]⟩,
        ⟨(some 60), .mov, [.r 0], (some (59, true)), []⟩,
        ⟨(some 61), .mov, [.r 5], (some (59, true)), []⟩,
        ⟨(some 62), .ia 1, [.r 60, .r 61], (some (59, true)), [60, 61]⟩,
        ⟨(some 63), .ld none, [.r 62], (some (59, true)), [62]⟩,
        ⟨(some 64), .bin .rem, [.r 63, .k (.int .u8 9)], (some (59, true)), [63]⟩,
        ⟨(some 65), .mov, [.r 0], (some (59, true)), []⟩,
        ⟨(some 66), .mov, [.r 7], (some (59, true)), []⟩,
        ⟨(some 67), .ia 1, [.r 65, .r 66], (some (59, true)), [65, 66]⟩,
        ⟨(some 68), .ld none, [.r 67], (some (59, true)), [67]⟩,
        ⟨(some 69), .bin .rem, [.r 68, .k (.int .u8 9)], (some (59, true)), [68]⟩,
        ⟨(some 70), .bin .gtr, [.r 64, .r 69], (some (59, true)), [64, 69]⟩,
        ⟨(some 71), .mov, [.r 70], (some (59, true)), [70]⟩,
        ⟨(some 72), .mov, [.r 0], (some (71, false)), []⟩,
        ⟨(some 73), .mov, [.r 5], (some (71, false)), []⟩,
        ⟨(some 74), .ia 1, [.r 72, .r 73], (some (71, false)), [72, 73]⟩,
        ⟨(some 75), .ld none, [.r 74], (some (71, false)), [74]⟩,
        ⟨(some 76), .bin .rem, [.r 75, .k (.int .u8 9)], (some (71, false)), [75]⟩,
        ⟨(some 77), .mov, [.r 0], (some (71, false)), []⟩,
        ⟨(some 78), .mov, [.r 7], (some (71, false)), []⟩,
        ⟨(some 79), .ia 1, [.r 77, .r 78], (some (71, false)), [77, 78]⟩,
        ⟨(some 80), .ld none, [.r 79], (some (71, false)), [79]⟩,
        ⟨(some 81), .bin .rem, [.r 80, .k (.int .u8 9)], (some (71, false)), [80]⟩,
        ⟨(some 82), .bin .eql, [.r 76, .r 81], (some (71, false)), [76, 81]⟩,
        ⟨(some 83), .mov, [.r 82], (some (71, false)), [82]⟩,
        ⟨(some 84), .mov, [.r 5], (some (83, true)), [5]⟩,
        ⟨(some 85), .mov, [.r 7], (some (83, true)), []⟩,
        ⟨(some 86), .bin .geq, [.r 84, .r 85], (some (83, true)), [84, 85]⟩,
        ⟨(some 87), .pick, [.r 83, .r 86, .k (.bool false)], (some (71, false)), [83, 86]⟩,
        ⟨(some 88), .pick, [.r 71, .k (.bool true), .r 87], (some (59, true)), [71, 87]⟩,
        ⟨(some 89), .pick, [.r 59, .r 88, .k (.bool false)], (some (56, false)), [59, 88]⟩,
        ⟨(some 90), .pick, [.r 56, .k (.bool true), .r 89], none, [56, 89]⟩] []) <|
      .cond (.r 90)
        (.seq (.ops [⟨(some 2), .mov, [.k (.bool false)], none, [0, 3, 6, 7, 90]⟩]) <|
        .ret)
        (.skip)) <|
      .ops [⟨(some 91), .mov, [.r 7], none, [7, 90]⟩,
        ⟨(some 5), .mov, [.r 91], none, [91]⟩])) <|
    .ops [⟨(some 37), .mov, [.r 6], none, [6]⟩,
      ⟨(some 38), .bin .add, [.r 37, .k (.int .i64 1)], none, [37]⟩,
      ⟨(some 6), .mov, [.r 38], none, [38]⟩]
def m6_1 : MCode := .seq (.seq (.ops [⟨(some 17), .mov, [.r 4], none, []⟩,
      ⟨(some 18), .mov, [.r 0], none, []⟩,
      ⟨(some 19), .len, [.r 18], none, [18]⟩,
      ⟨(some 20), .bin .lss, [.r 17, .r 19], none, [17, 19]⟩]) <|
    .cond (.r 20)
      (.skip)
      (.exit 0)) <|
    .seq (.block 1 (.seq (.ops [⟨(some 23), .mov, [.r 3], none, [20]⟩,
        ⟨(some 24), .mov, [.r 0], none, []⟩,
        ⟨(some 25), .mov, [.r 4], none, []⟩,
        ⟨(some 26), .ia 1, [.r 24, .r 25], none, [24, 25]⟩,
        ⟨(some 27), .ld none, [.r 26], none, [26]⟩,
        ⟨(some 28), .bin .rem, [.r 27, .k (.int .u8 9)], none, [27]⟩,
        ⟨(some 29), .conv .i64, [.r 28], none, [28]⟩,
        ⟨(some 30), .mov, [.r 4], none, []⟩,
        ⟨(some 31), .call 30, [.r 23, .r 29, .r 30], none, [23, 29, 30]⟩,
        ⟨(some 32), .bin .neq, [.r 31, .k (.int .i64 0)], none, [31]⟩]) <|
      .cond (.r 32)
        (.seq (.ops [⟨(some 2), .mov, [.k (.bool false)], none, [0, 3, 4, 32]⟩]) <|
        .ret)
        (.skip))) <|
    .ops [⟨(some 21), .mov, [.r 4], none, [4, 32]⟩,
      ⟨(some 22), .bin .add, [.r 21, .k (.int .i64 1)], none, [21]⟩,
      ⟨(some 4), .mov, [.r 22], none, [22]⟩]
def m6 : MFn := ⟨[.tmp 2], .seq (.ops [⟨(some 2), .mov, [.k (.bool false)], none, [2]⟩]) <|
.seq (.seq (.ops [⟨(some 11), .call 27, [], none, []⟩,
  ⟨(some 12), .un .not, [.r 11], none, [11]⟩]) <|
.cond (.r 12)
  (.seq (.ops [⟨(some 2), .mov, [.k (.bool false)], none, [0, 12]⟩]) <|
  .ret)
  (.skip)) <|
.seq (.seq (.ops [⟨(some 13), .mov, [.r 0], none, [12]⟩,
  ⟨(some 14), .len, [.r 13], none, [13]⟩,
  ⟨(some 15), .bin .gtr, [.r 14, .k (.int .i64 64)], none, [14]⟩]) <|
.cond (.r 15)
  (.seq (.ops [⟨(some 2), .mov, [.k (.bool true)], none, [0, 15]⟩]) <|
  .ret)
  (.skip)) <|
.seq (.ops [⟨(some 16), .call 28, [.k (.int .i64 64)], none, [15]⟩,
  ⟨(some 3), .mov, [.r 16], none, [16]⟩]) <|
.seq (.seq (.ops [⟨(some 4), .mov, [.k (.int .i64 0)], none, []⟩]) <|
.block 0 (.loop m6_1)) <|
.seq (.ops [⟨(some 5), .mov, [.k (.int .i64 (-1))], none, [4, 20]⟩]) <|
.seq (.seq (.ops [⟨(some 6), .mov, [.k (.int .i64 0)], none, []⟩]) <|
.block 2 (.loop m6_0)) <|
.seq (.ops [⟨(some 93), .mov, [.r 3], none, [0, 3, 5, 6, 36]⟩,
  ⟨(some 94), .call 32, [.r 93], none, [93]⟩,
  ⟨(some 92), .mov, [.r 94], none, [94]⟩,
  ⟨(some 95), .extract 0, [.r 92], none, []⟩,
  ⟨(some 96), .extract 1, [.r 92], none, [92]⟩,
  ⟨(some 9), .mov, [.r 95], none, [9, 95]⟩,
  ⟨(some 10), .mov, [.r 96], none, [96]⟩]) <|
.seq (.ops [⟨(some 97), .mov, [.r 10], none, [10]⟩,
  ⟨(some 98), .bin .eql, [.r 97, .k (.int .i64 13)], none, [97]⟩,
  ⟨(some 2), .mov, [.r 98], none, [98]⟩]) <|
.ret⟩
theorem c6 : cFn Try.prog 6 = some m6.bare := by kernel_rfl

/-- 'swingbridge/swingbridgelaw4.RankMixed' -/
def m7_0 : MCode := .seq (.seq (.ops [⟨(some 58), .mov, [.r 10], none, []⟩,
            ⟨(some 59), .mov, [.r 9], none, []⟩,
            ⟨(some 60), .len, [.r 59], none, [59]⟩,
            ⟨(some 61), .bin .lss, [.r 58, .r 60], none, [58, 60]⟩]) <|
          .cond (.r 61)
            (.skip)
            (.exit 2)) <|
          .seq (.block 3 (.seq (.ops [⟨(some 64), .mov, [.r 9], none, [61]⟩,
              ⟨(some 65), .mov, [.r 10], none, []⟩,
              ⟨(some 66), .ia 1, [.r 64, .r 65], none, [64, 65]⟩,
              ⟨(some 67), .ld none, [.r 66], none, [66]⟩,
              ⟨(some 11), .mov, [.r 67], none, [67]⟩]) <|
            .seq (.draw [⟨(some 68), .mov, [.r 11], none, []⟩,
              ⟨(some 69), .bin .lss, [.r 68, .k (.int .i64 0)], none, [68]⟩,
              ⟨(some 70), .mov, [.r 69], none, [69]⟩,
              ⟨(some 71), .mov, [.r 11], (some (70, false)), []⟩,
              ⟨(some 72), .mov, [.r 6], (some (70, false)), []⟩,
              ⟨(some 73), .bin .gtr, [.r 71, .r 72], (some (70, false)), [71, 72]⟩,
              ⟨(some 74), .pick, [.r 70, .k (.bool true), .r 73], none, [70, 73]⟩,
              ⟨(some 75), .mov, [.r 74], none, [74]⟩,
              ⟨(some 76), .mov, [.r 0], (some (75, false)), []⟩,
              ⟨(some 77), .mov, [.r 11], (some (75, false)), []⟩,
              ⟨(some 78), .ia 1, [.r 76, .r 77], (some (75, false)), [76, 77]⟩,
              ⟨(some 79), .ld none, [.r 78], (some (75, false)), [78]⟩,
              ⟨(some 80), .mov, [.r 0], (some (75, false)), []⟩,
              ⟨(some 81), .mov, [.r 7], (some (75, false)), []⟩,
              ⟨(some 82), .ia 1, [.r 80, .r 81], (some (75, false)), [80, 81]⟩,
              ⟨(some 83), .ld none, [.r 82], (some (75, false)), [82]⟩,
              ⟨(some 84), .bin .lss, [.r 79, .r 83], (some (75, false)), [79, 83]⟩,
              ⟨(some 85), .pick, [.r 75, .k (.bool true), .r 84], none, [75, 84]⟩,
              ⟨(some 86), .mov, [.r 85], none, [85]⟩,
              ⟨(some 87), .mov, [.r 0], (some (86, false)), []⟩,
              ⟨(some 88), .mov, [.r 11], (some (86, false)), []⟩,
              ⟨(some 89), .ia 1, [.r 87, .r 88], (some (86, false)), [87, 88]⟩,
              ⟨(some 90), .ld none, [.r 89], (some (86, false)), [89]⟩,
              ⟨(some 91), .mov, [.r 0], (some (86, false)), []⟩,
              ⟨(some 92), .mov, [.r 7], (some (86, false)), []⟩,
              ⟨(some 93), .ia 1, [.r 91, .r 92], (some (86, false)), [91, 92]⟩,
              ⟨(some 94), .ld none, [.r 93], (some (86, false)), [93]⟩,
              ⟨(some 95), .bin .eql, [.r 90, .r 94], (some (86, false)), [90, 94]⟩,
              ⟨(some 96), .mov, [.r 95], (some (86, false)), [95]⟩,
              ⟨(some 97), .mov, [.r 11], (some (96, true)), [11]⟩,
              ⟨(some 98), .mov, [.r 7], (some (96, true)), []⟩,
              ⟨(some 99), .bin .lss, [.r 97, .r 98], (some (96, true)), [97, 98]⟩,
              ⟨(some 100), .pick, [.r 96, .r 99, .k (.bool false)], (some (86, false)), [96, 99]⟩,
              ⟨(some 101), .pick, [.r 86, .k (.bool true), .r 100], none, [86, 100]⟩] []) <|
            .cond (.r 101)
              (.seq (.ops [⟨(some 4), .mov, [.k (.bool false)], none, [0, 1, 5, 6, 7, 9, 10, 101]⟩]) <|
              .ret)
              (.skip))) <|
          .ops [⟨(some 62), .mov, [.r 10], none, [10, 101]⟩,
            ⟨(some 63), .bin .add, [.r 62, .k (.int .i64 1)], none, [62]⟩,
            ⟨(some 10), .mov, [.r 63], none, [63]⟩]
def m7_1 : MCode := .seq (.seq (.ops [⟨(some 18), .mov, [.r 6], none, []⟩,
      ⟨(some 19), .mov, [.r 0], none, []⟩,
      ⟨(some 20), .len, [.r 19], none, [19]⟩,
      ⟨(some 21), .bin .lss, [.r 18, .r 20], none, [18, 20]⟩]) <|
    .cond (.r 21)
      (.skip)
      (.exit 0)) <|
    .seq (.block 1 (.seq (.seq (.ops [⟨(some 24), .mov, [.r 5], none, [21]⟩,
        ⟨(some 25), .mov, [.r 0], none, []⟩,
        ⟨(some 26), .mov, [.r 6], none, []⟩,
        ⟨(some 27), .ia 1, [.r 25, .r 26], none, [25, 26]⟩,
        ⟨(some 28), .ld none, [.r 27], none, [27]⟩,
        ⟨(some 29), .conv .i64, [.r 28], none, [28]⟩,
        ⟨(some 30), .mov, [.r 6], none, []⟩,
        ⟨(some 31), .call 30, [.r 24, .r 29, .r 30], none, [24, 29, 30]⟩,
        ⟨(some 32), .bin .neq, [.r 31, .k (.int .i64 0)], none, [31]⟩]) <|
      .cond (.r 32)
        (.seq (.ops [⟨(some 4), .mov, [.k (.bool false)], none, [0, 1, 5, 6, 32]⟩]) <|
        .ret)
        (.skip)) <|
      .seq (.seq (.ops [⟨(some 33), .mov, [.r 1], none, [32]⟩,
        ⟨(some 34), .mov, [.r 6], none, []⟩,
        ⟨(some 35), .bin .rem, [.r 34, .k (.int .i64 16)], none, [34]⟩,
        ⟨(some 36), .conv .u64, [.r 35], none, [35]⟩,
        ⟨(some 37), .bin .shr, [.r 33, .r 36], none, [33, 36]⟩,
        ⟨(some 38), .bin .and, [.r 37, .k (.int .u16 1)], none, [37]⟩,
        ⟨(some 39), .bin .eql, [.r 38, .k (.int .u16 0)], none, [38]⟩]) <|
      .cond (.r 39)
        (.exit 1)
        (.skip)) <|
      .seq (.ops [⟨(some 41), .mov, [.r 5], none, [39]⟩,
        ⟨(some 42), .call 32, [.r 41], none, [41]⟩,
        ⟨(some 40), .mov, [.r 42], none, [42]⟩,
        ⟨(some 43), .extract 0, [.r 40], none, []⟩,
        ⟨(some 44), .extract 1, [.r 40], none, [40]⟩,
        ⟨(some 7), .mov, [.r 43], none, [43]⟩,
        ⟨(some 8), .mov, [.r 44], none, [44]⟩]) <|
      .seq (.seq (.ops [⟨(some 45), .mov, [.r 8], none, [8]⟩,
        ⟨(some 46), .bin .neq, [.r 45, .k (.int .i64 0)], none, [45]⟩,
        ⟨(some 47), .mov, [.r 46], none, [46]⟩,
        ⟨(some 48), .mov, [.r 7], (some (47, false)), []⟩,
        ⟨(some 49), .bin .lss, [.r 48, .k (.int .i64 0)], (some (47, false)), [48]⟩,
        ⟨(some 50), .pick, [.r 47, .k (.bool true), .r 49], none, [47, 49]⟩,
        ⟨(some 51), .mov, [.r 50], none, [50]⟩,
        ⟨(some 52), .mov, [.r 7], (some (51, false)), []⟩,
        ⟨(some 53), .mov, [.r 6], (some (51, false)), []⟩,
        ⟨(some 54), .bin .gtr, [.r 52, .r 53], (some (51, false)), [52, 53]⟩,
        ⟨(some 55), .pick, [.r 51, .k (.bool true), .r 54], none, [51, 54]⟩]) <|
      .cond (.r 55)
        (.seq (.ops [⟨(some 4), .mov, [.k (.bool false)], none, [0, 1, 5, 6, 7, 55]⟩]) <|
        .ret)
        (.skip)) <|
      .seq (.ops [⟨(some 56), .mov, [.r 5], none, [55]⟩,
        ⟨(some 57), .call 39, [.r 56], none, [56]⟩,
        ⟨(some 9), .mov, [.r 57], none, [57]⟩]) <|
      .seq (.ops [⟨(some 10), .mov, [.k (.int .i64 0)], none, []⟩]) <|
      .block 2 (.loop m7_0))) <|
    .ops [⟨(some 22), .mov, [.r 6], none, [6, 7, 9, 10, 39, 61]⟩,
      ⟨(some 23), .bin .add, [.r 22, .k (.int .i64 1)], none, [22]⟩,
      ⟨(some 6), .mov, [.r 23], none, [23]⟩]
def m7 : MFn := ⟨[.tmp 4], .seq (.ops [⟨(some 4), .mov, [.k (.bool false)], none, [4]⟩]) <|
.seq (.seq (.ops [⟨(some 12), .call 27, [], none, []⟩,
  ⟨(some 13), .un .not, [.r 12], none, [12]⟩]) <|
.cond (.r 13)
  (.seq (.ops [⟨(some 4), .mov, [.k (.bool false)], none, [0, 1, 13]⟩]) <|
  .ret)
  (.skip)) <|
.seq (.seq (.ops [⟨(some 14), .mov, [.r 0], none, [13]⟩,
  ⟨(some 15), .len, [.r 14], none, [14]⟩,
  ⟨(some 16), .bin .gtr, [.r 15, .k (.int .i64 64)], none, [15]⟩]) <|
.cond (.r 16)
  (.seq (.ops [⟨(some 4), .mov, [.k (.bool true)], none, [0, 1, 16]⟩]) <|
  .ret)
  (.skip)) <|
.seq (.ops [⟨(some 17), .call 28, [.k (.int .i64 64)], none, [16]⟩,
  ⟨(some 5), .mov, [.r 17], none, [17]⟩]) <|
.seq (.seq (.ops [⟨(some 6), .mov, [.k (.int .i64 0)], none, []⟩]) <|
.block 0 (.loop m7_1)) <|
.seq (.ops [⟨(some 4), .mov, [.k (.bool true)], none, [0, 1, 5, 6, 21]⟩]) <|
.ret⟩
theorem c7 : cFn Try.prog 7 = some m7.bare := by kernel_rfl

/-- 'swingbridge/swingbridgelaw4.RankDrops' -/
def m8_0 : MCode := .seq (.seq (.ops [⟨(some 61), .mov, [.r 9], none, []⟩,
      ⟨(some 62), .mov, [.r 8], none, []⟩,
      ⟨(some 63), .len, [.r 62], none, [62]⟩,
      ⟨(some 64), .bin .lss, [.r 61, .r 63], none, [61, 63]⟩]) <|
    .cond (.r 64)
      (.skip)
      (.exit 2)) <|
    .seq (.block 3 (.seq (.seq (.ops [⟨(some 67), .mov, [.r 8], none, [64]⟩,
        ⟨(some 68), .mov, [.r 9], none, []⟩,
        ⟨(some 69), .ia 1, [.r 67, .r 68], none, [67, 68]⟩,
        ⟨(some 70), .ld none, [.r 69], none, [69]⟩,
        ⟨(some 71), .mov, [.r 7], none, []⟩,
        ⟨(some 72), .bin .eql, [.r 70, .r 71], none, [70, 71]⟩]) <|
      .cond (.r 72)
        (.exit 3)
        (.skip)) <|
      .seq (.ops [⟨(some 74), .mov, [.r 5], none, [72]⟩,
        ⟨(some 75), .call 32, [.r 74], none, [74]⟩,
        ⟨(some 73), .mov, [.r 75], none, [75]⟩,
        ⟨(some 76), .extract 0, [.r 73], none, []⟩,
        ⟨(some 77), .extract 1, [.r 73], none, [73]⟩,
        ⟨(some 10), .mov, [.r 76], none, [76]⟩,
        ⟨(some 11), .mov, [.r 77], none, [77]⟩]) <|
      .seq (.ops [⟨(some 78), .mov, [.r 11], none, [11]⟩,
        ⟨(some 79), .bin .neq, [.r 78, .k (.int .i64 0)], none, [78]⟩,
        ⟨(some 80), .mov, [.r 79], none, [79]⟩,
        ⟨(some 81), .mov, [.r 10], (some (80, false)), [10]⟩,
        ⟨(some 82), .mov, [.r 8], (some (80, false)), []⟩,
        ⟨(some 83), .mov, [.r 9], (some (80, false)), []⟩,
        ⟨(some 84), .ia 1, [.r 82, .r 83], (some (80, false)), [82, 83]⟩,
        ⟨(some 85), .ld none, [.r 84], (some (80, false)), [84]⟩,
        ⟨(some 86), .bin .neq, [.r 81, .r 85], (some (80, false)), [81, 85]⟩,
        ⟨(some 87), .pick, [.r 80, .k (.bool true), .r 86], none, [80, 86]⟩]) <|
      .cond (.r 87)
        (.seq (.ops [⟨(some 4), .mov, [.k (.bool false)], none, [5, 7, 8, 9, 87]⟩]) <|
        .ret)
        (.skip))) <|
    .ops [⟨(some 65), .mov, [.r 9], none, [9, 72, 87]⟩,
      ⟨(some 66), .bin .add, [.r 65, .k (.int .i64 1)], none, [65]⟩,
      ⟨(some 9), .mov, [.r 66], none, [66]⟩]
def m8_1 : MCode := .seq (.seq (.ops [⟨(some 23), .mov, [.r 6], none, []⟩,
      ⟨(some 24), .mov, [.r 0], none, []⟩,
      ⟨(some 25), .len, [.r 24], none, [24]⟩,
      ⟨(some 26), .bin .lss, [.r 23, .r 25], none, [23, 25]⟩]) <|
    .cond (.r 26)
      (.skip)
      (.exit 0)) <|
    .seq (.block 1 (.ops [⟨(some 29), .mov, [.r 5], none, [26]⟩,
        ⟨(some 30), .mov, [.r 0], none, []⟩,
        ⟨(some 31), .mov, [.r 6], none, []⟩,
        ⟨(some 32), .ia 1, [.r 30, .r 31], none, [30, 31]⟩,
        ⟨(some 33), .ld none, [.r 32], none, [32]⟩,
        ⟨(some 34), .conv .i64, [.r 33], none, [33]⟩,
        ⟨(some 35), .mov, [.r 6], none, []⟩,
        ⟨(some 36), .call 30, [.r 29, .r 34, .r 35], none, [29, 34, 35, 36]⟩])) <|
    .ops [⟨(some 27), .mov, [.r 6], none, [6]⟩,
      ⟨(some 28), .bin .add, [.r 27, .k (.int .i64 1)], none, [27]⟩,
      ⟨(some 6), .mov, [.r 28], none, [28]⟩]
def m8 : MFn := ⟨[.tmp 4], .seq (.ops [⟨(some 4), .mov, [.k (.bool false)], none, [4]⟩]) <|
.seq (.seq (.ops [⟨(some 12), .call 27, [], none, []⟩,
  ⟨(some 13), .un .not, [.r 12], none, [12]⟩]) <|
.cond (.r 13)
  (.seq (.ops [⟨(some 4), .mov, [.k (.bool false)], none, [0, 1, 13]⟩]) <|
  .ret)
  (.skip)) <|
.seq (.seq (.ops [⟨(some 14), .mov, [.r 0], none, [13]⟩,
  ⟨(some 15), .len, [.r 14], none, [14]⟩,
  ⟨(some 16), .bin .gtr, [.r 15, .k (.int .i64 40)], none, [15]⟩,
  ⟨(some 17), .mov, [.r 16], none, [16]⟩,
  ⟨(some 18), .mov, [.r 0], (some (17, false)), []⟩,
  ⟨(some 19), .len, [.r 18], (some (17, false)), [18]⟩,
  ⟨(some 20), .bin .eql, [.r 19, .k (.int .i64 0)], (some (17, false)), [19]⟩,
  ⟨(some 21), .pick, [.r 17, .k (.bool true), .r 20], none, [17, 20]⟩]) <|
.cond (.r 21)
  (.seq (.ops [⟨(some 4), .mov, [.k (.bool true)], none, [0, 1, 21]⟩]) <|
  .ret)
  (.skip)) <|
.seq (.ops [⟨(some 22), .call 28, [.k (.int .i64 64)], none, [21]⟩,
  ⟨(some 5), .mov, [.r 22], none, [22]⟩]) <|
.seq (.seq (.ops [⟨(some 6), .mov, [.k (.int .i64 0)], none, []⟩]) <|
.block 0 (.loop m8_1)) <|
.seq (.ops [⟨(some 37), .mov, [.r 1], none, [1, 6, 26]⟩,
  ⟨(some 38), .conv .i64, [.r 37], none, [37]⟩,
  ⟨(some 39), .mov, [.r 0], none, []⟩,
  ⟨(some 40), .len, [.r 39], none, [39]⟩,
  ⟨(some 41), .bin .rem, [.r 38, .r 40], none, [38, 40]⟩,
  ⟨(some 7), .mov, [.r 41], none, [41]⟩]) <|
.seq (.ops [⟨(some 42), .mov, [.r 5], none, []⟩,
  ⟨(some 43), .call 39, [.r 42], none, [42]⟩,
  ⟨(some 8), .mov, [.r 43], none, [43]⟩]) <|
.seq (.seq (.ops [⟨(some 44), .mov, [.r 5], none, []⟩,
  ⟨(some 45), .mov, [.r 7], none, []⟩,
  ⟨(some 46), .call 34, [.r 44, .r 45], none, [44, 45]⟩,
  ⟨(some 47), .un .not, [.r 46], none, [46]⟩,
  ⟨(some 48), .mov, [.r 47], none, [47]⟩,
  ⟨(some 49), .mov, [.r 5], (some (48, false)), []⟩,
  ⟨(some 50), .mov, [.r 7], (some (48, false)), []⟩,
  ⟨(some 51), .call 34, [.r 49, .r 50], (some (48, false)), [49, 50]⟩,
  ⟨(some 52), .pick, [.r 48, .k (.bool true), .r 51], none, [48, 51]⟩,
  ⟨(some 53), .mov, [.r 52], none, [52]⟩,
  ⟨(some 54), .mov, [.r 5], (some (53, false)), []⟩,
  ⟨(some 55), .call 40, [.r 54], (some (53, false)), [54]⟩,
  ⟨(some 56), .mov, [.r 0], (some (53, false)), [0]⟩,
  ⟨(some 57), .len, [.r 56], (some (53, false)), [56]⟩,
  ⟨(some 58), .bin .sub, [.r 57, .k (.int .i64 1)], (some (53, false)), [57]⟩,
  ⟨(some 59), .bin .neq, [.r 55, .r 58], (some (53, false)), [55, 58]⟩,
  ⟨(some 60), .pick, [.r 53, .k (.bool true), .r 59], none, [53, 59]⟩]) <|
.cond (.r 60)
  (.seq (.ops [⟨(some 4), .mov, [.k (.bool false)], none, [5, 7, 8, 60]⟩]) <|
  .ret)
  (.skip)) <|
.seq (.seq (.ops [⟨(some 9), .mov, [.k (.int .i64 0)], none, [60]⟩]) <|
.block 2 (.loop m8_0)) <|
.seq (.ops [⟨(some 88), .mov, [.r 5], none, [5, 7, 8, 9, 64]⟩,
  ⟨(some 89), .call 40, [.r 88], none, [88]⟩,
  ⟨(some 90), .bin .eql, [.r 89, .k (.int .i64 0)], none, [89]⟩,
  ⟨(some 4), .mov, [.r 90], none, [90]⟩]) <|
.ret⟩
theorem c8 : cFn Try.prog 8 = some m8.bare := by kernel_rfl

/-- 'swingbridge/swingbridgelaw4.known' -/
def m27 : MFn := ⟨[.tmp 0], .seq (.ops [⟨(some 0), .mov, [.k (.bool false)], none, [0]⟩]) <|
.seq (.ops [⟨(some 12), .call 28, [.k (.int .i64 3)], none, []⟩,
  ⟨(some 1), .mov, [.r 12], none, [12]⟩]) <|
.seq (.seq (.ops [⟨(some 13), .mov, [.r 1], none, []⟩,
  ⟨(some 14), .eqv false .ptr, [.r 13, .k (.pointer none)], none, [13]⟩]) <|
.cond (.r 14)
  (.seq (.ops [⟨(some 0), .mov, [.k (.bool false)], none, [1, 14]⟩]) <|
  .ret)
  (.skip)) <|
.seq (.ops [⟨(some 15), .mov, [.r 1], none, [14]⟩,
  ⟨(some 16), .call 30, [.r 15, .k (.int .i64 5), .k (.int .i64 3)], none, [15]⟩,
  ⟨(some 17), .mov, [.r 1], none, []⟩,
  ⟨(some 18), .call 30, [.r 17, .k (.int .i64 2), .k (.int .i64 1)], none, [17]⟩,
  ⟨(some 19), .mov, [.r 1], none, []⟩,
  ⟨(some 20), .call 30, [.r 19, .k (.int .i64 2), .k (.int .i64 4)], none, [19]⟩,
  ⟨(some 21), .mov, [.r 1], none, []⟩,
  ⟨(some 22), .call 30, [.r 21, .k (.int .i64 1), .k (.int .i64 1)], none, [21]⟩,
  ⟨(some 2), .mov, [.r 16], none, [16]⟩,
  ⟨(some 3), .mov, [.r 18], none, [18]⟩,
  ⟨(some 4), .mov, [.r 20], none, [20]⟩,
  ⟨(some 5), .mov, [.r 22], none, [22]⟩]) <|
.seq (.ops [⟨(some 24), .mov, [.r 1], none, []⟩,
  ⟨(some 25), .call 37, [.r 24], none, [24]⟩,
  ⟨(some 23), .mov, [.r 25], none, [25]⟩,
  ⟨(some 26), .extract 0, [.r 23], none, []⟩,
  ⟨(some 27), .extract 1, [.r 23], none, [23]⟩,
  ⟨(some 6), .mov, [.r 26], none, [26]⟩,
  ⟨(some 7), .mov, [.r 27], none, [27]⟩]) <|
.seq (.ops [⟨(some 29), .mov, [.r 1], none, []⟩,
  ⟨(some 30), .call 32, [.r 29], none, [29]⟩,
  ⟨(some 28), .mov, [.r 30], none, [30]⟩,
  ⟨(some 31), .extract 0, [.r 28], none, []⟩,
  ⟨(some 32), .extract 1, [.r 28], none, [28]⟩,
  ⟨(some 8), .mov, [.r 31], none, [31]⟩,
  ⟨(some 9), .mov, [.r 32], none, [32]⟩]) <|
.seq (.ops [⟨(some 34), .mov, [.r 1], none, []⟩,
  ⟨(some 35), .call 32, [.r 34], none, [34]⟩,
  ⟨(some 33), .mov, [.r 35], none, [35]⟩,
  ⟨(some 36), .extract 0, [.r 33], none, []⟩,
  ⟨(some 37), .extract 1, [.r 33], none, [33]⟩,
  ⟨(some 10), .mov, [.r 36], none, [36]⟩,
  ⟨(some 11), .mov, [.r 37], none, [37]⟩]) <|
.seq (.ops [⟨(some 38), .mov, [.r 2], none, [2]⟩,
  ⟨(some 39), .bin .eql, [.r 38, .k (.int .i64 0)], none, [38]⟩,
  ⟨(some 40), .mov, [.r 39], none, [39]⟩,
  ⟨(some 41), .mov, [.r 3], (some (40, true)), [3]⟩,
  ⟨(some 42), .bin .eql, [.r 41, .k (.int .i64 0)], (some (40, true)), [41]⟩,
  ⟨(some 43), .pick, [.r 40, .r 42, .k (.bool false)], none, [40, 42]⟩,
  ⟨(some 44), .mov, [.r 43], none, [43]⟩,
  ⟨(some 45), .mov, [.r 4], (some (44, true)), [4]⟩,
  ⟨(some 46), .bin .eql, [.r 45, .k (.int .i64 0)], (some (44, true)), [45]⟩,
  ⟨(some 47), .pick, [.r 44, .r 46, .k (.bool false)], none, [44, 46]⟩,
  ⟨(some 48), .mov, [.r 47], none, [47]⟩,
  ⟨(some 49), .mov, [.r 5], (some (48, true)), [5]⟩,
  ⟨(some 50), .bin .eql, [.r 49, .k (.int .i64 12)], (some (48, true)), [49]⟩,
  ⟨(some 51), .pick, [.r 48, .r 50, .k (.bool false)], none, [48, 50]⟩,
  ⟨(some 52), .mov, [.r 51], none, [51]⟩,
  ⟨(some 53), .mov, [.r 7], (some (52, true)), [7]⟩,
  ⟨(some 54), .pick, [.r 52, .r 53, .k (.bool false)], none, [52, 53]⟩,
  ⟨(some 55), .mov, [.r 54], none, [54]⟩,
  ⟨(some 56), .mov, [.r 6], (some (55, true)), [6]⟩,
  ⟨(some 57), .bin .eql, [.r 56, .k (.int .i64 1)], (some (55, true)), [56]⟩,
  ⟨(some 58), .pick, [.r 55, .r 57, .k (.bool false)], none, [55, 57]⟩,
  ⟨(some 59), .mov, [.r 58], none, [58]⟩,
  ⟨(some 60), .mov, [.r 9], (some (59, true)), [9]⟩,
  ⟨(some 61), .bin .eql, [.r 60, .k (.int .i64 0)], (some (59, true)), [60]⟩,
  ⟨(some 62), .pick, [.r 59, .r 61, .k (.bool false)], none, [59, 61]⟩,
  ⟨(some 63), .mov, [.r 62], none, [62]⟩,
  ⟨(some 64), .mov, [.r 8], (some (63, true)), [8]⟩,
  ⟨(some 65), .bin .eql, [.r 64, .k (.int .i64 1)], (some (63, true)), [64]⟩,
  ⟨(some 66), .pick, [.r 63, .r 65, .k (.bool false)], none, [63, 65]⟩,
  ⟨(some 67), .mov, [.r 66], none, [66]⟩,
  ⟨(some 68), .mov, [.r 11], (some (67, true)), [11]⟩,
  ⟨(some 69), .bin .eql, [.r 68, .k (.int .i64 0)], (some (67, true)), [68]⟩,
  ⟨(some 70), .pick, [.r 67, .r 69, .k (.bool false)], none, [67, 69]⟩,
  ⟨(some 71), .mov, [.r 70], none, [70]⟩,
  ⟨(some 72), .mov, [.r 10], (some (71, true)), [10]⟩,
  ⟨(some 73), .bin .eql, [.r 72, .k (.int .i64 4)], (some (71, true)), [72]⟩,
  ⟨(some 74), .pick, [.r 71, .r 73, .k (.bool false)], none, [71, 73]⟩,
  ⟨(some 75), .mov, [.r 74], none, [74]⟩,
  ⟨(some 76), .mov, [.r 1], (some (75, true)), []⟩,
  ⟨(some 77), .call 40, [.r 76], (some (75, true)), [76]⟩,
  ⟨(some 78), .bin .eql, [.r 77, .k (.int .i64 1)], (some (75, true)), [77]⟩,
  ⟨(some 79), .pick, [.r 75, .r 78, .k (.bool false)], none, [75, 78]⟩,
  ⟨(some 80), .mov, [.r 79], none, [79]⟩,
  ⟨(some 81), .mov, [.r 1], (some (80, true)), []⟩,
  ⟨(some 82), .call 34, [.r 81, .k (.int .i64 3)], (some (80, true)), [81]⟩,
  ⟨(some 83), .pick, [.r 80, .r 82, .k (.bool false)], none, [80, 82]⟩,
  ⟨(some 84), .mov, [.r 83], none, [83]⟩,
  ⟨(some 85), .mov, [.r 1], (some (84, true)), []⟩,
  ⟨(some 86), .call 34, [.r 85, .k (.int .i64 3)], (some (84, true)), [85]⟩,
  ⟨(some 87), .un .not, [.r 86], (some (84, true)), [86]⟩,
  ⟨(some 88), .pick, [.r 84, .r 87, .k (.bool false)], none, [84, 87]⟩,
  ⟨(some 89), .mov, [.r 88], none, [88]⟩,
  ⟨(some 90), .mov, [.r 1], (some (89, true)), [1]⟩,
  ⟨(some 91), .call 39, [.r 90], (some (89, true)), [90]⟩,
  ⟨(some 92), .len, [.r 91], (some (89, true)), [91]⟩,
  ⟨(some 93), .bin .eql, [.r 92, .k (.int .i64 0)], (some (89, true)), [92]⟩,
  ⟨(some 94), .pick, [.r 89, .r 93, .k (.bool false)], none, [89, 93]⟩,
  ⟨(some 0), .mov, [.r 94], none, [94]⟩]) <|
.ret⟩
theorem c27 : cFn Try.prog 27 = some m27.bare := by kernel_rfl

/-- 'swingbridge/rank.New' -/
def m28 : MFn := ⟨[.tmp 2], .seq (.ops [⟨(some 2), .mov, [.k (.pointer none)], none, [2]⟩]) <|
.seq (.ops [⟨(some 3), .mov, [.r 0], none, [0]⟩,
  ⟨(some 4), .minmax true, [.r 3, .k (.int .i64 0)], none, [3]⟩,
  ⟨(some 5), .minmax false, [.r 4, .k (.int .i64 64)], none, [4]⟩,
  ⟨(some 6), .build [.slice none 0 0, .int .i64 0] [(1, 1)], [.r 5], none, [5]⟩,
  ⟨(some 7), .box, [.r 6], none, [6]⟩,
  ⟨(some 2), .mov, [.r 7], none, [7]⟩]) <|
.ret⟩
theorem c28 : cFn Try.prog 28 = some m28.bare := by kernel_rfl

/-- 'swingbridge/swingbridgeref2.NewRank' -/
def m29 : MFn := ⟨[.tmp 2], .seq (.ops [⟨(some 2), .mov, [.k (.pointer none)], none, [2]⟩]) <|
.seq (.ops [⟨(some 3), .mov, [.r 0], none, [0]⟩,
  ⟨(some 4), .minmax false, [.r 3, .k (.int .i64 64)], none, [3]⟩,
  ⟨(some 5), .minmax true, [.k (.int .i64 0), .r 4], none, [4]⟩,
  ⟨(some 6), .build [.slice none 0 0, .int .i64 0] [(1, 1)], [.r 5], none, [5]⟩,
  ⟨(some 7), .box, [.r 6], none, [6]⟩,
  ⟨(some 2), .mov, [.r 7], none, [7]⟩]) <|
.ret⟩
theorem c29 : cFn Try.prog 29 = some m29.bare := by kernel_rfl

/-- '(*swingbridge/rank.Rank).Put' -/
def m30_0 : MCode := .seq (.ops [⟨(some 26), .bin .lss, [.r 25, .r 24], none, []⟩]) <|
    .seq (.cond (.r 26)
      (.skip)
      (.exit 0)) <|
    .seq (.block 1 (.seq (.ops [⟨(some 27), .ia 2, [.r 23, .r 25], none, [26]⟩,
        ⟨(some 28), .ld (some 2), [.r 27], none, [27]⟩,
        ⟨(some 9), .new 0 [.int .i64 0, .int .i64 0], [], none, []⟩,
        ⟨none, .st 2, [.r 9, .r 28], none, [28]⟩]) <|
      .seq (.seq (.ops [⟨(some 29), .fa 0, [.r 9], none, [9]⟩,
        ⟨(some 30), .ld none, [.r 29], none, [29]⟩,
        ⟨(some 31), .mov, [.r 1], none, []⟩,
        ⟨(some 32), .bin .gtr, [.r 30, .r 31], none, [30, 31]⟩]) <|
      .cond (.r 32)
        (.exit 0)
        (.skip)) <|
      .ops [⟨(some 33), .mov, [.r 7], none, [7, 32]⟩,
        ⟨(some 34), .bin .add, [.r 33, .k (.int .i64 1)], none, [33]⟩,
        ⟨(some 7), .mov, [.r 34], none, [34]⟩])) <|
    .ops [⟨(some 35), .bin .add, [.r 25, .k (.int .i64 1)], none, [25]⟩,
      ⟨(some 25), .mov, [.r 35], none, [35]⟩]
def m30 : MFn := ⟨[.tmp 6], .seq (.ops [⟨(some 6), .mov, [.k (.int .i64 0)], none, [6]⟩]) <|
.seq (.seq (.draw [⟨(some 10), .mov, [.r 0], none, []⟩,
  ⟨(some 11), .nilck, [.r 10], none, [10]⟩,
  ⟨(some 12), .fa 0, [.r 11], none, [11]⟩,
  ⟨(some 13), .ld none, [.r 12], none, [12]⟩,
  ⟨(some 14), .len, [.r 13], none, [13]⟩,
  ⟨(some 15), .mov, [.r 0], none, []⟩,
  ⟨(some 16), .nilck, [.r 15], none, [15]⟩,
  ⟨(some 17), .fa 1, [.r 16], none, [16]⟩,
  ⟨(some 18), .ld none, [.r 17], none, [17]⟩,
  ⟨(some 19), .bin .geq, [.r 14, .r 18], none, [14, 18]⟩] []) <|
.cond (.r 19)
  (.seq (.ops [⟨(some 6), .mov, [.k (.int .i64 12)], none, [0, 1, 2, 19]⟩]) <|
  .ret)
  (.skip)) <|
.seq (.ops [⟨(some 7), .mov, [.k (.int .i64 0)], none, [19]⟩]) <|
.seq (.skip) <|
.seq (.seq (.ops [⟨(some 20), .mov, [.r 0], none, []⟩,
  ⟨(some 21), .nilck, [.r 20], none, [20]⟩,
  ⟨(some 22), .fa 0, [.r 21], none, [21]⟩,
  ⟨(some 23), .ld none, [.r 22], none, [22]⟩,
  ⟨(some 24), .len, [.r 23], none, []⟩,
  ⟨(some 25), .mov, [.k (.int .i64 0)], none, []⟩]) <|
.block 0 (.loop m30_0)) <|
.seq (.ops [⟨(some 36), .mov, [.r 0], none, [23, 24, 25, 26, 32]⟩,
  ⟨(some 37), .mov, [.r 0], none, [0]⟩,
  ⟨(some 38), .nilck, [.r 37], none, [37]⟩,
  ⟨(some 39), .fa 0, [.r 38], none, [38]⟩,
  ⟨(some 40), .ld none, [.r 39], none, [39]⟩,
  ⟨(some 41), .mov, [.r 7], none, [7]⟩,
  ⟨(some 42), .mov, [.r 1], none, [1]⟩,
  ⟨(some 43), .mov, [.r 2], none, [2]⟩,
  ⟨(some 44), .build [.int .i64 0, .int .i64 0] [(0, 1), (1, 1)], [.r 42, .r 43], none, [42, 43]⟩,
  ⟨(some 45), .bslice 2 1 [.int .i64 0, .int .i64 0] [(0, 2)], [.r 44], none, [44]⟩,
  ⟨(some 46), .call 69, [.r 40, .r 41, .r 45], none, [40, 41, 45]⟩,
  ⟨(some 47), .nilck, [.r 36], none, [36]⟩,
  ⟨(some 48), .fa 0, [.r 47], none, [47]⟩,
  ⟨none, .st 1, [.r 48, .r 46], none, [46, 48]⟩]) <|
.seq (.ops [⟨(some 6), .mov, [.k (.int .i64 0)], none, []⟩]) <|
.ret⟩
theorem c30 : cFn Try.prog 30 = some m30.bare := by kernel_rfl

/-- '(*swingbridge/swingbridgeref2.Rank).Put' -/
def m31 : MFn := ⟨[.tmp 6], .seq (.ops [⟨(some 6), .mov, [.k (.int .i64 0)], none, [6]⟩]) <|
.seq (.seq (.draw [⟨(some 7), .mov, [.r 0], none, []⟩,
  ⟨(some 8), .nilck, [.r 7], none, [7]⟩,
  ⟨(some 9), .fa 0, [.r 8], none, [8]⟩,
  ⟨(some 10), .ld none, [.r 9], none, [9]⟩,
  ⟨(some 11), .len, [.r 10], none, [10]⟩,
  ⟨(some 12), .mov, [.r 0], none, []⟩,
  ⟨(some 13), .nilck, [.r 12], none, [12]⟩,
  ⟨(some 14), .fa 1, [.r 13], none, [13]⟩,
  ⟨(some 15), .ld none, [.r 14], none, [14]⟩,
  ⟨(some 16), .bin .geq, [.r 11, .r 15], none, [11, 15]⟩] []) <|
.cond (.r 16)
  (.seq (.ops [⟨(some 6), .mov, [.k (.int .i64 12)], none, [0, 1, 2, 16]⟩]) <|
  .ret)
  (.skip)) <|
.seq (.ops [⟨(some 17), .mov, [.r 0], none, [16]⟩,
  ⟨(some 18), .mov, [.r 0], none, [0]⟩,
  ⟨(some 19), .nilck, [.r 18], none, [18]⟩,
  ⟨(some 20), .fa 0, [.r 19], none, [19]⟩,
  ⟨(some 21), .ld none, [.r 20], none, [20]⟩,
  ⟨(some 22), .mov, [.r 1], none, [1]⟩,
  ⟨(some 23), .mov, [.r 2], none, [2]⟩,
  ⟨(some 24), .build [.int .i64 0, .int .i64 0] [(0, 1), (1, 1)], [.r 22, .r 23], none, [22, 23]⟩,
  ⟨(some 25), .call 70, [.r 21, .r 24], none, [21, 24]⟩,
  ⟨(some 26), .nilck, [.r 17], none, [17]⟩,
  ⟨(some 27), .fa 0, [.r 26], none, [26]⟩,
  ⟨none, .st 1, [.r 27, .r 25], none, [25, 27]⟩]) <|
.seq (.ops [⟨(some 6), .mov, [.k (.int .i64 0)], none, []⟩]) <|
.ret⟩
theorem c31 : cFn Try.prog 31 = some m31.bare := by kernel_rfl

/-- '(*swingbridge/rank.Rank).Take' -/
def m32 : MFn := ⟨[.tmp 2, .tmp 3], .seq (.ops [⟨(some 2), .mov, [.k (.int .i64 0)], none, [2]⟩,
  ⟨(some 3), .mov, [.k (.int .i64 0)], none, [3]⟩]) <|
.seq (.ops [⟨(some 7), .mov, [.r 0], none, []⟩,
  ⟨(some 8), .call 37, [.r 7], none, [7]⟩,
  ⟨(some 6), .mov, [.r 8], none, [8]⟩,
  ⟨(some 9), .extract 0, [.r 6], none, []⟩,
  ⟨(some 10), .extract 1, [.r 6], none, [6]⟩,
  ⟨(some 4), .mov, [.r 9], none, [9]⟩,
  ⟨(some 5), .mov, [.r 10], none, [10]⟩]) <|
.seq (.seq (.ops [⟨(some 11), .mov, [.r 5], none, [5]⟩,
  ⟨(some 12), .un .not, [.r 11], none, [11]⟩]) <|
.cond (.r 12)
  (.seq (.ops [⟨(some 2), .mov, [.k (.int .i64 0)], none, [0, 4, 12]⟩,
    ⟨(some 3), .mov, [.k (.int .i64 13)], none, []⟩]) <|
  .ret)
  (.skip)) <|
.seq (.ops [⟨(some 13), .mov, [.r 0], none, [12]⟩,
  ⟨(some 14), .mov, [.r 0], none, [0]⟩,
  ⟨(some 15), .nilck, [.r 14], none, [14]⟩,
  ⟨(some 16), .fa 0, [.r 15], none, [15]⟩,
  ⟨(some 17), .ld none, [.r 16], none, [16]⟩,
  ⟨(some 18), .call 71, [.r 17, .k (.int .i64 0), .k (.int .i64 1)], none, [17]⟩,
  ⟨(some 19), .nilck, [.r 13], none, [13]⟩,
  ⟨(some 20), .fa 0, [.r 19], none, [19]⟩,
  ⟨none, .st 1, [.r 20, .r 18], none, [18, 20]⟩]) <|
.seq (.ops [⟨(some 21), .mov, [.r 4], none, [4]⟩,
  ⟨(some 2), .mov, [.r 21], none, [21]⟩,
  ⟨(some 3), .mov, [.k (.int .i64 0)], none, []⟩]) <|
.ret⟩
theorem c32 : cFn Try.prog 32 = some m32.bare := by kernel_rfl

/-- '(*swingbridge/swingbridgeref2.Rank).Take' -/
def m33 : MFn := ⟨[.tmp 2, .tmp 3], .seq (.ops [⟨(some 2), .mov, [.k (.int .i64 0)], none, [2]⟩,
  ⟨(some 3), .mov, [.k (.int .i64 0)], none, [3]⟩]) <|
.seq (.seq (.ops [⟨(some 5), .mov, [.r 0], none, []⟩,
  ⟨(some 6), .nilck, [.r 5], none, [5]⟩,
  ⟨(some 7), .fa 0, [.r 6], none, [6]⟩,
  ⟨(some 8), .ld none, [.r 7], none, [7]⟩,
  ⟨(some 9), .len, [.r 8], none, [8]⟩,
  ⟨(some 10), .bin .eql, [.r 9, .k (.int .i64 0)], none, [9]⟩]) <|
.cond (.r 10)
  (.seq (.ops [⟨(some 2), .mov, [.k (.int .i64 0)], none, [0, 10]⟩,
    ⟨(some 3), .mov, [.k (.int .i64 13)], none, []⟩]) <|
  .ret)
  (.skip)) <|
.seq (.ops [⟨(some 11), .mov, [.r 0], none, [10]⟩,
  ⟨(some 12), .nilck, [.r 11], none, [11]⟩,
  ⟨(some 13), .fa 0, [.r 12], none, [12]⟩,
  ⟨(some 14), .ld none, [.r 13], none, [13]⟩,
  ⟨(some 15), .ia 2, [.r 14, .k (.int .i64 0)], none, [14]⟩,
  ⟨(some 16), .fa 1, [.r 15], none, [15]⟩,
  ⟨(some 17), .ld none, [.r 16], none, [16]⟩,
  ⟨(some 4), .mov, [.r 17], none, [17]⟩]) <|
.seq (.ops [⟨(some 18), .mov, [.r 0], none, []⟩,
  ⟨(some 19), .mov, [.r 0], none, [0]⟩,
  ⟨(some 20), .nilck, [.r 19], none, [19]⟩,
  ⟨(some 21), .fa 0, [.r 20], none, [20]⟩,
  ⟨(some 22), .ld none, [.r 21], none, [21]⟩,
  ⟨(some 23), .sl 2 true false false, [.r 22, .k (.int .i64 1)], none, [22]⟩,
  ⟨(some 24), .nilck, [.r 18], none, [18]⟩,
  ⟨(some 25), .fa 0, [.r 24], none, [24]⟩,
  ⟨none, .st 1, [.r 25, .r 23], none, [23, 25]⟩]) <|
.seq (.ops [⟨(some 26), .mov, [.r 4], none, [4]⟩,
  ⟨(some 2), .mov, [.r 26], none, [26]⟩,
  ⟨(some 3), .mov, [.k (.int .i64 0)], none, []⟩]) <|
.ret⟩
theorem c33 : cFn Try.prog 33 = some m33.bare := by kernel_rfl

/-- '(*swingbridge/rank.Rank).Drop' -/
def m34 : MFn := ⟨[.tmp 4], .seq (.ops [⟨(some 3), .box, [.r 1], none, [1]⟩,
  ⟨(some 4), .mov, [.k (.bool false)], none, [4]⟩]) <|
.seq (.ops [⟨(some 6), .mov, [.r 0], none, []⟩,
  ⟨(some 7), .nilck, [.r 6], none, [6]⟩,
  ⟨(some 8), .fa 0, [.r 7], none, [7]⟩,
  ⟨(some 9), .ld none, [.r 8], none, [8]⟩,
  ⟨(some 10), .mkfunc 73, [.r 3], none, [3]⟩,
  ⟨(some 11), .call 72, [.r 9, .r 10], none, [9, 10]⟩,
  ⟨(some 5), .mov, [.r 11], none, [11]⟩]) <|
.seq (.seq (.ops [⟨(some 12), .mov, [.r 5], none, []⟩,
  ⟨(some 13), .bin .lss, [.r 12, .k (.int .i64 0)], none, [12]⟩]) <|
.cond (.r 13)
  (.seq (.ops [⟨(some 4), .mov, [.k (.bool false)], none, [0, 5, 13]⟩]) <|
  .ret)
  (.skip)) <|
.seq (.ops [⟨(some 14), .mov, [.r 0], none, [13]⟩,
  ⟨(some 15), .mov, [.r 0], none, [0]⟩,
  ⟨(some 16), .nilck, [.r 15], none, [15]⟩,
  ⟨(some 17), .fa 0, [.r 16], none, [16]⟩,
  ⟨(some 18), .ld none, [.r 17], none, [17]⟩,
  ⟨(some 19), .mov, [.r 5], none, []⟩,
  ⟨(some 20), .mov, [.r 5], none, [5]⟩,
  ⟨(some 21), .bin .add, [.r 20, .k (.int .i64 1)], none, [20]⟩,
  ⟨(some 22), .call 71, [.r 18, .r 19, .r 21], none, [18, 19, 21]⟩,
  ⟨(some 23), .nilck, [.r 14], none, [14]⟩,
  ⟨(some 24), .fa 0, [.r 23], none, [23]⟩,
  ⟨none, .st 1, [.r 24, .r 22], none, [22, 24]⟩]) <|
.seq (.ops [⟨(some 4), .mov, [.k (.bool true)], none, []⟩]) <|
.ret⟩
theorem c34 : cFn Try.prog 34 = some m34.bare := by kernel_rfl

/-- '(*swingbridge/swingbridgeref2.Rank).Drop' -/
def m35 : MFn := ⟨[.tmp 4], .seq (.ops [⟨(some 4), .mov, [.k (.bool false)], none, [4]⟩]) <|
.seq (.ops [⟨(some 6), .mov, [.r 0], none, []⟩,
  ⟨(some 7), .call 36, [.r 6], none, [6]⟩,
  ⟨(some 8), .mov, [.r 1], none, [1]⟩,
  ⟨(some 9), .call 74, [.r 7, .r 8], none, [7, 8]⟩,
  ⟨(some 5), .mov, [.r 9], none, [9]⟩]) <|
.seq (.seq (.ops [⟨(some 10), .mov, [.r 5], none, []⟩,
  ⟨(some 11), .bin .geq, [.r 10, .k (.int .i64 0)], none, [10]⟩]) <|
.cond (.r 11)
  (.draw [⟨(some 12), .mov, [.r 0], none, [11]⟩,
    ⟨(some 13), .mov, [.r 0], none, []⟩,
    ⟨(some 14), .nilck, [.r 13], none, [13]⟩,
    ⟨(some 15), .fa 0, [.r 14], none, [14]⟩,
    ⟨(some 16), .ld none, [.r 15], none, [15]⟩,
    ⟨(some 17), .mov, [.r 5], none, []⟩,
    ⟨(some 18), .sl 2 false true false, [.r 16, .r 17], none, [16, 17]⟩,
    ⟨(some 19), .app 2 16, [.k (.slice none 0 0), .r 18], none, [18]⟩,
    ⟨(some 20), .mov, [.r 0], none, [0]⟩,
    ⟨(some 21), .nilck, [.r 20], none, [20]⟩,
    ⟨(some 22), .fa 0, [.r 21], none, [21]⟩,
    ⟨(some 23), .ld none, [.r 22], none, [22]⟩,
    ⟨(some 24), .mov, [.r 5], none, []⟩,
    ⟨(some 25), .bin .add, [.r 24, .k (.int .i64 1)], none, [24]⟩,
    ⟨(some 26), .sl 2 true false false, [.r 23, .r 25], none, [23, 25]⟩,
    ⟨(some 27), .app 2 16, [.r 19, .r 26], none, [19, 26]⟩,
    ⟨(some 28), .nilck, [.r 12], none, [12]⟩,
    ⟨(some 29), .fa 0, [.r 28], none, [28]⟩,
    ⟨none, .st 1, [.r 29, .r 27], none, [27, 29]⟩] [(11, 7), (14, 7)])
  (.skip)) <|
.seq (.ops [⟨(some 30), .mov, [.r 5], none, [0, 5, 11]⟩,
  ⟨(some 31), .bin .geq, [.r 30, .k (.int .i64 0)], none, [30]⟩,
  ⟨(some 4), .mov, [.r 31], none, [31]⟩]) <|
.ret⟩
theorem c35 : cFn Try.prog 35 = some m35.bare := by kernel_rfl

/-- '(*swingbridge/swingbridgeref2.Rank).All' -/
def m36_0 : MCode := .seq (.seq (.ops [⟨(some 5), .mov, [.r 4], none, []⟩,
      ⟨(some 6), .mov, [.r 0], none, []⟩,
      ⟨(some 7), .nilck, [.r 6], none, [6]⟩,
      ⟨(some 8), .fa 0, [.r 7], none, [7]⟩,
      ⟨(some 9), .ld none, [.r 8], none, [8]⟩,
      ⟨(some 10), .len, [.r 9], none, [9]⟩,
      ⟨(some 11), .bin .lss, [.r 5, .r 10], none, [5, 10]⟩]) <|
    .cond (.r 11)
      (.skip)
      (.exit 0)) <|
    .seq (.block 1 (.ops [⟨(some 14), .mov, [.r 3], none, [3, 11]⟩,
        ⟨(some 15), .mov, [.r 0], none, []⟩,
        ⟨(some 16), .nilck, [.r 15], none, [15]⟩,
        ⟨(some 17), .fa 0, [.r 16], none, [16]⟩,
        ⟨(some 18), .ld none, [.r 17], none, [17]⟩,
        ⟨(some 19), .mov, [.r 4], none, []⟩,
        ⟨(some 20), .ia 2, [.r 18, .r 19], none, [18, 19]⟩,
        ⟨(some 21), .fa 1, [.r 20], none, [20]⟩,
        ⟨(some 22), .ld none, [.r 21], none, [21]⟩,
        ⟨(some 23), .bslice 1 1 [.int .i64 0] [(0, 1)], [.r 22], none, [22]⟩,
        ⟨(some 24), .app 1 8, [.r 14, .r 23], none, [14, 23]⟩,
        ⟨(some 3), .mov, [.r 24], none, [24]⟩])) <|
    .ops [⟨(some 12), .mov, [.r 4], none, [4]⟩,
      ⟨(some 13), .bin .add, [.r 12, .k (.int .i64 1)], none, [12]⟩,
      ⟨(some 4), .mov, [.r 13], none, [13]⟩]
def m36 : MFn := ⟨[.tmp 2], .seq (.ops [⟨(some 2), .mov, [.k (.slice none 0 0)], none, [2]⟩]) <|
.seq (.ops [⟨(some 3), .mov, [.k (.slice none 0 0)], none, []⟩]) <|
.seq (.seq (.ops [⟨(some 4), .mov, [.k (.int .i64 0)], none, []⟩]) <|
.block 0 (.loop m36_0)) <|
.seq (.ops [⟨(some 25), .mov, [.r 3], none, [0, 3, 4, 11]⟩,
  ⟨(some 2), .mov, [.r 25], none, [25]⟩]) <|
.ret⟩
theorem c36 : cFn Try.prog 36 = some m36.bare := by kernel_rfl

/-- '(*swingbridge/rank.Rank).First' -/
def m37 : MFn := ⟨[.tmp 2, .tmp 3], .seq (.ops [⟨(some 2), .mov, [.k (.int .i64 0)], none, [2]⟩,
  ⟨(some 3), .mov, [.k (.bool false)], none, [3]⟩]) <|
.seq (.seq (.ops [⟨(some 4), .mov, [.r 0], none, []⟩,
  ⟨(some 5), .nilck, [.r 4], none, [4]⟩,
  ⟨(some 6), .fa 0, [.r 5], none, [5]⟩,
  ⟨(some 7), .ld none, [.r 6], none, [6]⟩,
  ⟨(some 8), .len, [.r 7], none, [7]⟩,
  ⟨(some 9), .bin .eql, [.r 8, .k (.int .i64 0)], none, [8]⟩]) <|
.cond (.r 9)
  (.seq (.ops [⟨(some 2), .mov, [.k (.int .i64 0)], none, [0, 9]⟩,
    ⟨(some 3), .mov, [.k (.bool false)], none, []⟩]) <|
  .ret)
  (.skip)) <|
.seq (.ops [⟨(some 10), .mov, [.r 0], none, [0, 9]⟩,
  ⟨(some 11), .nilck, [.r 10], none, [10]⟩,
  ⟨(some 12), .fa 0, [.r 11], none, [11]⟩,
  ⟨(some 13), .ld none, [.r 12], none, [12]⟩,
  ⟨(some 14), .ia 2, [.r 13, .k (.int .i64 0)], none, [13]⟩,
  ⟨(some 15), .fa 1, [.r 14], none, [14]⟩,
  ⟨(some 16), .ld none, [.r 15], none, [15]⟩,
  ⟨(some 2), .mov, [.r 16], none, [16]⟩,
  ⟨(some 3), .mov, [.k (.bool true)], none, []⟩]) <|
.ret⟩
theorem c37 : cFn Try.prog 37 = some m37.bare := by kernel_rfl

/-- 'swingbridge/swingbridgeref2.SameInts' -/
def m38_0 : MCode := .seq (.seq (.ops [⟨(some 11), .mov, [.r 5], none, []⟩,
      ⟨(some 12), .mov, [.r 0], none, []⟩,
      ⟨(some 13), .len, [.r 12], none, [12]⟩,
      ⟨(some 14), .bin .lss, [.r 11, .r 13], none, [11, 13]⟩]) <|
    .cond (.r 14)
      (.skip)
      (.exit 0)) <|
    .seq (.block 1 (.seq (.draw [⟨(some 17), .mov, [.r 0], none, [14]⟩,
        ⟨(some 18), .mov, [.r 5], none, []⟩,
        ⟨(some 19), .ia 1, [.r 17, .r 18], none, [17, 18]⟩,
        ⟨(some 20), .ld none, [.r 19], none, [19]⟩,
        ⟨(some 21), .mov, [.r 1], none, []⟩,
        ⟨(some 22), .mov, [.r 5], none, []⟩,
        ⟨(some 23), .ia 1, [.r 21, .r 22], none, [21, 22]⟩,
        ⟨(some 24), .ld none, [.r 23], none, [23]⟩,
        ⟨(some 25), .bin .neq, [.r 20, .r 24], none, [20, 24]⟩] []) <|
      .cond (.r 25)
        (.seq (.ops [⟨(some 4), .mov, [.k (.bool false)], none, [0, 1, 5, 25]⟩]) <|
        .ret)
        (.skip))) <|
    .ops [⟨(some 15), .mov, [.r 5], none, [5, 25]⟩,
      ⟨(some 16), .bin .add, [.r 15, .k (.int .i64 1)], none, [15]⟩,
      ⟨(some 5), .mov, [.r 16], none, [16]⟩]
def m38 : MFn := ⟨[.tmp 4], .seq (.ops [⟨(some 4), .mov, [.k (.bool false)], none, [4]⟩]) <|
.seq (.seq (.ops [⟨(some 6), .mov, [.r 0], none, []⟩,
  ⟨(some 7), .len, [.r 6], none, [6]⟩,
  ⟨(some 8), .mov, [.r 1], none, []⟩,
  ⟨(some 9), .len, [.r 8], none, [8]⟩,
  ⟨(some 10), .bin .neq, [.r 7, .r 9], none, [7, 9]⟩]) <|
.cond (.r 10)
  (.seq (.ops [⟨(some 4), .mov, [.k (.bool false)], none, [0, 1, 10]⟩]) <|
  .ret)
  (.skip)) <|
.seq (.seq (.ops [⟨(some 5), .mov, [.k (.int .i64 0)], none, [10]⟩]) <|
.block 0 (.loop m38_0)) <|
.seq (.ops [⟨(some 4), .mov, [.k (.bool true)], none, [0, 1, 5, 14]⟩]) <|
.ret⟩
theorem c38 : cFn Try.prog 38 = some m38.bare := by kernel_rfl

/-- '(*swingbridge/rank.Rank).All' -/
def m39_0 : MCode := .seq (.ops [⟨(some 12), .bin .lss, [.r 11, .r 10], none, []⟩]) <|
    .seq (.cond (.r 12)
      (.skip)
      (.exit 0)) <|
    .seq (.block 1 (.seq (.ops [⟨(some 13), .ia 2, [.r 9, .r 11], none, [12]⟩,
        ⟨(some 14), .ld (some 2), [.r 13], none, [13]⟩,
        ⟨(some 5), .new 0 [.int .i64 0, .int .i64 0], [], none, []⟩,
        ⟨none, .st 2, [.r 5, .r 14], none, [14]⟩]) <|
      .ops [⟨(some 15), .mov, [.r 3], none, [3]⟩,
        ⟨(some 16), .fa 1, [.r 5], none, [5]⟩,
        ⟨(some 17), .ld none, [.r 16], none, [16]⟩,
        ⟨(some 18), .bslice 1 1 [.int .i64 0] [(0, 1)], [.r 17], none, [17]⟩,
        ⟨(some 19), .app 1 8, [.r 15, .r 18], none, [15, 18]⟩,
        ⟨(some 3), .mov, [.r 19], none, [19]⟩])) <|
    .ops [⟨(some 20), .bin .add, [.r 11, .k (.int .i64 1)], none, [11]⟩,
      ⟨(some 11), .mov, [.r 20], none, [20]⟩]
def m39 : MFn := ⟨[.tmp 2], .seq (.ops [⟨(some 2), .mov, [.k (.slice none 0 0)], none, [2]⟩]) <|
.seq (.ops [⟨(some 3), .mov, [.k (.slice none 0 0)], none, []⟩]) <|
.seq (.seq (.ops [⟨(some 6), .mov, [.r 0], none, [0]⟩,
  ⟨(some 7), .nilck, [.r 6], none, [6]⟩,
  ⟨(some 8), .fa 0, [.r 7], none, [7]⟩,
  ⟨(some 9), .ld none, [.r 8], none, [8]⟩,
  ⟨(some 10), .len, [.r 9], none, []⟩,
  ⟨(some 11), .mov, [.k (.int .i64 0)], none, []⟩]) <|
.block 0 (.loop m39_0)) <|
.seq (.ops [⟨(some 21), .mov, [.r 3], none, [3, 9, 10, 11, 12]⟩,
  ⟨(some 2), .mov, [.r 21], none, [21]⟩]) <|
.ret⟩
theorem c39 : cFn Try.prog 39 = some m39.bare := by kernel_rfl

/-- '(*swingbridge/rank.Rank).Len' -/
def m40 : MFn := ⟨[.tmp 2], .seq (.ops [⟨(some 2), .mov, [.k (.int .i64 0)], none, [2]⟩]) <|
.seq (.ops [⟨(some 3), .mov, [.r 0], none, [0]⟩,
  ⟨(some 4), .nilck, [.r 3], none, [3]⟩,
  ⟨(some 5), .fa 0, [.r 4], none, [4]⟩,
  ⟨(some 6), .ld none, [.r 5], none, [5]⟩,
  ⟨(some 7), .len, [.r 6], none, [6]⟩,
  ⟨(some 2), .mov, [.r 7], none, [7]⟩]) <|
.ret⟩
theorem c40 : cFn Try.prog 40 = some m40.bare := by kernel_rfl

/-- 'slices.Insert[[]swingbridge/rank.entry,swingbridge/rank.entry]' -/
def m69 : MFn := ⟨[.tmp 6], .seq (.ops [⟨(some 6), .mov, [.k (.slice none 0 0)], none, [6]⟩]) <|
.seq (.ops [⟨(some 10), .mov, [.r 0], none, []⟩,
  ⟨(some 11), .mov, [.r 1], none, []⟩,
  ⟨(some 12), .sl 2 true false false, [.r 10, .r 11], none, [10, 11, 12]⟩]) <|
.seq (.ops [⟨(some 13), .mov, [.r 2], none, []⟩,
  ⟨(some 14), .len, [.r 13], none, [13]⟩,
  ⟨(some 7), .mov, [.r 14], none, [14]⟩]) <|
.seq (.seq (.ops [⟨(some 15), .mov, [.r 7], none, []⟩,
  ⟨(some 16), .bin .eql, [.r 15, .k (.int .i64 0)], none, [15]⟩]) <|
.cond (.r 16)
  (.seq (.ops [⟨(some 17), .mov, [.r 0], none, [0, 1, 2, 7, 16]⟩,
    ⟨(some 6), .mov, [.r 17], none, [17]⟩]) <|
  .ret)
  (.skip)) <|
.seq (.ops [⟨(some 18), .mov, [.r 0], none, [16]⟩,
  ⟨(some 19), .len, [.r 18], none, [18]⟩,
  ⟨(some 8), .mov, [.r 19], none, [19]⟩]) <|
.seq (.seq (.ops [⟨(some 20), .mov, [.r 1], none, []⟩,
  ⟨(some 21), .mov, [.r 8], none, []⟩,
  ⟨(some 22), .bin .eql, [.r 20, .r 21], none, [20, 21]⟩]) <|
.cond (.r 22)
  (.seq (.ops [⟨(some 23), .mov, [.r 0], none, [0, 1, 7, 8, 22]⟩,
    ⟨(some 24), .mov, [.r 2], none, [2]⟩,
    ⟨(some 25), .app 2 16, [.r 23, .r 24], none, [23, 24]⟩,
    ⟨(some 6), .mov, [.r 25], none, [25]⟩]) <|
  .ret)
  (.skip)) <|
.seq (.seq (.ops [⟨(some 26), .mov, [.r 8], none, [22]⟩,
  ⟨(some 27), .mov, [.r 7], none, []⟩,
  ⟨(some 28), .bin .add, [.r 26, .r 27], none, [26, 27]⟩,
  ⟨(some 29), .mov, [.r 0], none, []⟩,
  ⟨(some 30), .cap, [.r 29], none, [29]⟩,
  ⟨(some 31), .bin .gtr, [.r 28, .r 30], none, [28, 30]⟩]) <|
.cond (.r 31)
  (.seq (.ops [⟨(some 32), .mov, [.r 0], none, [31]⟩,
    ⟨(some 33), .mov, [.r 1], none, []⟩,
    ⟨(some 34), .sl 2 false true false, [.r 32, .r 33], none, [32, 33]⟩,
    ⟨(some 35), .mov, [.r 8], none, [8]⟩,
    ⟨(some 36), .mov, [.r 7], none, []⟩,
    ⟨(some 37), .bin .add, [.r 35, .r 36], none, [35, 36]⟩,
    ⟨(some 38), .mov, [.r 1], none, []⟩,
    ⟨(some 39), .bin .sub, [.r 37, .r 38], none, [37, 38]⟩,
    ⟨(some 40), .appz 2 16 [.int .i64 0, .int .i64 0], [.r 34, .r 39], none, [34, 39]⟩,
    ⟨(some 9), .mov, [.r 40], none, [40]⟩]) <|
  .seq (.ops [⟨(some 41), .mov, [.r 9], none, []⟩,
    ⟨(some 42), .mov, [.r 1], none, []⟩,
    ⟨(some 43), .sl 2 true false false, [.r 41, .r 42], none, [41, 42]⟩,
    ⟨(some 44), .mov, [.r 2], none, [2]⟩,
    ⟨(some 45), .copy 2, [.r 43, .r 44], none, [43, 44, 45]⟩]) <|
  .seq (.draw [⟨(some 46), .mov, [.r 9], none, []⟩,
    ⟨(some 47), .mov, [.r 1], none, []⟩,
    ⟨(some 48), .mov, [.r 7], none, [7]⟩,
    ⟨(some 49), .bin .add, [.r 47, .r 48], none, [47, 48]⟩,
    ⟨(some 50), .sl 2 true false false, [.r 46, .r 49], none, [46, 49]⟩,
    ⟨(some 51), .mov, [.r 0], none, [0]⟩,
    ⟨(some 52), .mov, [.r 1], none, [1]⟩,
    ⟨(some 53), .sl 2 true false false, [.r 51, .r 52], none, [51, 52]⟩,
    ⟨(some 54), .copy 2, [.r 50, .r 53], none, [50, 53, 54]⟩] []) <|
  .seq (.ops [⟨(some 55), .mov, [.r 9], none, [9]⟩,
    ⟨(some 6), .mov, [.r 55], none, [55]⟩]) <|
  .ret)
  (.skip)) <|
.seq (.ops [⟨(some 56), .mov, [.r 0], none, [0, 31]⟩,
  ⟨(some 57), .mov, [.r 8], none, []⟩,
  ⟨(some 58), .mov, [.r 7], none, []⟩,
  ⟨(some 59), .bin .add, [.r 57, .r 58], none, [57, 58]⟩,
  ⟨(some 60), .sl 2 false true false, [.r 56, .r 59], none, [56, 59]⟩,
  ⟨(some 0), .mov, [.r 60], none, [60]⟩]) <|
.seq (.seq (.ops [⟨(some 61), .mov, [.r 2], none, []⟩,
  ⟨(some 62), .mov, [.r 0], none, []⟩,
  ⟨(some 63), .mov, [.r 1], none, []⟩,
  ⟨(some 64), .mov, [.r 7], none, []⟩,
  ⟨(some 65), .bin .add, [.r 63, .r 64], none, [63, 64]⟩,
  ⟨(some 66), .sl 2 true false false, [.r 62, .r 65], none, [62, 65]⟩,
  ⟨(some 67), .call 92, [.r 61, .r 66], none, [61, 66]⟩,
  ⟨(some 68), .un .not, [.r 67], none, [67]⟩]) <|
.cond (.r 68)
  (.seq (.draw [⟨(some 69), .mov, [.r 0], none, [8, 68]⟩,
    ⟨(some 70), .mov, [.r 1], none, []⟩,
    ⟨(some 71), .mov, [.r 7], none, [7]⟩,
    ⟨(some 72), .bin .add, [.r 70, .r 71], none, [70, 71]⟩,
    ⟨(some 73), .sl 2 true false false, [.r 69, .r 72], none, [69, 72]⟩,
    ⟨(some 74), .mov, [.r 0], none, []⟩,
    ⟨(some 75), .mov, [.r 1], none, []⟩,
    ⟨(some 76), .sl 2 true false false, [.r 74, .r 75], none, [74, 75]⟩,
    ⟨(some 77), .copy 2, [.r 73, .r 76], none, [73, 76, 77]⟩] []) <|
  .seq (.ops [⟨(some 78), .mov, [.r 0], none, []⟩,
    ⟨(some 79), .mov, [.r 1], none, [1]⟩,
    ⟨(some 80), .sl 2 true false false, [.r 78, .r 79], none, [78, 79]⟩,
    ⟨(some 81), .mov, [.r 2], none, [2]⟩,
    ⟨(some 82), .copy 2, [.r 80, .r 81], none, [80, 81, 82]⟩]) <|
  .seq (.ops [⟨(some 83), .mov, [.r 0], none, [0]⟩,
    ⟨(some 6), .mov, [.r 83], none, [83]⟩]) <|
  .ret)
  (.skip)) <|
.seq (.ops [⟨(some 84), .mov, [.r 0], none, [68]⟩,
  ⟨(some 85), .mov, [.r 8], none, [8]⟩,
  ⟨(some 86), .sl 2 true false false, [.r 84, .r 85], none, [84, 85]⟩,
  ⟨(some 87), .mov, [.r 2], none, [2]⟩,
  ⟨(some 88), .copy 2, [.r 86, .r 87], none, [86, 87, 88]⟩]) <|
.seq (.ops [⟨(some 89), .mov, [.r 0], none, []⟩,
  ⟨(some 90), .mov, [.r 1], none, [1]⟩,
  ⟨(some 91), .sl 2 true false false, [.r 89, .r 90], none, [89, 90]⟩,
  ⟨(some 92), .mov, [.r 7], none, [7]⟩,
  ⟨(some 93), .call 93, [.r 91, .r 92], none, [91, 92, 93]⟩]) <|
.seq (.ops [⟨(some 94), .mov, [.r 0], none, [0]⟩,
  ⟨(some 6), .mov, [.r 94], none, [94]⟩]) <|
.ret⟩
theorem c69 : cFn Try.prog 69 = some m69.bare := by kernel_rfl

/-- 'swingbridge/swingbridgeref2.Put' -/
def m70_0 : MCode := .seq (.seq (.ops [⟨(some 8), .mov, [.r 7], none, []⟩,
      ⟨(some 9), .mov, [.r 0], none, []⟩,
      ⟨(some 10), .len, [.r 9], none, [9]⟩,
      ⟨(some 11), .bin .lss, [.r 8, .r 10], none, [8, 10]⟩]) <|
    .cond (.r 11)
      (.skip)
      (.exit 0)) <|
    .seq (.block 1 (.seq (.seq (.draw [⟨(some 14), .mov, [.r 6], none, [11]⟩,
        ⟨(some 15), .un .not, [.r 14], none, [14]⟩,
        ⟨(some 16), .mov, [.r 15], none, [15]⟩,
        ⟨(some 17), .mov, [.r 0], (some (16, true)), []⟩,
        ⟨(some 18), .mov, [.r 7], (some (16, true)), []⟩,
        ⟨(some 19), .ia 2, [.r 17, .r 18], (some (16, true)), [17, 18]⟩,
        ⟨(some 20), .fa 0, [.r 19], (some (16, true)), [19]⟩,
        ⟨(some 21), .ld none, [.r 20], (some (16, true)), [20]⟩,
        ⟨(some 22), .fa 0, [.r 3], (some (16, true)), []⟩,
        ⟨(some 23), .ld none, [.r 22], (some (16, true)), [22]⟩,
        ⟨(some 24), .bin .gtr, [.r 21, .r 23], (some (16, true)), [21, 23]⟩,
        ⟨(some 25), .pick, [.r 16, .r 24, .k (.bool false)], none, [16, 24]⟩] []) <|
      .cond (.r 25)
        (.seq (.ops [⟨(some 26), .mov, [.r 5], none, [5, 6, 25]⟩,
          ⟨(some 27), .ld (some 2), [.r 3], none, []⟩,
          ⟨(some 28), .bslice 2 1 [.int .i64 0, .int .i64 0] [(0, 2)], [.r 27], none, [27]⟩,
          ⟨(some 29), .app 2 16, [.r 26, .r 28], none, [26, 28]⟩,
          ⟨(some 5), .mov, [.r 29], none, [29]⟩]) <|
        .ops [⟨(some 6), .mov, [.k (.bool true)], none, []⟩])
        (.skip)) <|
      .ops [⟨(some 30), .mov, [.r 5], none, [5, 25]⟩,
        ⟨(some 31), .mov, [.r 0], none, []⟩,
        ⟨(some 32), .mov, [.r 7], none, []⟩,
        ⟨(some 33), .ia 2, [.r 31, .r 32], none, [31, 32]⟩,
        ⟨(some 34), .ld (some 2), [.r 33], none, [33]⟩,
        ⟨(some 35), .bslice 2 1 [.int .i64 0, .int .i64 0] [(0, 2)], [.r 34], none, [34]⟩,
        ⟨(some 36), .app 2 16, [.r 30, .r 35], none, [30, 35]⟩,
        ⟨(some 5), .mov, [.r 36], none, [36]⟩])) <|
    .ops [⟨(some 12), .mov, [.r 7], none, [7]⟩,
      ⟨(some 13), .bin .add, [.r 12, .k (.int .i64 1)], none, [12]⟩,
      ⟨(some 7), .mov, [.r 13], none, [13]⟩]
def m70 : MFn := ⟨[.tmp 4], .seq (.ops [⟨(some 3), .box, [.r 1], none, [1]⟩,
  ⟨(some 4), .mov, [.k (.slice none 0 0)], none, [4]⟩]) <|
.seq (.ops [⟨(some 5), .mov, [.k (.slice none 0 0)], none, []⟩]) <|
.seq (.ops [⟨(some 6), .mov, [.k (.bool false)], none, []⟩]) <|
.seq (.seq (.ops [⟨(some 7), .mov, [.k (.int .i64 0)], none, []⟩]) <|
.block 0 (.loop m70_0)) <|
.seq (.seq (.ops [⟨(some 37), .mov, [.r 6], none, [0, 6, 7, 11]⟩,
  ⟨(some 38), .un .not, [.r 37], none, [37]⟩]) <|
.cond (.r 38)
  (.ops [⟨(some 39), .mov, [.r 5], none, [5, 38]⟩,
    ⟨(some 40), .ld (some 2), [.r 3], none, [3]⟩,
    ⟨(some 41), .bslice 2 1 [.int .i64 0, .int .i64 0] [(0, 2)], [.r 40], none, [40]⟩,
    ⟨(some 42), .app 2 16, [.r 39, .r 41], none, [39, 41]⟩,
    ⟨(some 5), .mov, [.r 42], none, [42]⟩])
  (.skip)) <|
.seq (.ops [⟨(some 43), .mov, [.r 5], none, [3, 5, 38]⟩,
  ⟨(some 4), .mov, [.r 43], none, [43]⟩]) <|
.ret⟩
theorem c70 : cFn Try.prog 70 = some m70.bare := by kernel_rfl

/-- 'slices.Delete[[]swingbridge/rank.entry,swingbridge/rank.entry]' -/
def m71 : MFn := ⟨[.tmp 6], .seq (.ops [⟨(some 6), .mov, [.k (.slice none 0 0)], none, [6]⟩]) <|
.seq (.ops [⟨(some 8), .mov, [.r 0], none, []⟩,
  ⟨(some 9), .mov, [.r 1], none, []⟩,
  ⟨(some 10), .mov, [.r 2], none, []⟩,
  ⟨(some 11), .mov, [.r 0], none, []⟩,
  ⟨(some 12), .len, [.r 11], none, [11]⟩,
  ⟨(some 13), .sl 2 true true true, [.r 8, .r 9, .r 10, .r 12], none, [8, 9, 10, 12, 13]⟩]) <|
.seq (.seq (.ops [⟨(some 14), .mov, [.r 1], none, []⟩,
  ⟨(some 15), .mov, [.r 2], none, []⟩,
  ⟨(some 16), .bin .eql, [.r 14, .r 15], none, [14, 15]⟩]) <|
.cond (.r 16)
  (.seq (.ops [⟨(some 17), .mov, [.r 0], none, [0, 1, 2, 16]⟩,
    ⟨(some 6), .mov, [.r 17], none, [17]⟩]) <|
  .ret)
  (.skip)) <|
.seq (.ops [⟨(some 18), .mov, [.r 0], none, [16]⟩,
  ⟨(some 19), .len, [.r 18], none, [18]⟩,
  ⟨(some 7), .mov, [.r 19], none, [19]⟩]) <|
.seq (.draw [⟨(some 20), .mov, [.r 0], none, []⟩,
  ⟨(some 21), .mov, [.r 1], none, [1]⟩,
  ⟨(some 22), .sl 2 false true false, [.r 20, .r 21], none, [20, 21]⟩,
  ⟨(some 23), .mov, [.r 0], none, [0]⟩,
  ⟨(some 24), .mov, [.r 2], none, [2]⟩,
  ⟨(some 25), .sl 2 true false false, [.r 23, .r 24], none, [23, 24]⟩,
  ⟨(some 26), .app 2 16, [.r 22, .r 25], none, [22, 25]⟩,
  ⟨(some 0), .mov, [.r 26], none, [26]⟩] []) <|
.seq (.ops [⟨(some 27), .mov, [.r 0], none, []⟩,
  ⟨(some 28), .mov, [.r 0], none, []⟩,
  ⟨(some 29), .len, [.r 28], none, [28]⟩,
  ⟨(some 30), .mov, [.r 7], none, [7]⟩,
  ⟨(some 31), .sl 2 true true false, [.r 27, .r 29, .r 30], none, [27, 29, 30]⟩,
  ⟨none, .clear 2 [.int .i64 0, .int .i64 0], [.r 31], none, [31]⟩]) <|
.seq (.ops [⟨(some 32), .mov, [.r 0], none, [0]⟩,
  ⟨(some 6), .mov, [.r 32], none, [32]⟩]) <|
.ret⟩
theorem c71 : cFn Try.prog 71 = some m71.bare := by kernel_rfl

/-- 'slices.IndexFunc[[]swingbridge/rank.entry,swingbridge/rank.entry]' -/
def m72_0 : MCode := .seq (.ops [⟨(some 9), .bin .lss, [.r 8, .r 7], none, []⟩]) <|
    .seq (.cond (.r 9)
      (.skip)
      (.exit 0)) <|
    .seq (.block 1 (.seq (.ops [⟨(some 10), .mov, [.r 8], none, [9]⟩,
        ⟨(some 5), .mov, [.r 10], none, [10]⟩]) <|
      .seq (.ops [⟨(some 11), .mov, [.r 1], none, []⟩,
        ⟨(some 12), .mov, [.r 0], none, []⟩,
        ⟨(some 13), .mov, [.r 5], none, []⟩,
        ⟨(some 14), .ia 2, [.r 12, .r 13], none, [12, 13]⟩,
        ⟨(some 15), .ld (some 2), [.r 14], none, [14]⟩,
        ⟨(some 16), .callv, [.r 11, .r 15], none, [11, 15]⟩]) <|
      .cond (.r 16)
        (.seq (.ops [⟨(some 17), .mov, [.r 5], none, [0, 1, 5, 7, 8, 16]⟩,
          ⟨(some 4), .mov, [.r 17], none, [17]⟩]) <|
        .ret)
        (.skip))) <|
    .ops [⟨(some 18), .bin .add, [.r 8, .k (.int .i64 1)], none, [5, 8, 16]⟩,
      ⟨(some 8), .mov, [.r 18], none, [18]⟩]
def m72 : MFn := ⟨[.tmp 4], .seq (.ops [⟨(some 4), .mov, [.k (.int .i64 0)], none, [4]⟩]) <|
.seq (.seq (.ops [⟨(some 6), .mov, [.r 0], none, []⟩,
  ⟨(some 7), .len, [.r 6], none, [6]⟩,
  ⟨(some 8), .mov, [.k (.int .i64 0)], none, []⟩]) <|
.block 0 (.loop m72_0)) <|
.seq (.ops [⟨(some 4), .mov, [.k (.int .i64 (-1))], none, [0, 1, 7, 8, 9]⟩]) <|
.ret⟩
theorem c72 : cFn Try.prog 72 = some m72.bare := by kernel_rfl

/-- '(*swingbridge/rank.Rank).Drop$1' -/
def m73 : MFn := ⟨[.tmp 3], .seq (.ops [⟨(some 2), .box, [.r 0], none, [0]⟩,
  ⟨(some 3), .mov, [.k (.bool false)], none, [3]⟩]) <|
.seq (.ops [⟨(some 4), .fa 1, [.r 2], none, [2]⟩,
  ⟨(some 5), .ld none, [.r 4], none, [4]⟩,
  ⟨(some 6), .ld none, [.r 1], none, []⟩,
  ⟨(some 7), .bin .eql, [.r 5, .r 6], none, [5, 6]⟩,
  ⟨(some 3), .mov, [.r 7], none, [7]⟩]) <|
.ret⟩
theorem c73 : cFn Try.prog 73 = some m73.bare := by kernel_rfl

/-- 'swingbridge/swingbridgeref2.At' -/
def m74_0 : MCode := .seq (.seq (.ops [⟨(some 6), .mov, [.r 5], none, []⟩,
      ⟨(some 7), .mov, [.r 0], none, []⟩,
      ⟨(some 8), .len, [.r 7], none, [7]⟩,
      ⟨(some 9), .bin .lss, [.r 6, .r 8], none, [6, 8]⟩]) <|
    .cond (.r 9)
      (.skip)
      (.exit 0)) <|
    .seq (.block 1 (.seq (.ops [⟨(some 12), .mov, [.r 0], none, [9]⟩,
        ⟨(some 13), .mov, [.r 5], none, []⟩,
        ⟨(some 14), .ia 1, [.r 12, .r 13], none, [12, 13]⟩,
        ⟨(some 15), .ld none, [.r 14], none, [14]⟩,
        ⟨(some 16), .mov, [.r 1], none, []⟩,
        ⟨(some 17), .bin .eql, [.r 15, .r 16], none, [15, 16]⟩]) <|
      .cond (.r 17)
        (.seq (.ops [⟨(some 18), .mov, [.r 5], none, [0, 1, 5, 17]⟩,
          ⟨(some 4), .mov, [.r 18], none, [18]⟩]) <|
        .ret)
        (.skip))) <|
    .ops [⟨(some 10), .mov, [.r 5], none, [5, 17]⟩,
      ⟨(some 11), .bin .add, [.r 10, .k (.int .i64 1)], none, [10]⟩,
      ⟨(some 5), .mov, [.r 11], none, [11]⟩]
def m74 : MFn := ⟨[.tmp 4], .seq (.ops [⟨(some 4), .mov, [.k (.int .i64 0)], none, [4]⟩]) <|
.seq (.seq (.ops [⟨(some 5), .mov, [.k (.int .i64 0)], none, []⟩]) <|
.block 0 (.loop m74_0)) <|
.seq (.ops [⟨(some 4), .mov, [.k (.int .i64 (-1))], none, [0, 1, 5, 9]⟩]) <|
.ret⟩
theorem c74 : cFn Try.prog 74 = some m74.bare := by kernel_rfl

def mpR (f : FuncId) : Option MDef := match f with
  | 5 => some (.code m5)
  | 6 => some (.code m6)
  | 7 => some (.code m7)
  | 8 => some (.code m8)
  | 27 => some (.code m27)
  | 28 => some (.code m28)
  | 29 => some (.code m29)
  | 30 => some (.code m30)
  | 31 => some (.code m31)
  | 32 => some (.code m32)
  | 33 => some (.code m33)
  | 34 => some (.code m34)
  | 35 => some (.code m35)
  | 36 => some (.code m36)
  | 37 => some (.code m37)
  | 38 => some (.code m38)
  | 39 => some (.code m39)
  | 40 => some (.code m40)
  | 69 => some (.code m69)
  | 70 => some (.code m70)
  | 71 => some (.code m71)
  | 72 => some (.code m72)
  | 73 => some (.code m73)
  | 74 => some (.code m74)
  | _ => none
theorem mpR_code : ∀ f fn, mpR f = some (.code fn) → cFn Try.prog f = some fn.bare := by
  intro f fn h
  unfold mpR at h
  split at h
  · cases h; exact c5
  · cases h; exact c6
  · cases h; exact c7
  · cases h; exact c8
  · cases h; exact c27
  · cases h; exact c28
  · cases h; exact c29
  · cases h; exact c30
  · cases h; exact c31
  · cases h; exact c32
  · cases h; exact c33
  · cases h; exact c34
  · cases h; exact c35
  · cases h; exact c36
  · cases h; exact c37
  · cases h; exact c38
  · cases h; exact c39
  · cases h; exact c40
  · cases h; exact c69
  · cases h; exact c70
  · cases h; exact c71
  · cases h; exact c72
  · cases h; exact c73
  · cases h; exact c74
  · cases h
theorem mpR_ok : MapOk Try.prog mpR := ⟨by kernel_rfl, mpR_code, fun f s h => by
  unfold mpR at h
  split at h <;> cases h⟩
end Go.Mod

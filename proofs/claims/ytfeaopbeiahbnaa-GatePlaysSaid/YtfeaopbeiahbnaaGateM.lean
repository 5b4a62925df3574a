/- The model's code of functions of the program, and that it is the program's. Printed by wip/tool. -/
import Derived.Test.YtfeaopbeiahbnaaLineM
import Derived.Test.YtfeaopbeiahbnaaProg
import Derived.Test.YtfeaopbeiahbnaaFwW
namespace Go.Mod
open Go.Proofs

/-- 'swingbridge/swingbridgelaw6.GatePlays' -/
def m13_0 : MCode := .seq (.seq (.ops [⟨(some 28), .mov, [.r 7], none, []⟩,
      ⟨(some 29), .mov, [.r 1], none, []⟩,
      ⟨(some 30), .len, [.r 29], none, [29]⟩,
      ⟨(some 31), .bin .lss, [.r 28, .r 30], none, [28, 30]⟩]) <|
    .cond (.r 31)
      (.skip)
      (.exit 0)) <|
    .seq (.block 1 (.seq (.ops [⟨(some 34), .mov, [.r 1], none, [31]⟩,
        ⟨(some 35), .mov, [.r 7], none, []⟩,
        ⟨(some 36), .ia 2, [.r 34, .r 35], none, [34, 35]⟩,
        ⟨(some 37), .ld (some 2), [.r 36], none, [36]⟩,
        ⟨(some 8), .new 0 [.int .i64 0, .int .i64 0], [], none, []⟩,
        ⟨none, .st 2, [.r 8, .r 37], none, [37]⟩]) <|
      .seq (.seq (.ops [⟨(some 38), .fa 0, [.r 8], none, []⟩,
        ⟨(some 39), .ld none, [.r 38], none, [38]⟩,
        ⟨(some 40), .bin .geq, [.r 39, .k (.int .i64 9)], none, [39]⟩,
        ⟨(some 41), .mov, [.r 40], none, [40]⟩,
        ⟨(some 42), .mov, [.r 6], (some (41, true)), []⟩,
        ⟨(some 43), .nilck, [.r 42], (some (41, true)), [42]⟩,
        ⟨(some 44), .fa 1, [.r 43], (some (41, true)), [43]⟩,
        ⟨(some 45), .ld none, [.r 44], (some (41, true)), [44]⟩,
        ⟨(some 46), .len, [.r 45], (some (41, true)), [45]⟩,
        ⟨(some 47), .bin .gtr, [.r 46, .k (.int .i64 0)], (some (41, true)), [46]⟩,
        ⟨(some 48), .pick, [.r 41, .r 47, .k (.bool false)], none, [41, 47]⟩]) <|
      .cond (.r 48)
        (.ops [⟨(some 49), .mov, [.r 6], none, [48]⟩,
          ⟨(some 50), .nilck, [.r 49], none, [49]⟩,
          ⟨(some 51), .fa 1, [.r 50], none, [50]⟩,
          ⟨(some 52), .ld none, [.r 51], none, [51]⟩,
          ⟨(some 53), .ia 1, [.r 52, .k (.int .i64 0)], none, [52]⟩,
          ⟨(some 54), .ld none, [.r 53], none, [53]⟩,
          ⟨(some 55), .fa 1, [.r 8], none, []⟩,
          ⟨none, .st 1, [.r 55, .r 54], none, [54, 55]⟩])
        (.skip)) <|
      .seq (.seq (.ops [⟨(some 56), .fa 0, [.r 8], none, [48]⟩,
        ⟨(some 57), .ld none, [.r 56], none, [56]⟩,
        ⟨(some 58), .bin .leq, [.r 57, .k (.int .i64 4)], none, [57]⟩]) <|
      .cond (.r 58)
        (.seq (.ops [⟨(some 60), .mov, [.r 5], none, [58]⟩,
          ⟨(some 61), .fa 1, [.r 8], none, []⟩,
          ⟨(some 62), .ld none, [.r 61], none, [61]⟩,
          ⟨(some 63), .call 56, [.r 60, .r 62], none, [60, 62]⟩,
          ⟨(some 59), .mov, [.r 63], none, [63]⟩,
          ⟨(some 64), .extract 0, [.r 59], none, []⟩,
          ⟨(some 65), .extract 1, [.r 59], none, [59]⟩,
          ⟨(some 9), .mov, [.r 64], none, [64]⟩,
          ⟨(some 10), .mov, [.r 65], none, [65]⟩]) <|
        .seq (.ops [⟨(some 67), .mov, [.r 6], none, []⟩,
          ⟨(some 68), .fa 1, [.r 8], none, []⟩,
          ⟨(some 69), .ld none, [.r 68], none, [68]⟩,
          ⟨(some 70), .call 57, [.r 67, .r 69], none, [67, 69]⟩,
          ⟨(some 66), .mov, [.r 70], none, [70]⟩,
          ⟨(some 71), .extract 0, [.r 66], none, []⟩,
          ⟨(some 72), .extract 1, [.r 66], none, [66]⟩,
          ⟨(some 11), .mov, [.r 71], none, [71]⟩,
          ⟨(some 12), .mov, [.r 72], none, [72]⟩]) <|
        .seq (.ops [⟨(some 73), .mov, [.r 9], none, [9]⟩,
          ⟨(some 74), .mov, [.r 11], none, [11]⟩,
          ⟨(some 75), .eqv true .bool, [.r 73, .r 74], none, [73, 74]⟩,
          ⟨(some 76), .mov, [.r 75], none, [75]⟩,
          ⟨(some 77), .mov, [.r 10], (some (76, false)), [10]⟩,
          ⟨(some 78), .mov, [.r 12], (some (76, false)), [12]⟩,
          ⟨(some 79), .bin .neq, [.r 77, .r 78], (some (76, false)), [77, 78]⟩,
          ⟨(some 80), .pick, [.r 76, .k (.bool true), .r 79], none, [76, 79]⟩]) <|
        .cond (.r 80)
          (.seq (.ops [⟨(some 4), .mov, [.k (.bool false)], none, [1, 5, 6, 7, 8, 80]⟩]) <|
          .ret)
          (.skip))
        (.seq (.ops [⟨(some 82), .mov, [.r 5], none, [58]⟩,
          ⟨(some 83), .fa 1, [.r 8], none, []⟩,
          ⟨(some 84), .ld none, [.r 83], none, [83]⟩,
          ⟨(some 85), .call 58, [.r 82, .r 84], none, [82, 84]⟩,
          ⟨(some 81), .mov, [.r 85], none, [85]⟩,
          ⟨(some 86), .extract 0, [.r 81], none, []⟩,
          ⟨(some 87), .extract 1, [.r 81], none, []⟩,
          ⟨(some 88), .extract 2, [.r 81], none, [81]⟩,
          ⟨(some 13), .mov, [.r 86], none, [86]⟩,
          ⟨(some 14), .mov, [.r 87], none, [87]⟩,
          ⟨(some 15), .mov, [.r 88], none, [88]⟩]) <|
        .seq (.ops [⟨(some 90), .mov, [.r 6], none, []⟩,
          ⟨(some 91), .fa 1, [.r 8], none, []⟩,
          ⟨(some 92), .ld none, [.r 91], none, [91]⟩,
          ⟨(some 93), .call 59, [.r 90, .r 92], none, [90, 92]⟩,
          ⟨(some 89), .mov, [.r 93], none, [93]⟩,
          ⟨(some 94), .extract 0, [.r 89], none, []⟩,
          ⟨(some 95), .extract 1, [.r 89], none, []⟩,
          ⟨(some 96), .extract 2, [.r 89], none, [89]⟩,
          ⟨(some 16), .mov, [.r 94], none, [94]⟩,
          ⟨(some 17), .mov, [.r 95], none, [95]⟩,
          ⟨(some 18), .mov, [.r 96], none, [96]⟩]) <|
        .seq (.ops [⟨(some 97), .mov, [.r 13], none, [13]⟩,
          ⟨(some 98), .mov, [.r 16], none, [16]⟩,
          ⟨(some 99), .bin .neq, [.r 97, .r 98], none, [97, 98]⟩,
          ⟨(some 100), .mov, [.r 99], none, [99]⟩,
          ⟨(some 101), .mov, [.r 14], (some (100, false)), [14]⟩,
          ⟨(some 102), .mov, [.r 17], (some (100, false)), [17]⟩,
          ⟨(some 103), .eqv true .bool, [.r 101, .r 102], (some (100, false)), [101, 102]⟩,
          ⟨(some 104), .pick, [.r 100, .k (.bool true), .r 103], none, [100, 103]⟩,
          ⟨(some 105), .mov, [.r 104], none, [104]⟩,
          ⟨(some 106), .mov, [.r 15], (some (105, false)), [15]⟩,
          ⟨(some 107), .mov, [.r 18], (some (105, false)), [18]⟩,
          ⟨(some 108), .bin .neq, [.r 106, .r 107], (some (105, false)), [106, 107]⟩,
          ⟨(some 109), .pick, [.r 105, .k (.bool true), .r 108], none, [105, 108]⟩]) <|
        .cond (.r 109)
          (.seq (.ops [⟨(some 4), .mov, [.k (.bool false)], none, [1, 5, 6, 7, 8, 109]⟩]) <|
          .ret)
          (.skip))) <|
      .seq (.draw [⟨(some 110), .mov, [.r 5], none, [80, 109]⟩,
        ⟨(some 111), .call 60, [.r 110], none, [110]⟩,
        ⟨(some 112), .mov, [.r 6], none, []⟩,
        ⟨(some 113), .nilck, [.r 112], none, [112]⟩,
        ⟨(some 114), .fa 1, [.r 113], none, [113]⟩,
        ⟨(some 115), .ld none, [.r 114], none, [114]⟩,
        ⟨(some 116), .call 32, [.r 111, .r 115], none, [111, 115]⟩,
        ⟨(some 117), .un .not, [.r 116], none, [116]⟩,
        ⟨(some 118), .mov, [.r 117], none, [117]⟩,
        ⟨(some 119), .mov, [.r 5], (some (118, false)), []⟩,
        ⟨(some 120), .call 61, [.r 119], (some (118, false)), [119]⟩,
        ⟨(some 121), .mov, [.r 6], (some (118, false)), []⟩,
        ⟨(some 122), .nilck, [.r 121], (some (118, false)), [121]⟩,
        ⟨(some 123), .fa 2, [.r 122], (some (118, false)), [122]⟩,
        ⟨(some 124), .ld none, [.r 123], (some (118, false)), [123]⟩,
        ⟨(some 125), .call 32, [.r 120, .r 124], (some (118, false)), [120, 124]⟩,
        ⟨(some 126), .un .not, [.r 125], (some (118, false)), [125]⟩,
        ⟨(some 127), .pick, [.r 118, .k (.bool true), .r 126], none, [118, 126]⟩,
        ⟨(some 128), .mov, [.r 127], none, [127]⟩,
        ⟨(some 129), .mov, [.r 5], (some (128, false)), []⟩,
        ⟨(some 130), .fa 1, [.r 8], (some (128, false)), []⟩,
        ⟨(some 131), .ld none, [.r 130], (some (128, false)), [130]⟩,
        ⟨(some 132), .call 62, [.r 129, .r 131], (some (128, false)), [129, 131]⟩,
        ⟨(some 133), .mov, [.r 6], (some (128, false)), []⟩,
        ⟨(some 134), .nilck, [.r 133], (some (128, false)), [133]⟩,
        ⟨(some 135), .fa 1, [.r 134], (some (128, false)), [134]⟩,
        ⟨(some 136), .ld none, [.r 135], (some (128, false)), [135]⟩,
        ⟨(some 137), .fa 1, [.r 8], (some (128, false)), [8]⟩,
        ⟨(some 138), .ld none, [.r 137], (some (128, false)), [137]⟩,
        ⟨(some 139), .call 36, [.r 136, .r 138], (some (128, false)), [136, 138]⟩,
        ⟨(some 140), .bin .geq, [.r 139, .k (.int .i64 0)], (some (128, false)), [139]⟩,
        ⟨(some 141), .eqv true .bool, [.r 132, .r 140], (some (128, false)), [132, 140]⟩,
        ⟨(some 142), .pick, [.r 128, .k (.bool true), .r 141], none, [128, 141]⟩] [(5, 1), (14, 10), (26, 22), (28, 22)]) <|
      .cond (.r 142)
        (.seq (.ops [⟨(some 4), .mov, [.k (.bool false)], none, [1, 5, 6, 7, 142]⟩]) <|
        .ret)
        (.skip))) <|
    .ops [⟨(some 32), .mov, [.r 7], none, [7, 142]⟩,
      ⟨(some 33), .bin .add, [.r 32, .k (.int .i64 1)], none, [32]⟩,
      ⟨(some 7), .mov, [.r 33], none, [33]⟩]
def m13 : MFn := ⟨[.tmp 4], .seq (.ops [⟨(some 4), .mov, [.k (.bool false)], none, [4]⟩]) <|
.seq (.seq (.ops [⟨(some 19), .call 53, [], none, []⟩,
  ⟨(some 20), .un .not, [.r 19], none, [19]⟩]) <|
.cond (.r 20)
  (.seq (.ops [⟨(some 4), .mov, [.k (.bool false)], none, [0, 1, 20]⟩]) <|
  .ret)
  (.skip)) <|
.seq (.seq (.ops [⟨(some 21), .mov, [.r 1], none, [20]⟩,
  ⟨(some 22), .len, [.r 21], none, [21]⟩,
  ⟨(some 23), .bin .gtr, [.r 22, .k (.int .i64 120)], none, [22]⟩]) <|
.cond (.r 23)
  (.seq (.ops [⟨(some 4), .mov, [.k (.bool true)], none, [0, 1, 23]⟩]) <|
  .ret)
  (.skip)) <|
.seq (.ops [⟨(some 24), .mov, [.r 0], none, [23]⟩,
  ⟨(some 25), .call 54, [.r 24], none, [24]⟩,
  ⟨(some 26), .mov, [.r 0], none, [0]⟩,
  ⟨(some 27), .call 55, [.r 26], none, [26]⟩,
  ⟨(some 5), .mov, [.r 25], none, [25]⟩,
  ⟨(some 6), .mov, [.r 27], none, [27]⟩]) <|
.seq (.seq (.ops [⟨(some 7), .mov, [.k (.int .i64 0)], none, []⟩]) <|
.block 0 (.loop m13_0)) <|
.seq (.ops [⟨(some 4), .mov, [.k (.bool true)], none, [1, 5, 6, 7, 31]⟩]) <|
.ret⟩
theorem c13 : cFn Try.prog 13 = some m13.bare := by kernel_rfl

/-- 'swingbridge/swingbridgelaw6.GateFair' -/
def m14_0 : MCode := .seq (.seq (.ops [⟨(some 26), .mov, [.r 8], none, []⟩,
      ⟨(some 27), .mov, [.r 1], none, []⟩,
      ⟨(some 28), .len, [.r 27], none, [27]⟩,
      ⟨(some 29), .bin .lss, [.r 26, .r 28], none, [26, 28]⟩]) <|
    .cond (.r 29)
      (.skip)
      (.exit 0)) <|
    .seq (.block 1 (.seq (.seq (.ops [⟨(some 33), .mov, [.r 6], none, [29]⟩,
        ⟨(some 34), .mov, [.r 8], none, []⟩,
        ⟨(some 35), .call 56, [.r 33, .r 34], none, [33, 34]⟩,
        ⟨(some 32), .mov, [.r 35], none, [35]⟩,
        ⟨(some 36), .extract 0, [.r 32], none, []⟩,
        ⟨(some 37), .extract 1, [.r 32], none, [32]⟩,
        ⟨(some 9), .mov, [.r 36], none, [36]⟩,
        ⟨(some 10), .mov, [.r 37], none, [37]⟩]) <|
      .seq (.ops [⟨(some 38), .mov, [.r 10], none, [10]⟩,
        ⟨(some 39), .bin .neq, [.r 38, .k (.int .i64 0)], none, [38]⟩,
        ⟨(some 40), .mov, [.r 39], none, [39]⟩,
        ⟨(some 41), .mov, [.r 9], (some (40, false)), [9]⟩,
        ⟨(some 42), .mov, [.r 6], (some (40, false)), []⟩,
        ⟨(some 43), .call 61, [.r 42], (some (40, false)), [42]⟩,
        ⟨(some 44), .len, [.r 43], (some (40, false)), [43]⟩,
        ⟨(some 45), .bin .eql, [.r 44, .k (.int .i64 0)], (some (40, false)), [44]⟩,
        ⟨(some 46), .mov, [.r 45], (some (40, false)), [45]⟩,
        ⟨(some 47), .mov, [.r 6], (some (46, true)), []⟩,
        ⟨(some 48), .mov, [.r 8], (some (46, true)), []⟩,
        ⟨(some 49), .call 62, [.r 47, .r 48], (some (46, true)), [47, 48]⟩,
        ⟨(some 50), .pick, [.r 46, .r 49, .k (.bool false)], (some (40, false)), [46, 49]⟩,
        ⟨(some 51), .eqv true .bool, [.r 41, .r 50], (some (40, false)), [41, 50]⟩,
        ⟨(some 52), .pick, [.r 40, .k (.bool true), .r 51], none, [40, 51]⟩]) <|
      .cond (.r 52)
        (.seq (.ops [⟨(some 4), .mov, [.k (.bool false)], none, [1, 5, 6, 7, 8, 52]⟩]) <|
        .ret)
        (.skip)) <|
      .seq (.seq (.ops [⟨(some 53), .mov, [.r 6], none, [52]⟩,
        ⟨(some 54), .mov, [.r 8], none, []⟩,
        ⟨(some 55), .call 62, [.r 53, .r 54], none, [53, 54]⟩]) <|
      .cond (.r 55)
        (.seq (.seq (.ops [⟨(some 56), .mov, [.r 8], none, [55]⟩,
          ⟨(some 57), .mov, [.r 7], none, []⟩,
          ⟨(some 58), .bin .neq, [.r 56, .r 57], none, [56, 57]⟩]) <|
        .cond (.r 58)
          (.seq (.ops [⟨(some 4), .mov, [.k (.bool false)], none, [1, 5, 6, 7, 8, 58]⟩]) <|
          .ret)
          (.skip)) <|
        .ops [⟨(some 59), .mov, [.r 7], none, [7, 58]⟩,
          ⟨(some 60), .bin .add, [.r 59, .k (.int .i64 1)], none, [59]⟩,
          ⟨(some 7), .mov, [.r 60], none, [60]⟩])
        (.skip)) <|
      .seq (.ops [⟨(some 61), .mov, [.r 6], none, [55]⟩,
        ⟨(some 62), .call 60, [.r 61], none, [61]⟩,
        ⟨(some 11), .mov, [.r 62], none, [62]⟩]) <|
      .seq (.seq (.ops [⟨(some 63), .mov, [.r 1], none, []⟩,
        ⟨(some 64), .mov, [.r 8], none, []⟩,
        ⟨(some 65), .ia 1, [.r 63, .r 64], none, [63, 64]⟩,
        ⟨(some 66), .ld none, [.r 65], none, [65]⟩,
        ⟨(some 67), .bin .rem, [.r 66, .k (.int .u8 3)], none, [66]⟩,
        ⟨(some 68), .bin .gtr, [.r 67, .k (.int .u8 0)], none, [67]⟩,
        ⟨(some 69), .mov, [.r 68], none, [68]⟩,
        ⟨(some 70), .mov, [.r 11], (some (69, true)), []⟩,
        ⟨(some 71), .len, [.r 70], (some (69, true)), [70]⟩,
        ⟨(some 72), .bin .gtr, [.r 71, .k (.int .i64 0)], (some (69, true)), [71]⟩,
        ⟨(some 73), .pick, [.r 69, .r 72, .k (.bool false)], none, [69, 72]⟩]) <|
      .cond (.r 73)
        (.seq (.ops [⟨(some 75), .mov, [.r 6], none, [73]⟩,
          ⟨(some 76), .mov, [.r 11], none, []⟩,
          ⟨(some 77), .mov, [.r 1], none, []⟩,
          ⟨(some 78), .mov, [.r 8], none, []⟩,
          ⟨(some 79), .ia 1, [.r 77, .r 78], none, [77, 78]⟩,
          ⟨(some 80), .ld none, [.r 79], none, [79]⟩,
          ⟨(some 81), .conv .i64, [.r 80], none, [80]⟩,
          ⟨(some 82), .mov, [.r 11], none, [11]⟩,
          ⟨(some 83), .len, [.r 82], none, [82]⟩,
          ⟨(some 84), .bin .rem, [.r 81, .r 83], none, [81, 83]⟩,
          ⟨(some 85), .ia 1, [.r 76, .r 84], none, [76, 84]⟩,
          ⟨(some 86), .ld none, [.r 85], none, [85]⟩,
          ⟨(some 87), .call 58, [.r 75, .r 86], none, [75, 86]⟩,
          ⟨(some 74), .mov, [.r 87], none, [87]⟩,
          ⟨(some 88), .extract 0, [.r 74], none, []⟩,
          ⟨(some 89), .extract 1, [.r 74], none, []⟩,
          ⟨(some 90), .extract 2, [.r 74], none, [74]⟩,
          ⟨(some 12), .mov, [.r 88], none, [88]⟩,
          ⟨(some 13), .mov, [.r 89], none, [89]⟩,
          ⟨(some 14), .mov, [.r 90], none, [90]⟩]) <|
        .seq (.seq (.ops [⟨(some 91), .mov, [.r 14], none, [14]⟩,
          ⟨(some 92), .bin .neq, [.r 91, .k (.int .i64 0)], none, [91]⟩,
          ⟨(some 93), .mov, [.r 92], none, [92]⟩,
          ⟨(some 94), .mov, [.r 13], (some (93, false)), []⟩,
          ⟨(some 95), .mov, [.r 94], (some (93, false)), [94]⟩,
          ⟨(some 96), .mov, [.r 12], (some (95, true)), [12]⟩,
          ⟨(some 97), .mov, [.r 7], (some (95, true)), []⟩,
          ⟨(some 98), .bin .neq, [.r 96, .r 97], (some (95, true)), [96, 97]⟩,
          ⟨(some 99), .pick, [.r 95, .r 98, .k (.bool false)], (some (93, false)), [95, 98]⟩,
          ⟨(some 100), .pick, [.r 93, .k (.bool true), .r 99], none, [93, 99]⟩]) <|
        .cond (.r 100)
          (.seq (.ops [⟨(some 4), .mov, [.k (.bool false)], none, [1, 5, 6, 7, 8, 13, 100]⟩]) <|
          .ret)
          (.skip)) <|
        .seq (.ops [⟨(some 101), .mov, [.r 13], none, [13, 100]⟩]) <|
        .cond (.r 101)
          (.ops [⟨(some 102), .mov, [.r 7], none, [7, 101]⟩,
            ⟨(some 103), .bin .add, [.r 102, .k (.int .i64 1)], none, [102]⟩,
            ⟨(some 7), .mov, [.r 103], none, [103]⟩])
          (.skip))
        (.skip)) <|
      .seq (.ops [⟨(some 104), .mov, [.r 6], none, [11, 73, 101]⟩,
        ⟨(some 105), .call 60, [.r 104], none, [104]⟩,
        ⟨(some 106), .len, [.r 105], none, [105]⟩,
        ⟨(some 107), .mov, [.r 5], none, []⟩,
        ⟨(some 108), .bin .gtr, [.r 106, .r 107], none, [106, 107]⟩,
        ⟨(some 109), .mov, [.r 108], none, [108]⟩,
        ⟨(some 110), .mov, [.r 6], (some (109, false)), []⟩,
        ⟨(some 111), .call 61, [.r 110], (some (109, false)), [110]⟩,
        ⟨(some 112), .len, [.r 111], (some (109, false)), [111]⟩,
        ⟨(some 113), .bin .gtr, [.r 112, .k (.int .i64 0)], (some (109, false)), [112]⟩,
        ⟨(some 114), .mov, [.r 113], (some (109, false)), [113]⟩,
        ⟨(some 115), .mov, [.r 6], (some (114, true)), []⟩,
        ⟨(some 116), .call 60, [.r 115], (some (114, true)), [115]⟩,
        ⟨(some 117), .len, [.r 116], (some (114, true)), [116]⟩,
        ⟨(some 118), .mov, [.r 5], (some (114, true)), []⟩,
        ⟨(some 119), .bin .neq, [.r 117, .r 118], (some (114, true)), [117, 118]⟩,
        ⟨(some 120), .pick, [.r 114, .r 119, .k (.bool false)], (some (109, false)), [114, 119]⟩,
        ⟨(some 121), .pick, [.r 109, .k (.bool true), .r 120], none, [109, 120]⟩]) <|
      .cond (.r 121)
        (.seq (.ops [⟨(some 4), .mov, [.k (.bool false)], none, [1, 5, 6, 7, 8, 121]⟩]) <|
        .ret)
        (.skip))) <|
    .ops [⟨(some 30), .mov, [.r 8], none, [8, 121]⟩,
      ⟨(some 31), .bin .add, [.r 30, .k (.int .i64 1)], none, [30]⟩,
      ⟨(some 8), .mov, [.r 31], none, [31]⟩]
def m14 : MFn := ⟨[.tmp 4], .seq (.ops [⟨(some 4), .mov, [.k (.bool false)], none, [4]⟩]) <|
.seq (.seq (.ops [⟨(some 15), .call 53, [], none, []⟩,
  ⟨(some 16), .un .not, [.r 15], none, [15]⟩]) <|
.cond (.r 16)
  (.seq (.ops [⟨(some 4), .mov, [.k (.bool false)], none, [0, 1, 16]⟩]) <|
  .ret)
  (.skip)) <|
.seq (.seq (.ops [⟨(some 17), .mov, [.r 1], none, [16]⟩,
  ⟨(some 18), .len, [.r 17], none, [17]⟩,
  ⟨(some 19), .bin .gtr, [.r 18, .k (.int .i64 50)], none, [18]⟩]) <|
.cond (.r 19)
  (.seq (.ops [⟨(some 4), .mov, [.k (.bool true)], none, [0, 1, 19]⟩]) <|
  .ret)
  (.skip)) <|
.seq (.ops [⟨(some 20), .mov, [.r 0], none, [0, 19]⟩,
  ⟨(some 21), .bin .rem, [.r 20, .k (.int .u8 5)], none, [20]⟩,
  ⟨(some 22), .conv .i64, [.r 21], none, [21]⟩,
  ⟨(some 23), .bin .add, [.r 22, .k (.int .i64 1)], none, [22]⟩,
  ⟨(some 5), .mov, [.r 23], none, [23]⟩]) <|
.seq (.ops [⟨(some 24), .mov, [.r 5], none, []⟩,
  ⟨(some 25), .call 54, [.r 24], none, [24]⟩,
  ⟨(some 6), .mov, [.r 25], none, [25]⟩]) <|
.seq (.ops [⟨(some 7), .mov, [.k (.int .i64 0)], none, []⟩]) <|
.seq (.seq (.ops [⟨(some 8), .mov, [.k (.int .i64 0)], none, []⟩]) <|
.block 0 (.loop m14_0)) <|
.seq (.ops [⟨(some 4), .mov, [.k (.bool true)], none, [1, 5, 6, 7, 8, 29]⟩]) <|
.ret⟩
theorem c14 : cFn Try.prog 14 = some m14.bare := by kernel_rfl

/-- 'swingbridge/swingbridgelaw6.GateFull' -/
def m15_0 : MCode := .seq (.seq (.ops [⟨(some 26), .mov, [.r 7], none, []⟩,
      ⟨(some 27), .mov, [.r 5], none, []⟩,
      ⟨(some 28), .bin .add, [.r 27, .k (.int .i64 64)], none, [27]⟩,
      ⟨(some 29), .bin .lss, [.r 26, .r 28], none, [26, 28]⟩]) <|
    .cond (.r 29)
      (.skip)
      (.exit 0)) <|
    .seq (.block 1 (.seq (.ops [⟨(some 33), .mov, [.r 6], none, [29]⟩,
        ⟨(some 34), .mov, [.r 7], none, []⟩,
        ⟨(some 35), .call 56, [.r 33, .r 34], none, [33, 34]⟩,
        ⟨(some 32), .mov, [.r 35], none, [35]⟩,
        ⟨(some 36), .extract 0, [.r 32], none, []⟩,
        ⟨(some 37), .extract 1, [.r 32], none, [32]⟩,
        ⟨(some 8), .mov, [.r 36], none, [36]⟩,
        ⟨(some 9), .mov, [.r 37], none, [37]⟩]) <|
      .seq (.ops [⟨(some 38), .mov, [.r 9], none, [9]⟩,
        ⟨(some 39), .bin .neq, [.r 38, .k (.int .i64 0)], none, [38]⟩,
        ⟨(some 40), .mov, [.r 39], none, [39]⟩,
        ⟨(some 41), .mov, [.r 8], (some (40, false)), [8]⟩,
        ⟨(some 42), .mov, [.r 7], (some (40, false)), []⟩,
        ⟨(some 43), .mov, [.r 5], (some (40, false)), []⟩,
        ⟨(some 44), .bin .lss, [.r 42, .r 43], (some (40, false)), [42, 43]⟩,
        ⟨(some 45), .eqv true .bool, [.r 41, .r 44], (some (40, false)), [41, 44]⟩,
        ⟨(some 46), .pick, [.r 40, .k (.bool true), .r 45], none, [40, 45]⟩]) <|
      .cond (.r 46)
        (.seq (.ops [⟨(some 4), .mov, [.k (.bool false)], none, [1, 5, 6, 7, 46]⟩]) <|
        .ret)
        (.skip))) <|
    .ops [⟨(some 30), .mov, [.r 7], none, [7, 46]⟩,
      ⟨(some 31), .bin .add, [.r 30, .k (.int .i64 1)], none, [30]⟩,
      ⟨(some 7), .mov, [.r 31], none, [31]⟩]
def m15 : MFn := ⟨[.tmp 4], .seq (.ops [⟨(some 4), .mov, [.k (.bool false)], none, [4]⟩]) <|
.seq (.seq (.ops [⟨(some 18), .call 53, [], none, []⟩,
  ⟨(some 19), .un .not, [.r 18], none, [18]⟩]) <|
.cond (.r 19)
  (.seq (.ops [⟨(some 4), .mov, [.k (.bool false)], none, [0, 1, 19]⟩]) <|
  .ret)
  (.skip)) <|
.seq (.ops [⟨(some 20), .mov, [.r 0], none, [0, 19]⟩,
  ⟨(some 21), .bin .rem, [.r 20, .k (.int .u8 20)], none, [20]⟩,
  ⟨(some 22), .conv .i64, [.r 21], none, [21]⟩,
  ⟨(some 23), .bin .add, [.r 22, .k (.int .i64 1)], none, [22]⟩,
  ⟨(some 5), .mov, [.r 23], none, [23]⟩]) <|
.seq (.ops [⟨(some 24), .mov, [.r 5], none, []⟩,
  ⟨(some 25), .call 54, [.r 24], none, [24]⟩,
  ⟨(some 6), .mov, [.r 25], none, [25]⟩]) <|
.seq (.seq (.ops [⟨(some 7), .mov, [.k (.int .i64 0)], none, []⟩]) <|
.block 0 (.loop m15_0)) <|
.seq (.ops [⟨(some 48), .mov, [.r 6], none, [7, 29]⟩,
  ⟨(some 49), .call 56, [.r 48, .k (.int .i64 999)], none, [48]⟩,
  ⟨(some 47), .mov, [.r 49], none, [49]⟩,
  ⟨(some 50), .extract 0, [.r 47], none, []⟩,
  ⟨(some 51), .extract 1, [.r 47], none, [47]⟩,
  ⟨(some 10), .mov, [.r 50], none, [10, 50]⟩,
  ⟨(some 11), .mov, [.r 51], none, [51]⟩]) <|
.seq (.ops [⟨(some 52), .mov, [.r 1], none, [1]⟩,
  ⟨(some 53), .conv .i64, [.r 52], none, [52]⟩,
  ⟨(some 54), .mov, [.r 5], none, []⟩,
  ⟨(some 55), .bin .add, [.r 54, .k (.int .i64 64)], none, [54]⟩,
  ⟨(some 56), .bin .rem, [.r 53, .r 55], none, [53, 55]⟩,
  ⟨(some 12), .mov, [.r 56], none, [56]⟩]) <|
.seq (.ops [⟨(some 58), .mov, [.r 6], none, []⟩,
  ⟨(some 59), .mov, [.r 12], none, []⟩,
  ⟨(some 60), .call 56, [.r 58, .r 59], none, [58, 59]⟩,
  ⟨(some 57), .mov, [.r 60], none, [60]⟩,
  ⟨(some 61), .extract 0, [.r 57], none, []⟩,
  ⟨(some 62), .extract 1, [.r 57], none, [57]⟩,
  ⟨(some 13), .mov, [.r 61], none, [13, 61]⟩,
  ⟨(some 14), .mov, [.r 62], none, [62]⟩]) <|
.seq (.ops [⟨(some 64), .mov, [.r 6], none, []⟩,
  ⟨(some 65), .mov, [.r 12], none, []⟩,
  ⟨(some 66), .call 58, [.r 64, .r 65], none, [64, 65]⟩,
  ⟨(some 63), .mov, [.r 66], none, [66]⟩,
  ⟨(some 67), .extract 0, [.r 63], none, []⟩,
  ⟨(some 68), .extract 1, [.r 63], none, []⟩,
  ⟨(some 69), .extract 2, [.r 63], none, [63]⟩,
  ⟨(some 15), .mov, [.r 67], none, [67]⟩,
  ⟨(some 16), .mov, [.r 68], none, [68]⟩,
  ⟨(some 17), .mov, [.r 69], none, [69]⟩]) <|
.seq (.seq (.ops [⟨(some 70), .mov, [.r 11], none, [11]⟩,
  ⟨(some 71), .bin .neq, [.r 70, .k (.int .i64 12)], none, [70]⟩,
  ⟨(some 72), .mov, [.r 71], none, [71]⟩,
  ⟨(some 73), .mov, [.r 14], (some (72, false)), [14]⟩,
  ⟨(some 74), .bin .neq, [.r 73, .k (.int .i64 17)], (some (72, false)), [73]⟩,
  ⟨(some 75), .pick, [.r 72, .k (.bool true), .r 74], none, [72, 74]⟩,
  ⟨(some 76), .mov, [.r 75], none, [75]⟩,
  ⟨(some 77), .mov, [.r 17], (some (76, false)), []⟩,
  ⟨(some 78), .bin .eql, [.r 77, .k (.int .i64 0)], (some (76, false)), [77]⟩,
  ⟨(some 79), .mov, [.r 12], (some (76, false)), []⟩,
  ⟨(some 80), .mov, [.r 5], (some (76, false)), []⟩,
  ⟨(some 81), .bin .lss, [.r 79, .r 80], (some (76, false)), [79, 80]⟩,
  ⟨(some 82), .eqv true .bool, [.r 78, .r 81], (some (76, false)), [78, 81]⟩,
  ⟨(some 83), .pick, [.r 76, .k (.bool true), .r 82], none, [76, 82]⟩,
  ⟨(some 84), .mov, [.r 83], none, [83]⟩,
  ⟨(some 85), .mov, [.r 17], (some (84, false)), []⟩,
  ⟨(some 86), .bin .neq, [.r 85, .k (.int .i64 0)], (some (84, false)), [85]⟩,
  ⟨(some 87), .mov, [.r 86], (some (84, false)), [86]⟩,
  ⟨(some 88), .mov, [.r 17], (some (87, true)), [17]⟩,
  ⟨(some 89), .bin .neq, [.r 88, .k (.int .i64 13)], (some (87, true)), [88]⟩,
  ⟨(some 90), .pick, [.r 87, .r 89, .k (.bool false)], (some (84, false)), [87, 89]⟩,
  ⟨(some 91), .pick, [.r 84, .k (.bool true), .r 90], none, [84, 90]⟩]) <|
.cond (.r 91)
  (.seq (.ops [⟨(some 4), .mov, [.k (.bool false)], none, [5, 6, 12, 15, 16, 91]⟩]) <|
  .ret)
  (.skip)) <|
.seq (.ops [⟨(some 92), .mov, [.r 16], none, [91]⟩,
  ⟨(some 93), .mov, [.r 12], none, [12]⟩,
  ⟨(some 94), .mov, [.r 5], none, []⟩,
  ⟨(some 95), .bin .lss, [.r 93, .r 94], none, [93, 94]⟩,
  ⟨(some 96), .eqv false .bool, [.r 92, .r 95], none, [92, 95]⟩,
  ⟨(some 97), .mov, [.r 96], none, [96]⟩,
  ⟨(some 98), .mov, [.r 16], (some (97, true)), [16]⟩,
  ⟨(some 99), .un .not, [.r 98], (some (97, true)), [98]⟩,
  ⟨(some 100), .mov, [.r 99], (some (97, true)), [99]⟩,
  ⟨(some 101), .mov, [.r 15], (some (100, false)), [15]⟩,
  ⟨(some 102), .mov, [.r 5], (some (100, false)), []⟩,
  ⟨(some 103), .bin .eql, [.r 101, .r 102], (some (100, false)), [101, 102]⟩,
  ⟨(some 104), .pick, [.r 100, .k (.bool true), .r 103], (some (97, true)), [100, 103]⟩,
  ⟨(some 105), .pick, [.r 97, .r 104, .k (.bool false)], none, [97, 104]⟩,
  ⟨(some 106), .mov, [.r 105], none, [105]⟩,
  ⟨(some 107), .mov, [.r 6], (some (106, true)), [6]⟩,
  ⟨(some 108), .call 60, [.r 107], (some (106, true)), [107]⟩,
  ⟨(some 109), .len, [.r 108], (some (106, true)), [108]⟩,
  ⟨(some 110), .mov, [.r 5], (some (106, true)), [5]⟩,
  ⟨(some 111), .bin .eql, [.r 109, .r 110], (some (106, true)), [109, 110]⟩,
  ⟨(some 112), .pick, [.r 106, .r 111, .k (.bool false)], none, [106, 111]⟩,
  ⟨(some 4), .mov, [.r 112], none, [112]⟩]) <|
.ret⟩
theorem c15 : cFn Try.prog 15 = some m15.bare := by kernel_rfl

/-- 'swingbridge/swingbridgelaw6.known' -/
def m53 : MFn := ⟨[.tmp 0], .seq (.ops [⟨(some 0), .mov, [.k (.bool false)], none, [0]⟩]) <|
.seq (.ops [⟨(some 14), .call 54, [.k (.int .i64 1)], none, []⟩,
  ⟨(some 1), .mov, [.r 14], none, [14]⟩]) <|
.seq (.seq (.ops [⟨(some 15), .mov, [.r 1], none, []⟩,
  ⟨(some 16), .eqv false .ptr, [.r 15, .k (.pointer none)], none, [15]⟩]) <|
.cond (.r 16)
  (.seq (.ops [⟨(some 0), .mov, [.k (.bool false)], none, [1, 16]⟩]) <|
  .ret)
  (.skip)) <|
.seq (.ops [⟨(some 18), .mov, [.r 1], none, [16]⟩,
  ⟨(some 19), .call 56, [.r 18, .k (.int .i64 1)], none, [18]⟩,
  ⟨(some 17), .mov, [.r 19], none, [19]⟩,
  ⟨(some 20), .extract 0, [.r 17], none, []⟩,
  ⟨(some 21), .extract 1, [.r 17], none, [17]⟩,
  ⟨(some 2), .mov, [.r 20], none, [20]⟩,
  ⟨(some 3), .mov, [.r 21], none, [21]⟩]) <|
.seq (.ops [⟨(some 23), .mov, [.r 1], none, []⟩,
  ⟨(some 24), .call 56, [.r 23, .k (.int .i64 2)], none, [23]⟩,
  ⟨(some 22), .mov, [.r 24], none, [24]⟩,
  ⟨(some 25), .extract 0, [.r 22], none, []⟩,
  ⟨(some 26), .extract 1, [.r 22], none, [22]⟩,
  ⟨(some 4), .mov, [.r 25], none, [25]⟩,
  ⟨(some 5), .mov, [.r 26], none, [26]⟩]) <|
.seq (.ops [⟨(some 28), .mov, [.r 1], none, []⟩,
  ⟨(some 29), .call 56, [.r 28, .k (.int .i64 2)], none, [28]⟩,
  ⟨(some 27), .mov, [.r 29], none, [29]⟩,
  ⟨(some 30), .extract 0, [.r 27], none, []⟩,
  ⟨(some 31), .extract 1, [.r 27], none, [27]⟩,
  ⟨(some 6), .mov, [.r 30], none, [6, 30]⟩,
  ⟨(some 7), .mov, [.r 31], none, [31]⟩]) <|
.seq (.ops [⟨(some 33), .mov, [.r 1], none, []⟩,
  ⟨(some 34), .call 58, [.r 33, .k (.int .i64 2)], none, [33]⟩,
  ⟨(some 32), .mov, [.r 34], none, [34]⟩,
  ⟨(some 35), .extract 0, [.r 32], none, []⟩,
  ⟨(some 36), .extract 1, [.r 32], none, []⟩,
  ⟨(some 37), .extract 2, [.r 32], none, [32]⟩,
  ⟨(some 8), .mov, [.r 35], none, [8, 35]⟩,
  ⟨(some 9), .mov, [.r 36], none, [9, 36]⟩,
  ⟨(some 10), .mov, [.r 37], none, [37]⟩]) <|
.seq (.ops [⟨(some 39), .mov, [.r 1], none, []⟩,
  ⟨(some 40), .call 58, [.r 39, .k (.int .i64 1)], none, [39]⟩,
  ⟨(some 38), .mov, [.r 40], none, [40]⟩,
  ⟨(some 41), .extract 0, [.r 38], none, []⟩,
  ⟨(some 42), .extract 1, [.r 38], none, []⟩,
  ⟨(some 43), .extract 2, [.r 38], none, [38]⟩,
  ⟨(some 11), .mov, [.r 41], none, [41]⟩,
  ⟨(some 12), .mov, [.r 42], none, [42]⟩,
  ⟨(some 13), .mov, [.r 43], none, [43]⟩]) <|
.seq (.ops [⟨(some 44), .mov, [.r 2], none, [2]⟩,
  ⟨(some 45), .mov, [.r 44], none, [44]⟩,
  ⟨(some 46), .mov, [.r 3], (some (45, true)), [3]⟩,
  ⟨(some 47), .bin .eql, [.r 46, .k (.int .i64 0)], (some (45, true)), [46]⟩,
  ⟨(some 48), .pick, [.r 45, .r 47, .k (.bool false)], none, [45, 47]⟩,
  ⟨(some 49), .mov, [.r 48], none, [48]⟩,
  ⟨(some 50), .mov, [.r 4], (some (49, true)), [4]⟩,
  ⟨(some 51), .un .not, [.r 50], (some (49, true)), [50]⟩,
  ⟨(some 52), .pick, [.r 49, .r 51, .k (.bool false)], none, [49, 51]⟩,
  ⟨(some 53), .mov, [.r 52], none, [52]⟩,
  ⟨(some 54), .mov, [.r 5], (some (53, true)), [5]⟩,
  ⟨(some 55), .bin .eql, [.r 54, .k (.int .i64 0)], (some (53, true)), [54]⟩,
  ⟨(some 56), .pick, [.r 53, .r 55, .k (.bool false)], none, [53, 55]⟩,
  ⟨(some 57), .mov, [.r 56], none, [56]⟩,
  ⟨(some 58), .mov, [.r 7], (some (57, true)), [7]⟩,
  ⟨(some 59), .bin .eql, [.r 58, .k (.int .i64 17)], (some (57, true)), [58]⟩,
  ⟨(some 60), .pick, [.r 57, .r 59, .k (.bool false)], none, [57, 59]⟩,
  ⟨(some 61), .mov, [.r 60], none, [60]⟩,
  ⟨(some 62), .mov, [.r 10], (some (61, true)), [10]⟩,
  ⟨(some 63), .bin .eql, [.r 62, .k (.int .i64 13)], (some (61, true)), [62]⟩,
  ⟨(some 64), .pick, [.r 61, .r 63, .k (.bool false)], none, [61, 63]⟩,
  ⟨(some 65), .mov, [.r 64], none, [64]⟩,
  ⟨(some 66), .mov, [.r 12], (some (65, true)), [12]⟩,
  ⟨(some 67), .pick, [.r 65, .r 66, .k (.bool false)], none, [65, 66]⟩,
  ⟨(some 68), .mov, [.r 67], none, [67]⟩,
  ⟨(some 69), .mov, [.r 11], (some (68, true)), [11]⟩,
  ⟨(some 70), .bin .eql, [.r 69, .k (.int .i64 2)], (some (68, true)), [69]⟩,
  ⟨(some 71), .pick, [.r 68, .r 70, .k (.bool false)], none, [68, 70]⟩,
  ⟨(some 72), .mov, [.r 71], none, [71]⟩,
  ⟨(some 73), .mov, [.r 13], (some (72, true)), [13]⟩,
  ⟨(some 74), .bin .eql, [.r 73, .k (.int .i64 0)], (some (72, true)), [73]⟩,
  ⟨(some 75), .pick, [.r 72, .r 74, .k (.bool false)], none, [72, 74]⟩,
  ⟨(some 76), .mov, [.r 75], none, [75]⟩,
  ⟨(some 77), .mov, [.r 1], (some (76, true)), []⟩,
  ⟨(some 78), .call 62, [.r 77, .k (.int .i64 2)], (some (76, true)), [77]⟩,
  ⟨(some 79), .pick, [.r 76, .r 78, .k (.bool false)], none, [76, 78]⟩,
  ⟨(some 80), .mov, [.r 79], none, [79]⟩,
  ⟨(some 81), .mov, [.r 1], (some (80, true)), []⟩,
  ⟨(some 82), .call 62, [.r 81, .k (.int .i64 1)], (some (80, true)), [81]⟩,
  ⟨(some 83), .un .not, [.r 82], (some (80, true)), [82]⟩,
  ⟨(some 84), .pick, [.r 80, .r 83, .k (.bool false)], none, [80, 83]⟩,
  ⟨(some 85), .mov, [.r 84], none, [84]⟩,
  ⟨(some 86), .mov, [.r 1], (some (85, true)), []⟩,
  ⟨(some 87), .call 60, [.r 86], (some (85, true)), [86]⟩,
  ⟨(some 88), .len, [.r 87], (some (85, true)), [87]⟩,
  ⟨(some 89), .bin .eql, [.r 88, .k (.int .i64 1)], (some (85, true)), [88]⟩,
  ⟨(some 90), .pick, [.r 85, .r 89, .k (.bool false)], none, [85, 89]⟩,
  ⟨(some 91), .mov, [.r 90], none, [90]⟩,
  ⟨(some 92), .mov, [.r 1], (some (91, true)), [1]⟩,
  ⟨(some 93), .call 61, [.r 92], (some (91, true)), [92]⟩,
  ⟨(some 94), .len, [.r 93], (some (91, true)), [93]⟩,
  ⟨(some 95), .bin .eql, [.r 94, .k (.int .i64 0)], (some (91, true)), [94]⟩,
  ⟨(some 96), .pick, [.r 91, .r 95, .k (.bool false)], none, [91, 95]⟩,
  ⟨(some 0), .mov, [.r 96], none, [96]⟩]) <|
.ret⟩
theorem c53 : cFn Try.prog 53 = some m53.bare := by kernel_rfl

/-- 'swingbridge/gate.New' -/
def m54 : MFn := ⟨[.tmp 2], .seq (.ops [⟨(some 2), .mov, [.k (.pointer none)], none, [2]⟩]) <|
.seq (.ops [⟨(some 3), .call 23, [.k (.int .i64 64)], none, []⟩,
  ⟨(some 4), .mov, [.r 0], none, [0]⟩,
  ⟨(some 5), .minmax true, [.r 4, .k (.int .i64 1)], none, [4]⟩,
  ⟨(some 6), .minmax false, [.r 5, .k (.int .i64 64)], none, [5]⟩,
  ⟨(some 7), .build [.slice none 0 0, .pointer none, .int .i64 0] [(1, 1), (2, 1)], [.r 3, .r 6], none, [3, 6]⟩,
  ⟨(some 8), .box, [.r 7], none, [7]⟩,
  ⟨(some 2), .mov, [.r 8], none, [8]⟩]) <|
.ret⟩
theorem c54 : cFn Try.prog 54 = some m54.bare := by kernel_rfl

/-- 'swingbridge/swingbridgeref2.NewGate' -/
def m55 : MFn := ⟨[.tmp 2], .seq (.ops [⟨(some 2), .mov, [.k (.pointer none)], none, [2]⟩]) <|
.seq (.ops [⟨(some 3), .mov, [.r 0], none, [0]⟩,
  ⟨(some 4), .minmax false, [.r 3, .k (.int .i64 64)], none, [3]⟩,
  ⟨(some 5), .minmax true, [.k (.int .i64 1), .r 4], none, [4]⟩,
  ⟨(some 6), .build [.int .i64 0, .slice none 0 0, .slice none 0 0] [(0, 1)], [.r 5], none, [5]⟩,
  ⟨(some 7), .box, [.r 6], none, [6]⟩,
  ⟨(some 2), .mov, [.r 7], none, [7]⟩]) <|
.ret⟩
theorem c55 : cFn Try.prog 55 = some m55.bare := by kernel_rfl

/-- '(*swingbridge/gate.Gate).Ask' -/
def m56 : MFn := ⟨[.tmp 4, .tmp 5], .seq (.ops [⟨(some 4), .mov, [.k (.bool false)], none, [4]⟩,
  ⟨(some 5), .mov, [.k (.int .i64 0)], none, [5]⟩]) <|
.seq (.block 0 (.seq (.ops [⟨(some 7), .mov, [.r 0], none, []⟩,
    ⟨(some 8), .mov, [.r 1], none, []⟩,
    ⟨(some 9), .call 62, [.r 7, .r 8], none, [7, 8]⟩,
    ⟨(some 10), .mov, [.r 9], none, [9]⟩,
    ⟨(some 11), .mov, [.r 0], (some (10, false)), []⟩,
    ⟨(some 12), .nilck, [.r 11], (some (10, false)), [11]⟩,
    ⟨(some 13), .fa 1, [.r 12], (some (10, false)), [12]⟩,
    ⟨(some 14), .ld none, [.r 13], (some (10, false)), [13]⟩,
    ⟨(some 15), .mov, [.r 1], (some (10, false)), []⟩,
    ⟨(some 16), .call 35, [.r 14, .r 15], (some (10, false)), [14, 15]⟩,
    ⟨(some 17), .pick, [.r 10, .k (.bool true), .r 16], none, [10, 16]⟩,
    ⟨(some 6), .mov, [.r 17], none, [17]⟩]) <|
  .cond (.r 6)
    (.seq (.ops [⟨(some 4), .mov, [.k (.bool false)], none, [0, 1, 6]⟩,
      ⟨(some 5), .mov, [.k (.int .i64 17)], none, []⟩]) <|
    .ret)
    (.seq (.draw [⟨(some 19), .mov, [.r 0], none, [6]⟩,
      ⟨(some 20), .nilck, [.r 19], none, [19]⟩,
      ⟨(some 21), .fa 0, [.r 20], none, [20]⟩,
      ⟨(some 22), .ld none, [.r 21], none, [21]⟩,
      ⟨(some 23), .len, [.r 22], none, [22]⟩,
      ⟨(some 24), .mov, [.r 0], none, []⟩,
      ⟨(some 25), .nilck, [.r 24], none, [24]⟩,
      ⟨(some 26), .fa 2, [.r 25], none, [25]⟩,
      ⟨(some 27), .ld none, [.r 26], none, [26]⟩,
      ⟨(some 28), .bin .lss, [.r 23, .r 27], none, [23, 27]⟩,
      ⟨(some 18), .mov, [.r 28], none, [28]⟩] []) <|
    .cond (.r 18)
      (.seq (.ops [⟨(some 29), .mov, [.r 0], none, [18]⟩,
        ⟨(some 30), .mov, [.r 0], none, [0]⟩,
        ⟨(some 31), .nilck, [.r 30], none, [30]⟩,
        ⟨(some 32), .fa 0, [.r 31], none, [31]⟩,
        ⟨(some 33), .ld none, [.r 32], none, [32]⟩,
        ⟨(some 34), .mov, [.r 1], none, [1]⟩,
        ⟨(some 35), .bslice 1 1 [.int .i64 0] [(0, 1)], [.r 34], none, [34]⟩,
        ⟨(some 36), .app 1 8, [.r 33, .r 35], none, [33, 35]⟩,
        ⟨(some 37), .nilck, [.r 29], none, [29]⟩,
        ⟨(some 38), .fa 0, [.r 37], none, [37]⟩,
        ⟨none, .st 1, [.r 38, .r 36], none, [36, 38]⟩]) <|
      .seq (.ops [⟨(some 4), .mov, [.k (.bool true)], none, []⟩,
        ⟨(some 5), .mov, [.k (.int .i64 0)], none, []⟩]) <|
      .ret)
      (.skip)))) <|
.seq (.ops [⟨(some 39), .mov, [.r 0], none, [0, 18]⟩,
  ⟨(some 40), .nilck, [.r 39], none, [39]⟩,
  ⟨(some 41), .fa 1, [.r 40], none, [40]⟩,
  ⟨(some 42), .ld none, [.r 41], none, [41]⟩,
  ⟨(some 43), .mov, [.r 1], none, [1]⟩,
  ⟨(some 44), .call 25, [.r 42, .r 43], none, [42, 43]⟩,
  ⟨(some 4), .mov, [.k (.bool false)], none, []⟩,
  ⟨(some 5), .mov, [.r 44], none, [44]⟩]) <|
.ret⟩
theorem c56 : cFn Try.prog 56 = some m56.bare := by kernel_rfl

/-- '(*swingbridge/swingbridgeref2.Gate).Ask' -/
def m57 : MFn := ⟨[.tmp 4, .tmp 5], .seq (.ops [⟨(some 4), .mov, [.k (.bool false)], none, [4]⟩,
  ⟨(some 5), .mov, [.k (.int .i64 0)], none, [5]⟩]) <|
.seq (.block 0 (.seq (.ops [⟨(some 7), .mov, [.r 0], none, []⟩,
    ⟨(some 8), .nilck, [.r 7], none, [7]⟩,
    ⟨(some 9), .fa 1, [.r 8], none, [8]⟩,
    ⟨(some 10), .ld none, [.r 9], none, [9]⟩,
    ⟨(some 11), .mov, [.r 1], none, []⟩,
    ⟨(some 12), .call 36, [.r 10, .r 11], none, [10, 11]⟩,
    ⟨(some 13), .bin .geq, [.r 12, .k (.int .i64 0)], none, [12]⟩,
    ⟨(some 14), .mov, [.r 13], none, [13]⟩,
    ⟨(some 15), .mov, [.r 0], (some (14, false)), []⟩,
    ⟨(some 16), .nilck, [.r 15], (some (14, false)), [15]⟩,
    ⟨(some 17), .fa 2, [.r 16], (some (14, false)), [16]⟩,
    ⟨(some 18), .ld none, [.r 17], (some (14, false)), [17]⟩,
    ⟨(some 19), .mov, [.r 1], (some (14, false)), []⟩,
    ⟨(some 20), .call 36, [.r 18, .r 19], (some (14, false)), [18, 19]⟩,
    ⟨(some 21), .bin .geq, [.r 20, .k (.int .i64 0)], (some (14, false)), [20]⟩,
    ⟨(some 22), .pick, [.r 14, .k (.bool true), .r 21], none, [14, 21]⟩,
    ⟨(some 6), .mov, [.r 22], none, [22]⟩]) <|
  .cond (.r 6)
    (.seq (.ops [⟨(some 4), .mov, [.k (.bool false)], none, [0, 1, 6]⟩,
      ⟨(some 5), .mov, [.k (.int .i64 17)], none, []⟩]) <|
    .ret)
    (.seq (.draw [⟨(some 24), .mov, [.r 0], none, [6]⟩,
      ⟨(some 25), .nilck, [.r 24], none, [24]⟩,
      ⟨(some 26), .fa 1, [.r 25], none, [25]⟩,
      ⟨(some 27), .ld none, [.r 26], none, [26]⟩,
      ⟨(some 28), .len, [.r 27], none, [27]⟩,
      ⟨(some 29), .mov, [.r 0], none, []⟩,
      ⟨(some 30), .nilck, [.r 29], none, [29]⟩,
      ⟨(some 31), .fa 0, [.r 30], none, [30]⟩,
      ⟨(some 32), .ld none, [.r 31], none, [31]⟩,
      ⟨(some 33), .bin .lss, [.r 28, .r 32], none, [28, 32]⟩,
      ⟨(some 23), .mov, [.r 33], none, [33]⟩] []) <|
    .cond (.r 23)
      (.seq (.ops [⟨(some 34), .mov, [.r 0], none, [23]⟩,
        ⟨(some 35), .mov, [.r 0], none, [0]⟩,
        ⟨(some 36), .nilck, [.r 35], none, [35]⟩,
        ⟨(some 37), .fa 1, [.r 36], none, [36]⟩,
        ⟨(some 38), .ld none, [.r 37], none, [37]⟩,
        ⟨(some 39), .app 1 8, [.k (.slice none 0 0), .r 38], none, [38]⟩,
        ⟨(some 40), .mov, [.r 1], none, [1]⟩,
        ⟨(some 41), .bslice 1 1 [.int .i64 0] [(0, 1)], [.r 40], none, [40]⟩,
        ⟨(some 42), .app 1 8, [.r 39, .r 41], none, [39, 41]⟩,
        ⟨(some 43), .nilck, [.r 34], none, [34]⟩,
        ⟨(some 44), .fa 1, [.r 43], none, [43]⟩,
        ⟨none, .st 1, [.r 44, .r 42], none, [42, 44]⟩]) <|
      .seq (.ops [⟨(some 4), .mov, [.k (.bool true)], none, []⟩,
        ⟨(some 5), .mov, [.k (.int .i64 0)], none, []⟩]) <|
      .ret)
      (.seq (.ops [⟨(some 46), .mov, [.r 0], none, [23]⟩,
        ⟨(some 47), .nilck, [.r 46], none, [46]⟩,
        ⟨(some 48), .fa 2, [.r 47], none, [47]⟩,
        ⟨(some 49), .ld none, [.r 48], none, [48]⟩,
        ⟨(some 50), .len, [.r 49], none, [49]⟩,
        ⟨(some 51), .bin .geq, [.r 50, .k (.int .i64 64)], none, [50]⟩,
        ⟨(some 45), .mov, [.r 51], none, [51]⟩]) <|
      .cond (.r 45)
        (.seq (.ops [⟨(some 4), .mov, [.k (.bool false)], none, [0, 1, 45]⟩,
          ⟨(some 5), .mov, [.k (.int .i64 12)], none, []⟩]) <|
        .ret)
        (.skip))))) <|
.seq (.ops [⟨(some 52), .mov, [.r 0], none, [45]⟩,
  ⟨(some 53), .mov, [.r 0], none, [0]⟩,
  ⟨(some 54), .nilck, [.r 53], none, [53]⟩,
  ⟨(some 55), .fa 2, [.r 54], none, [54]⟩,
  ⟨(some 56), .ld none, [.r 55], none, [55]⟩,
  ⟨(some 57), .app 1 8, [.k (.slice none 0 0), .r 56], none, [56]⟩,
  ⟨(some 58), .mov, [.r 1], none, [1]⟩,
  ⟨(some 59), .bslice 1 1 [.int .i64 0] [(0, 1)], [.r 58], none, [58]⟩,
  ⟨(some 60), .app 1 8, [.r 57, .r 59], none, [57, 59]⟩,
  ⟨(some 61), .nilck, [.r 52], none, [52]⟩,
  ⟨(some 62), .fa 2, [.r 61], none, [61]⟩,
  ⟨none, .st 1, [.r 62, .r 60], none, [60, 62]⟩]) <|
.seq (.ops [⟨(some 4), .mov, [.k (.bool false)], none, []⟩,
  ⟨(some 5), .mov, [.k (.int .i64 0)], none, []⟩]) <|
.ret⟩
theorem c57 : cFn Try.prog 57 = some m57.bare := by kernel_rfl

/-- '(*swingbridge/gate.Gate).Leave' -/
def m58_0 : MCode := .seq (.ops [⟨(some 17), .bin .lss, [.r 16, .r 15], none, []⟩]) <|
    .seq (.cond (.r 17)
      (.skip)
      (.exit 0)) <|
    .seq (.block 1 (.seq (.ops [⟨(some 18), .mov, [.r 16], none, [17]⟩,
        ⟨(some 19), .ia 1, [.r 14, .r 16], none, []⟩,
        ⟨(some 20), .ld none, [.r 19], none, [19]⟩,
        ⟨(some 7), .mov, [.r 18], none, [18]⟩,
        ⟨(some 8), .mov, [.r 20], none, [20]⟩]) <|
      .seq (.seq (.ops [⟨(some 21), .mov, [.r 8], none, [8]⟩,
        ⟨(some 22), .mov, [.r 1], none, []⟩,
        ⟨(some 23), .bin .neq, [.r 21, .r 22], none, [21, 22]⟩]) <|
      .cond (.r 23)
        (.exit 1)
        (.skip)) <|
      .seq (.ops [⟨(some 24), .mov, [.r 0], none, [1, 14, 15, 16, 23]⟩,
        ⟨(some 25), .mov, [.r 0], none, []⟩,
        ⟨(some 26), .nilck, [.r 25], none, [25]⟩,
        ⟨(some 27), .fa 0, [.r 26], none, [26]⟩,
        ⟨(some 28), .ld none, [.r 27], none, [27]⟩,
        ⟨(some 29), .mov, [.r 7], none, []⟩,
        ⟨(some 30), .mov, [.r 7], none, [7]⟩,
        ⟨(some 31), .bin .add, [.r 30, .k (.int .i64 1)], none, [30]⟩,
        ⟨(some 32), .call 66, [.r 28, .r 29, .r 31], none, [28, 29, 31]⟩,
        ⟨(some 33), .nilck, [.r 24], none, [24]⟩,
        ⟨(some 34), .fa 0, [.r 33], none, [33]⟩,
        ⟨none, .st 1, [.r 34, .r 32], none, [32, 34]⟩]) <|
      .seq (.ops [⟨(some 36), .mov, [.r 0], none, []⟩,
        ⟨(some 37), .nilck, [.r 36], none, [36]⟩,
        ⟨(some 38), .fa 1, [.r 37], none, [37]⟩,
        ⟨(some 39), .ld none, [.r 38], none, [38]⟩,
        ⟨(some 40), .call 27, [.r 39], none, [39]⟩,
        ⟨(some 35), .mov, [.r 40], none, [40]⟩,
        ⟨(some 41), .extract 0, [.r 35], none, []⟩,
        ⟨(some 42), .extract 1, [.r 35], none, [35]⟩,
        ⟨(some 9), .mov, [.r 41], none, [41]⟩,
        ⟨(some 10), .mov, [.r 42], none, [42]⟩]) <|
      .seq (.seq (.ops [⟨(some 43), .mov, [.r 10], none, [10]⟩,
        ⟨(some 44), .bin .neq, [.r 43, .k (.int .i64 0)], none, [43]⟩]) <|
      .cond (.r 44)
        (.seq (.ops [⟨(some 4), .mov, [.k (.int .i64 0)], none, [0, 9, 44]⟩,
          ⟨(some 5), .mov, [.k (.bool false)], none, []⟩,
          ⟨(some 6), .mov, [.k (.int .i64 0)], none, []⟩]) <|
        .ret)
        (.skip)) <|
      .seq (.ops [⟨(some 45), .mov, [.r 0], none, [44]⟩,
        ⟨(some 46), .mov, [.r 0], none, [0]⟩,
        ⟨(some 47), .nilck, [.r 46], none, [46]⟩,
        ⟨(some 48), .fa 0, [.r 47], none, [47]⟩,
        ⟨(some 49), .ld none, [.r 48], none, [48]⟩,
        ⟨(some 50), .mov, [.r 9], none, []⟩,
        ⟨(some 51), .bslice 1 1 [.int .i64 0] [(0, 1)], [.r 50], none, [50]⟩,
        ⟨(some 52), .app 1 8, [.r 49, .r 51], none, [49, 51]⟩,
        ⟨(some 53), .nilck, [.r 45], none, [45]⟩,
        ⟨(some 54), .fa 0, [.r 53], none, [53]⟩,
        ⟨none, .st 1, [.r 54, .r 52], none, [52, 54]⟩]) <|
      .seq (.ops [⟨(some 55), .mov, [.r 9], none, [9]⟩,
        ⟨(some 4), .mov, [.r 55], none, [55]⟩,
        ⟨(some 5), .mov, [.k (.bool true)], none, []⟩,
        ⟨(some 6), .mov, [.k (.int .i64 0)], none, []⟩]) <|
      .ret)) <|
    .ops [⟨(some 56), .bin .add, [.r 16, .k (.int .i64 1)], none, [7, 16, 23]⟩,
      ⟨(some 16), .mov, [.r 56], none, [56]⟩]
def m58 : MFn := ⟨[.tmp 4, .tmp 5, .tmp 6], .seq (.ops [⟨(some 4), .mov, [.k (.int .i64 0)], none, [4]⟩,
  ⟨(some 5), .mov, [.k (.bool false)], none, [5]⟩,
  ⟨(some 6), .mov, [.k (.int .i64 0)], none, [6]⟩]) <|
.seq (.skip) <|
.seq (.seq (.ops [⟨(some 11), .mov, [.r 0], none, []⟩,
  ⟨(some 12), .nilck, [.r 11], none, [11]⟩,
  ⟨(some 13), .fa 0, [.r 12], none, [12]⟩,
  ⟨(some 14), .ld none, [.r 13], none, [13]⟩,
  ⟨(some 15), .len, [.r 14], none, []⟩,
  ⟨(some 16), .mov, [.k (.int .i64 0)], none, []⟩]) <|
.block 0 (.loop m58_0)) <|
.seq (.ops [⟨(some 4), .mov, [.k (.int .i64 0)], none, [0, 1, 14, 15, 16, 17]⟩,
  ⟨(some 5), .mov, [.k (.bool false)], none, []⟩,
  ⟨(some 6), .mov, [.k (.int .i64 13)], none, []⟩]) <|
.ret⟩
theorem c58 : cFn Try.prog 58 = some m58.bare := by kernel_rfl

/-- '(*swingbridge/swingbridgeref2.Gate).Leave' -/
def m59 : MFn := ⟨[.tmp 4, .tmp 5, .tmp 6], .seq (.ops [⟨(some 4), .mov, [.k (.int .i64 0)], none, [4]⟩,
  ⟨(some 5), .mov, [.k (.bool false)], none, [5]⟩,
  ⟨(some 6), .mov, [.k (.int .i64 0)], none, [6]⟩]) <|
.seq (.ops [⟨(some 9), .mov, [.r 0], none, []⟩,
  ⟨(some 10), .nilck, [.r 9], none, [9]⟩,
  ⟨(some 11), .fa 1, [.r 10], none, [10]⟩,
  ⟨(some 12), .ld none, [.r 11], none, [11]⟩,
  ⟨(some 13), .mov, [.r 1], none, [1]⟩,
  ⟨(some 14), .call 36, [.r 12, .r 13], none, [12, 13]⟩,
  ⟨(some 7), .mov, [.r 14], none, [14]⟩]) <|
.seq (.seq (.ops [⟨(some 15), .mov, [.r 7], none, []⟩,
  ⟨(some 16), .bin .lss, [.r 15, .k (.int .i64 0)], none, [15]⟩]) <|
.cond (.r 16)
  (.seq (.ops [⟨(some 4), .mov, [.k (.int .i64 0)], none, [0, 7, 16]⟩,
    ⟨(some 5), .mov, [.k (.bool false)], none, []⟩,
    ⟨(some 6), .mov, [.k (.int .i64 13)], none, []⟩]) <|
  .ret)
  (.skip)) <|
.seq (.ops [⟨(some 17), .mov, [.r 0], none, [16]⟩,
  ⟨(some 18), .mov, [.r 0], none, []⟩,
  ⟨(some 19), .nilck, [.r 18], none, [18]⟩,
  ⟨(some 20), .fa 1, [.r 19], none, [19]⟩,
  ⟨(some 21), .ld none, [.r 20], none, [20]⟩,
  ⟨(some 22), .mov, [.r 7], none, [7]⟩,
  ⟨(some 23), .call 67, [.r 21, .r 22], none, [21, 22]⟩,
  ⟨(some 24), .nilck, [.r 17], none, [17]⟩,
  ⟨(some 25), .fa 1, [.r 24], none, [24]⟩,
  ⟨none, .st 1, [.r 25, .r 23], none, [23, 25]⟩]) <|
.seq (.seq (.ops [⟨(some 26), .mov, [.r 0], none, []⟩,
  ⟨(some 27), .nilck, [.r 26], none, [26]⟩,
  ⟨(some 28), .fa 2, [.r 27], none, [27]⟩,
  ⟨(some 29), .ld none, [.r 28], none, [28]⟩,
  ⟨(some 30), .len, [.r 29], none, [29]⟩,
  ⟨(some 31), .bin .eql, [.r 30, .k (.int .i64 0)], none, [30]⟩]) <|
.cond (.r 31)
  (.seq (.ops [⟨(some 4), .mov, [.k (.int .i64 0)], none, [0, 31]⟩,
    ⟨(some 5), .mov, [.k (.bool false)], none, []⟩,
    ⟨(some 6), .mov, [.k (.int .i64 0)], none, []⟩]) <|
  .ret)
  (.skip)) <|
.seq (.ops [⟨(some 32), .mov, [.r 0], none, [31]⟩,
  ⟨(some 33), .nilck, [.r 32], none, [32]⟩,
  ⟨(some 34), .fa 2, [.r 33], none, [33]⟩,
  ⟨(some 35), .ld none, [.r 34], none, [34]⟩,
  ⟨(some 36), .ia 1, [.r 35, .k (.int .i64 0)], none, [35]⟩,
  ⟨(some 37), .ld none, [.r 36], none, [36]⟩,
  ⟨(some 8), .mov, [.r 37], none, [37]⟩]) <|
.seq (.ops [⟨(some 38), .mov, [.r 0], none, []⟩,
  ⟨(some 39), .mov, [.r 0], none, []⟩,
  ⟨(some 40), .nilck, [.r 39], none, [39]⟩,
  ⟨(some 41), .fa 2, [.r 40], none, [40]⟩,
  ⟨(some 42), .ld none, [.r 41], none, [41]⟩,
  ⟨(some 43), .sl 1 true false false, [.r 42, .k (.int .i64 1)], none, [42]⟩,
  ⟨(some 44), .nilck, [.r 38], none, [38]⟩,
  ⟨(some 45), .fa 2, [.r 44], none, [44]⟩,
  ⟨none, .st 1, [.r 45, .r 43], none, [43, 45]⟩]) <|
.seq (.ops [⟨(some 46), .mov, [.r 0], none, []⟩,
  ⟨(some 47), .mov, [.r 0], none, [0]⟩,
  ⟨(some 48), .nilck, [.r 47], none, [47]⟩,
  ⟨(some 49), .fa 1, [.r 48], none, [48]⟩,
  ⟨(some 50), .ld none, [.r 49], none, [49]⟩,
  ⟨(some 51), .mov, [.r 8], none, []⟩,
  ⟨(some 52), .bslice 1 1 [.int .i64 0] [(0, 1)], [.r 51], none, [51]⟩,
  ⟨(some 53), .app 1 8, [.r 50, .r 52], none, [50, 52]⟩,
  ⟨(some 54), .nilck, [.r 46], none, [46]⟩,
  ⟨(some 55), .fa 1, [.r 54], none, [54]⟩,
  ⟨none, .st 1, [.r 55, .r 53], none, [53, 55]⟩]) <|
.seq (.ops [⟨(some 56), .mov, [.r 8], none, [8]⟩,
  ⟨(some 4), .mov, [.r 56], none, [56]⟩,
  ⟨(some 5), .mov, [.k (.bool true)], none, []⟩,
  ⟨(some 6), .mov, [.k (.int .i64 0)], none, []⟩]) <|
.ret⟩
theorem c59 : cFn Try.prog 59 = some m59.bare := by kernel_rfl

/-- '(*swingbridge/gate.Gate).In' -/
def m60 : MFn := ⟨[.tmp 2], .seq (.ops [⟨(some 2), .mov, [.k (.slice none 0 0)], none, [2]⟩]) <|
.seq (.ops [⟨(some 3), .mov, [.r 0], none, [0]⟩,
  ⟨(some 4), .nilck, [.r 3], none, [3]⟩,
  ⟨(some 5), .fa 0, [.r 4], none, [4]⟩,
  ⟨(some 6), .ld none, [.r 5], none, [5]⟩,
  ⟨(some 7), .call 68, [.r 6], none, [6]⟩,
  ⟨(some 2), .mov, [.r 7], none, [7]⟩]) <|
.ret⟩
theorem c60 : cFn Try.prog 60 = some m60.bare := by kernel_rfl

/-- '(*swingbridge/gate.Gate).Line' -/
def m61 : MFn := ⟨[.tmp 2], .seq (.ops [⟨(some 2), .mov, [.k (.slice none 0 0)], none, [2]⟩]) <|
.seq (.ops [⟨(some 3), .mov, [.r 0], none, [0]⟩,
  ⟨(some 4), .nilck, [.r 3], none, [3]⟩,
  ⟨(some 5), .fa 1, [.r 4], none, [4]⟩,
  ⟨(some 6), .ld none, [.r 5], none, [5]⟩,
  ⟨(some 7), .call 33, [.r 6], none, [6]⟩,
  ⟨(some 2), .mov, [.r 7], none, [7]⟩]) <|
.ret⟩
theorem c61 : cFn Try.prog 61 = some m61.bare := by kernel_rfl

/-- '(*swingbridge/gate.Gate).Has' -/
def m62 : MFn := ⟨[.tmp 4], .seq (.ops [⟨(some 4), .mov, [.k (.bool false)], none, [4]⟩]) <|
.seq (.ops [⟨(some 5), .mov, [.r 0], none, [0]⟩,
  ⟨(some 6), .nilck, [.r 5], none, [5]⟩,
  ⟨(some 7), .fa 0, [.r 6], none, [6]⟩,
  ⟨(some 8), .ld none, [.r 7], none, [7]⟩,
  ⟨(some 9), .mov, [.r 1], none, [1]⟩,
  ⟨(some 10), .call 69, [.r 8, .r 9], none, [8, 9]⟩,
  ⟨(some 4), .mov, [.r 10], none, [10]⟩]) <|
.ret⟩
theorem c62 : cFn Try.prog 62 = some m62.bare := by kernel_rfl

def mpG (f : FuncId) : Option MDef := match f with
  | 13 => some (.code m13)
  | 14 => some (.code m14)
  | 15 => some (.code m15)
  | 23 => some (.code m23)
  | 25 => some (.code m25)
  | 27 => some (.code m27)
  | 31 => some (.code m31)
  | 32 => some (.code m32)
  | 33 => some (.code m33)
  | 35 => some (.code m35)
  | 36 => some (.code m36)
  | 53 => some (.code m53)
  | 54 => some (.code m54)
  | 55 => some (.code m55)
  | 56 => some (.code m56)
  | 57 => some (.code m57)
  | 58 => some (.code m58)
  | 59 => some (.code m59)
  | 60 => some (.code m60)
  | 61 => some (.code m61)
  | 62 => some (.code m62)
  | 66 => some (.code m66)
  | 67 => some (.code m67)
  | 68 => some (.code m68)
  | 69 => some (.code m69)
  | 74 => some (.code m74)
  | _ => none
theorem mpG_code : ∀ f fn, mpG f = some (.code fn) → cFn Try.prog f = some fn.bare := by
  intro f fn h
  unfold mpG at h
  split at h
  · cases h; exact c13
  · cases h; exact c14
  · cases h; exact c15
  · cases h; exact c23
  · cases h; exact c25
  · cases h; exact c27
  · cases h; exact c31
  · cases h; exact c32
  · cases h; exact c33
  · cases h; exact c35
  · cases h; exact c36
  · cases h; exact c53
  · cases h; exact c54
  · cases h; exact c55
  · cases h; exact c56
  · cases h; exact c57
  · cases h; exact c58
  · cases h; exact c59
  · cases h; exact c60
  · cases h; exact c61
  · cases h; exact c62
  · cases h; exact c66
  · cases h; exact c67
  · cases h; exact c68
  · cases h; exact c69
  · cases h; exact c74
  · cases h
theorem mpG_ok : MapOk Try.prog mpG := ⟨by kernel_rfl, mpG_code, fun f s h => by
  unfold mpG at h
  split at h <;> cases h⟩
end Go.Mod

/- The model's code of functions of the program, and that it is the program's. Printed by wip/tool. -/
import Derived.Test.YtfeaopbeiahbnaaProg
import Derived.Test.YtfeaopbeiahbnaaFwW
namespace Go.Mod
open Go.Proofs

/-- 'swingbridge/swingbridgelaw3.LinePlays' -/
def m6_0 : MCode := .seq (.seq (.ops [⟨(some 25), .mov, [.r 7], none, []⟩,
      ⟨(some 26), .mov, [.r 1], none, []⟩,
      ⟨(some 27), .len, [.r 26], none, [26]⟩,
      ⟨(some 28), .bin .lss, [.r 25, .r 27], none, [25, 27]⟩]) <|
    .cond (.r 28)
      (.skip)
      (.exit 0)) <|
    .seq (.block 1 (.seq (.ops [⟨(some 8), .mov, [.k (.bool true)], none, [8, 28]⟩]) <|
      .seq (.seq (.ops [⟨(some 31), .mov, [.r 1], none, []⟩,
        ⟨(some 32), .mov, [.r 7], none, []⟩,
        ⟨(some 33), .ia 2, [.r 31, .r 32], none, [31, 32]⟩,
        ⟨(some 34), .ld (some 2), [.r 33], none, [33]⟩,
        ⟨(some 9), .new 0 [.int .i64 0, .int .i64 0], [], none, []⟩,
        ⟨none, .st 2, [.r 9, .r 34], none, [34]⟩]) <|
      .block 2 (.seq (.ops [⟨(some 45), .fa 0, [.r 9], none, []⟩,
          ⟨(some 46), .ld none, [.r 45], none, [45]⟩,
          ⟨(some 47), .bin .leq, [.r 46, .k (.int .i64 3)], none, [46]⟩,
          ⟨(some 44), .mov, [.r 47], none, [47]⟩]) <|
        .cond (.r 44)
          (.draw [⟨(some 48), .mov, [.r 5], none, [44]⟩,
            ⟨(some 49), .fa 1, [.r 9], none, []⟩,
            ⟨(some 50), .ld none, [.r 49], none, [49]⟩,
            ⟨(some 51), .call 25, [.r 48, .r 50], none, [48, 50]⟩,
            ⟨(some 52), .mov, [.r 6], none, []⟩,
            ⟨(some 53), .fa 1, [.r 9], none, [9]⟩,
            ⟨(some 54), .ld none, [.r 53], none, [53]⟩,
            ⟨(some 55), .call 26, [.r 52, .r 54], none, [52, 54]⟩,
            ⟨(some 56), .bin .eql, [.r 51, .r 55], none, [51, 55]⟩,
            ⟨(some 8), .mov, [.r 56], none, [56]⟩] [(6, 3)])
          (.seq (.ops [⟨(some 58), .fa 0, [.r 9], none, [44]⟩,
            ⟨(some 59), .ld none, [.r 58], none, [58]⟩,
            ⟨(some 60), .bin .leq, [.r 59, .k (.int .i64 5)], none, [59]⟩,
            ⟨(some 57), .mov, [.r 60], none, [60]⟩]) <|
          .cond (.r 57)
            (.seq (.ops [⟨(some 62), .mov, [.r 5], none, [9, 57]⟩,
              ⟨(some 63), .call 27, [.r 62], none, [62]⟩,
              ⟨(some 61), .mov, [.r 63], none, [63]⟩,
              ⟨(some 64), .extract 0, [.r 61], none, []⟩,
              ⟨(some 65), .extract 1, [.r 61], none, [61]⟩,
              ⟨(some 10), .mov, [.r 64], none, [64]⟩,
              ⟨(some 11), .mov, [.r 65], none, [65]⟩]) <|
            .seq (.ops [⟨(some 67), .mov, [.r 6], none, []⟩,
              ⟨(some 68), .call 28, [.r 67], none, [67]⟩,
              ⟨(some 66), .mov, [.r 68], none, [68]⟩,
              ⟨(some 69), .extract 0, [.r 66], none, []⟩,
              ⟨(some 70), .extract 1, [.r 66], none, [66]⟩,
              ⟨(some 12), .mov, [.r 69], none, [69]⟩,
              ⟨(some 13), .mov, [.r 70], none, [70]⟩]) <|
            .ops [⟨(some 71), .mov, [.r 10], none, [10]⟩,
              ⟨(some 72), .mov, [.r 12], none, [12]⟩,
              ⟨(some 73), .bin .eql, [.r 71, .r 72], none, [71, 72]⟩,
              ⟨(some 74), .mov, [.r 73], none, [73]⟩,
              ⟨(some 75), .mov, [.r 11], (some (74, true)), [11]⟩,
              ⟨(some 76), .mov, [.r 13], (some (74, true)), [13]⟩,
              ⟨(some 77), .bin .eql, [.r 75, .r 76], (some (74, true)), [75, 76]⟩,
              ⟨(some 78), .pick, [.r 74, .r 77, .k (.bool false)], none, [74, 77]⟩,
              ⟨(some 8), .mov, [.r 78], none, [78]⟩])
            (.draw [⟨(some 35), .mov, [.r 5], none, [57]⟩,
              ⟨(some 36), .fa 1, [.r 9], none, []⟩,
              ⟨(some 37), .ld none, [.r 36], none, [36]⟩,
              ⟨(some 38), .call 29, [.r 35, .r 37], none, [35, 37]⟩,
              ⟨(some 39), .mov, [.r 6], none, []⟩,
              ⟨(some 40), .fa 1, [.r 9], none, [9]⟩,
              ⟨(some 41), .ld none, [.r 40], none, [40]⟩,
              ⟨(some 42), .call 30, [.r 39, .r 41], none, [39, 41]⟩,
              ⟨(some 43), .eqv false .bool, [.r 38, .r 42], none, [38, 42]⟩,
              ⟨(some 8), .mov, [.r 43], none, [43]⟩] [(6, 3)])))) <|
      .seq (.ops [⟨(some 80), .mov, [.r 5], none, []⟩,
        ⟨(some 81), .call 31, [.r 80], none, [80]⟩,
        ⟨(some 79), .mov, [.r 81], none, [81]⟩,
        ⟨(some 82), .extract 0, [.r 79], none, []⟩,
        ⟨(some 83), .extract 1, [.r 79], none, [79]⟩,
        ⟨(some 14), .mov, [.r 82], none, [82]⟩,
        ⟨(some 15), .mov, [.r 83], none, [83]⟩]) <|
      .seq (.seq (.ops [⟨(some 84), .mov, [.r 15], none, []⟩,
        ⟨(some 85), .mov, [.r 6], none, []⟩,
        ⟨(some 86), .nilck, [.r 85], none, [85]⟩,
        ⟨(some 87), .fa 0, [.r 86], none, [86]⟩,
        ⟨(some 88), .ld none, [.r 87], none, [87]⟩,
        ⟨(some 89), .len, [.r 88], none, [88]⟩,
        ⟨(some 90), .bin .gtr, [.r 89, .k (.int .i64 0)], none, [89]⟩,
        ⟨(some 91), .eqv true .bool, [.r 84, .r 90], none, [84, 90]⟩,
        ⟨(some 92), .mov, [.r 91], none, [91]⟩,
        ⟨(some 93), .mov, [.r 15], (some (92, false)), []⟩,
        ⟨(some 94), .mov, [.r 93], (some (92, false)), [93]⟩,
        ⟨(some 95), .mov, [.r 14], (some (94, true)), []⟩,
        ⟨(some 96), .mov, [.r 6], (some (94, true)), []⟩,
        ⟨(some 97), .nilck, [.r 96], (some (94, true)), [96]⟩,
        ⟨(some 98), .fa 0, [.r 97], (some (94, true)), [97]⟩,
        ⟨(some 99), .ld none, [.r 98], (some (94, true)), [98]⟩,
        ⟨(some 100), .ia 1, [.r 99, .k (.int .i64 0)], (some (94, true)), [99]⟩,
        ⟨(some 101), .ld none, [.r 100], (some (94, true)), [100]⟩,
        ⟨(some 102), .bin .neq, [.r 95, .r 101], (some (94, true)), [95, 101]⟩,
        ⟨(some 103), .pick, [.r 94, .r 102, .k (.bool false)], (some (92, false)), [94, 102]⟩,
        ⟨(some 104), .pick, [.r 92, .k (.bool true), .r 103], none, [92, 103]⟩,
        ⟨(some 105), .mov, [.r 104], none, [104]⟩,
        ⟨(some 106), .mov, [.r 15], (some (105, false)), [15]⟩,
        ⟨(some 107), .un .not, [.r 106], (some (105, false)), [106]⟩,
        ⟨(some 108), .mov, [.r 107], (some (105, false)), [107]⟩,
        ⟨(some 109), .mov, [.r 14], (some (108, true)), [14]⟩,
        ⟨(some 110), .bin .neq, [.r 109, .k (.int .i64 0)], (some (108, true)), [109]⟩,
        ⟨(some 111), .pick, [.r 108, .r 110, .k (.bool false)], (some (105, false)), [108, 110]⟩,
        ⟨(some 112), .pick, [.r 105, .k (.bool true), .r 111], none, [105, 111]⟩]) <|
      .cond (.r 112)
        (.seq (.ops [⟨(some 4), .mov, [.k (.bool false)], none, [1, 5, 6, 7, 8, 112]⟩]) <|
        .ret)
        (.skip)) <|
      .seq (.draw [⟨(some 113), .mov, [.r 8], none, [8, 112]⟩,
        ⟨(some 114), .un .not, [.r 113], none, [113]⟩,
        ⟨(some 115), .mov, [.r 114], none, [114]⟩,
        ⟨(some 116), .mov, [.r 5], (some (115, false)), []⟩,
        ⟨(some 117), .call 33, [.r 116], (some (115, false)), [116]⟩,
        ⟨(some 118), .mov, [.r 6], (some (115, false)), []⟩,
        ⟨(some 119), .nilck, [.r 118], (some (115, false)), [118]⟩,
        ⟨(some 120), .fa 0, [.r 119], (some (115, false)), [119]⟩,
        ⟨(some 121), .ld none, [.r 120], (some (115, false)), [120]⟩,
        ⟨(some 122), .call 32, [.r 117, .r 121], (some (115, false)), [117, 121]⟩,
        ⟨(some 123), .un .not, [.r 122], (some (115, false)), [122]⟩,
        ⟨(some 124), .pick, [.r 115, .k (.bool true), .r 123], none, [115, 123]⟩,
        ⟨(some 125), .mov, [.r 124], none, [124]⟩,
        ⟨(some 126), .mov, [.r 5], (some (125, false)), []⟩,
        ⟨(some 127), .call 34, [.r 126], (some (125, false)), [126]⟩,
        ⟨(some 128), .mov, [.r 6], (some (125, false)), []⟩,
        ⟨(some 129), .nilck, [.r 128], (some (125, false)), [128]⟩,
        ⟨(some 130), .fa 0, [.r 129], (some (125, false)), [129]⟩,
        ⟨(some 131), .ld none, [.r 130], (some (125, false)), [130]⟩,
        ⟨(some 132), .len, [.r 131], (some (125, false)), [131]⟩,
        ⟨(some 133), .bin .neq, [.r 127, .r 132], (some (125, false)), [127, 132]⟩,
        ⟨(some 134), .pick, [.r 125, .k (.bool true), .r 133], none, [125, 133]⟩,
        ⟨(some 135), .mov, [.r 134], none, [134]⟩,
        ⟨(some 136), .mov, [.r 5], (some (135, false)), []⟩,
        ⟨(some 137), .mov, [.r 1], (some (135, false)), []⟩,
        ⟨(some 138), .mov, [.r 7], (some (135, false)), []⟩,
        ⟨(some 139), .ia 2, [.r 137, .r 138], (some (135, false)), [137, 138]⟩,
        ⟨(some 140), .fa 1, [.r 139], (some (135, false)), [139]⟩,
        ⟨(some 141), .ld none, [.r 140], (some (135, false)), [140]⟩,
        ⟨(some 142), .call 35, [.r 136, .r 141], (some (135, false)), [136, 141]⟩,
        ⟨(some 143), .mov, [.r 6], (some (135, false)), []⟩,
        ⟨(some 144), .nilck, [.r 143], (some (135, false)), [143]⟩,
        ⟨(some 145), .fa 0, [.r 144], (some (135, false)), [144]⟩,
        ⟨(some 146), .ld none, [.r 145], (some (135, false)), [145]⟩,
        ⟨(some 147), .mov, [.r 1], (some (135, false)), []⟩,
        ⟨(some 148), .mov, [.r 7], (some (135, false)), []⟩,
        ⟨(some 149), .ia 2, [.r 147, .r 148], (some (135, false)), [147, 148]⟩,
        ⟨(some 150), .fa 1, [.r 149], (some (135, false)), [149]⟩,
        ⟨(some 151), .ld none, [.r 150], (some (135, false)), [150]⟩,
        ⟨(some 152), .call 36, [.r 146, .r 151], (some (135, false)), [146, 151]⟩,
        ⟨(some 153), .bin .geq, [.r 152, .k (.int .i64 0)], (some (135, false)), [152]⟩,
        ⟨(some 154), .eqv true .bool, [.r 142, .r 153], (some (135, false)), [142, 153]⟩,
        ⟨(some 155), .pick, [.r 135, .k (.bool true), .r 154], none, [135, 154]⟩] [(8, 4), (18, 14), (33, 29), (38, 29)]) <|
      .cond (.r 155)
        (.seq (.ops [⟨(some 4), .mov, [.k (.bool false)], none, [1, 5, 6, 7, 155]⟩]) <|
        .ret)
        (.skip))) <|
    .ops [⟨(some 29), .mov, [.r 7], none, [7, 155]⟩,
      ⟨(some 30), .bin .add, [.r 29, .k (.int .i64 1)], none, [29]⟩,
      ⟨(some 7), .mov, [.r 30], none, [30]⟩]
def m6 : MFn := ⟨[.tmp 4], .seq (.ops [⟨(some 4), .mov, [.k (.bool false)], none, [4]⟩]) <|
.seq (.seq (.ops [⟨(some 16), .call 22, [], none, []⟩,
  ⟨(some 17), .un .not, [.r 16], none, [16]⟩]) <|
.cond (.r 17)
  (.seq (.ops [⟨(some 4), .mov, [.k (.bool false)], none, [0, 1, 17]⟩]) <|
  .ret)
  (.skip)) <|
.seq (.seq (.ops [⟨(some 18), .mov, [.r 1], none, [17]⟩,
  ⟨(some 19), .len, [.r 18], none, [18]⟩,
  ⟨(some 20), .bin .gtr, [.r 19, .k (.int .i64 100)], none, [19]⟩]) <|
.cond (.r 20)
  (.seq (.ops [⟨(some 4), .mov, [.k (.bool true)], none, [0, 1, 20]⟩]) <|
  .ret)
  (.skip)) <|
.seq (.ops [⟨(some 21), .mov, [.r 0], none, [20]⟩,
  ⟨(some 22), .call 23, [.r 21], none, [21]⟩,
  ⟨(some 23), .mov, [.r 0], none, [0]⟩,
  ⟨(some 24), .call 24, [.r 23], none, [23]⟩,
  ⟨(some 5), .mov, [.r 22], none, [22]⟩,
  ⟨(some 6), .mov, [.r 24], none, [24]⟩]) <|
.seq (.seq (.ops [⟨(some 7), .mov, [.k (.int .i64 0)], none, []⟩]) <|
.block 0 (.loop m6_0)) <|
.seq (.ops [⟨(some 4), .mov, [.k (.bool true)], none, [1, 5, 6, 7, 28]⟩]) <|
.ret⟩
theorem c6 : cFn Try.prog 6 = some m6.bare := by kernel_rfl

/-- 'swingbridge/swingbridgelaw3.LineOrder' -/
def m7_0 : MCode := .seq (.seq (.ops [⟨(some 57), .mov, [.r 6], none, [1, 7, 21]⟩,
      ⟨(some 58), .mov, [.r 0], none, []⟩,
      ⟨(some 59), .len, [.r 58], none, [58]⟩,
      ⟨(some 60), .bin .lss, [.r 57, .r 59], none, [57, 59]⟩]) <|
    .cond (.r 60)
      (.skip)
      (.exit 2)) <|
    .block 3 (.seq (.ops [⟨(some 62), .mov, [.r 5], none, [60]⟩,
        ⟨(some 63), .call 27, [.r 62], none, [62]⟩,
        ⟨(some 61), .mov, [.r 63], none, [63]⟩,
        ⟨(some 64), .extract 0, [.r 61], none, []⟩,
        ⟨(some 65), .extract 1, [.r 61], none, [61]⟩,
        ⟨(some 10), .mov, [.r 64], none, [64]⟩,
        ⟨(some 11), .mov, [.r 65], none, [65]⟩]) <|
      .seq (.seq (.ops [⟨(some 66), .mov, [.r 11], none, [11]⟩,
        ⟨(some 67), .bin .neq, [.r 66, .k (.int .i64 0)], none, [66]⟩,
        ⟨(some 68), .mov, [.r 67], none, [67]⟩,
        ⟨(some 69), .mov, [.r 10], (some (68, false)), [10]⟩,
        ⟨(some 70), .mov, [.r 0], (some (68, false)), []⟩,
        ⟨(some 71), .mov, [.r 6], (some (68, false)), []⟩,
        ⟨(some 72), .ia 1, [.r 70, .r 71], (some (68, false)), [70, 71]⟩,
        ⟨(some 73), .ld none, [.r 72], (some (68, false)), [72]⟩,
        ⟨(some 74), .conv .i64, [.r 73], (some (68, false)), [73]⟩,
        ⟨(some 75), .bin .neq, [.r 69, .r 74], (some (68, false)), [69, 74]⟩,
        ⟨(some 76), .pick, [.r 68, .k (.bool true), .r 75], none, [68, 75]⟩]) <|
      .cond (.r 76)
        (.seq (.ops [⟨(some 4), .mov, [.k (.bool false)], none, [0, 5, 6, 76]⟩]) <|
        .ret)
        (.skip)) <|
      .ops [⟨(some 77), .mov, [.r 6], none, [6, 76]⟩,
        ⟨(some 78), .bin .add, [.r 77, .k (.int .i64 1)], none, [77]⟩,
        ⟨(some 6), .mov, [.r 78], none, [78]⟩])
def m7_1 : MCode := .seq (.seq (.ops [⟨(some 18), .mov, [.r 7], none, []⟩,
      ⟨(some 19), .mov, [.r 0], none, []⟩,
      ⟨(some 20), .len, [.r 19], none, [19]⟩,
      ⟨(some 21), .bin .lss, [.r 18, .r 20], none, [18, 20]⟩]) <|
    .cond (.r 21)
      (.skip)
      (.exit 0)) <|
    .seq (.block 1 (.seq (.seq (.ops [⟨(some 24), .mov, [.r 5], none, [21]⟩,
        ⟨(some 25), .mov, [.r 0], none, []⟩,
        ⟨(some 26), .mov, [.r 7], none, []⟩,
        ⟨(some 27), .ia 1, [.r 25, .r 26], none, [25, 26]⟩,
        ⟨(some 28), .ld none, [.r 27], none, [27]⟩,
        ⟨(some 29), .conv .i64, [.r 28], none, [28]⟩,
        ⟨(some 30), .call 25, [.r 24, .r 29], none, [24, 29]⟩,
        ⟨(some 31), .bin .neq, [.r 30, .k (.int .i64 0)], none, [30]⟩]) <|
      .cond (.r 31)
        (.seq (.ops [⟨(some 4), .mov, [.k (.bool false)], none, [0, 1, 5, 6, 7, 31]⟩]) <|
        .ret)
        (.skip)) <|
      .seq (.ops [⟨(some 32), .mov, [.r 1], none, [31]⟩,
        ⟨(some 33), .mov, [.r 7], none, []⟩,
        ⟨(some 34), .bin .rem, [.r 33, .k (.int .i64 8)], none, [33]⟩,
        ⟨(some 35), .conv .u64, [.r 34], none, [34]⟩,
        ⟨(some 36), .bin .shr, [.r 32, .r 35], none, [32, 35]⟩,
        ⟨(some 37), .bin .and, [.r 36, .k (.int .u8 1)], none, [36]⟩,
        ⟨(some 38), .bin .eql, [.r 37, .k (.int .u8 1)], none, [37]⟩]) <|
      .cond (.r 38)
        (.seq (.ops [⟨(some 40), .mov, [.r 5], none, [38]⟩,
          ⟨(some 41), .call 27, [.r 40], none, [40]⟩,
          ⟨(some 39), .mov, [.r 41], none, [41]⟩,
          ⟨(some 42), .extract 0, [.r 39], none, []⟩,
          ⟨(some 43), .extract 1, [.r 39], none, [39]⟩,
          ⟨(some 8), .mov, [.r 42], none, [42]⟩,
          ⟨(some 9), .mov, [.r 43], none, [43]⟩]) <|
        .seq (.seq (.ops [⟨(some 44), .mov, [.r 9], none, [9]⟩,
          ⟨(some 45), .bin .neq, [.r 44, .k (.int .i64 0)], none, [44]⟩,
          ⟨(some 46), .mov, [.r 45], none, [45]⟩,
          ⟨(some 47), .mov, [.r 8], (some (46, false)), [8]⟩,
          ⟨(some 48), .mov, [.r 0], (some (46, false)), []⟩,
          ⟨(some 49), .mov, [.r 6], (some (46, false)), []⟩,
          ⟨(some 50), .ia 1, [.r 48, .r 49], (some (46, false)), [48, 49]⟩,
          ⟨(some 51), .ld none, [.r 50], (some (46, false)), [50]⟩,
          ⟨(some 52), .conv .i64, [.r 51], (some (46, false)), [51]⟩,
          ⟨(some 53), .bin .neq, [.r 47, .r 52], (some (46, false)), [47, 52]⟩,
          ⟨(some 54), .pick, [.r 46, .k (.bool true), .r 53], none, [46, 53]⟩]) <|
        .cond (.r 54)
          (.seq (.ops [⟨(some 4), .mov, [.k (.bool false)], none, [0, 1, 5, 6, 7, 54]⟩]) <|
          .ret)
          (.skip)) <|
        .ops [⟨(some 55), .mov, [.r 6], none, [6, 54]⟩,
          ⟨(some 56), .bin .add, [.r 55, .k (.int .i64 1)], none, [55]⟩,
          ⟨(some 6), .mov, [.r 56], none, [56]⟩])
        (.skip))) <|
    .ops [⟨(some 22), .mov, [.r 7], none, [7, 38]⟩,
      ⟨(some 23), .bin .add, [.r 22, .k (.int .i64 1)], none, [22]⟩,
      ⟨(some 7), .mov, [.r 23], none, [23]⟩]
def m7 : MFn := ⟨[.tmp 4], .seq (.ops [⟨(some 4), .mov, [.k (.bool false)], none, [4]⟩]) <|
.seq (.seq (.ops [⟨(some 12), .call 22, [], none, []⟩,
  ⟨(some 13), .un .not, [.r 12], none, [12]⟩]) <|
.cond (.r 13)
  (.seq (.ops [⟨(some 4), .mov, [.k (.bool false)], none, [0, 1, 13]⟩]) <|
  .ret)
  (.skip)) <|
.seq (.seq (.ops [⟨(some 14), .mov, [.r 0], none, [13]⟩,
  ⟨(some 15), .len, [.r 14], none, [14]⟩,
  ⟨(some 16), .bin .gtr, [.r 15, .k (.int .i64 64)], none, [15]⟩]) <|
.cond (.r 16)
  (.seq (.ops [⟨(some 4), .mov, [.k (.bool true)], none, [0, 1, 16]⟩]) <|
  .ret)
  (.skip)) <|
.seq (.ops [⟨(some 17), .call 23, [.k (.int .i64 64)], none, [16]⟩,
  ⟨(some 5), .mov, [.r 17], none, [17]⟩]) <|
.seq (.ops [⟨(some 6), .mov, [.k (.int .i64 0)], none, []⟩]) <|
.seq (.seq (.ops [⟨(some 7), .mov, [.k (.int .i64 0)], none, []⟩]) <|
.block 0 (.loop m7_1)) <|
.seq (.block 2 (.loop m7_0)) <|
.seq (.ops [⟨(some 79), .mov, [.r 5], none, [0, 5, 6, 60]⟩,
  ⟨(some 80), .call 34, [.r 79], none, [79]⟩,
  ⟨(some 81), .bin .eql, [.r 80, .k (.int .i64 0)], none, [80]⟩,
  ⟨(some 4), .mov, [.r 81], none, [81]⟩]) <|
.ret⟩
theorem c7 : cFn Try.prog 7 = some m7.bare := by kernel_rfl

/-- 'swingbridge/swingbridgelaw3.LineFull' -/
def m8_0 : MCode := .seq (.seq (.ops [⟨(some 17), .mov, [.r 7], none, []⟩,
      ⟨(some 18), .mov, [.r 6], none, []⟩,
      ⟨(some 19), .bin .lss, [.r 17, .r 18], none, [17, 18]⟩]) <|
    .cond (.r 19)
      (.skip)
      (.exit 0)) <|
    .seq (.block 1 (.seq (.ops [⟨(some 22), .mov, [.r 5], none, [19]⟩,
        ⟨(some 23), .mov, [.r 7], none, []⟩,
        ⟨(some 24), .call 25, [.r 22, .r 23], none, [22, 23]⟩,
        ⟨(some 25), .bin .neq, [.r 24, .k (.int .i64 0)], none, [24]⟩]) <|
      .cond (.r 25)
        (.seq (.ops [⟨(some 4), .mov, [.k (.bool false)], none, [1, 5, 6, 7, 25]⟩]) <|
        .ret)
        (.skip))) <|
    .ops [⟨(some 20), .mov, [.r 7], none, [7, 25]⟩,
      ⟨(some 21), .bin .add, [.r 20, .k (.int .i64 1)], none, [20]⟩,
      ⟨(some 7), .mov, [.r 21], none, [21]⟩]
def m8 : MFn := ⟨[.tmp 4], .seq (.ops [⟨(some 4), .mov, [.k (.bool false)], none, [4]⟩]) <|
.seq (.seq (.ops [⟨(some 9), .call 22, [], none, []⟩,
  ⟨(some 10), .un .not, [.r 9], none, [9]⟩]) <|
.cond (.r 10)
  (.seq (.ops [⟨(some 4), .mov, [.k (.bool false)], none, [0, 1, 10]⟩]) <|
  .ret)
  (.skip)) <|
.seq (.ops [⟨(some 11), .mov, [.r 0], none, [10]⟩,
  ⟨(some 12), .conv .i64, [.r 11], none, [11]⟩,
  ⟨(some 13), .call 23, [.r 12], none, [12]⟩,
  ⟨(some 5), .mov, [.r 13], none, [13]⟩]) <|
.seq (.ops [⟨(some 14), .mov, [.r 0], none, [0]⟩,
  ⟨(some 15), .conv .i64, [.r 14], none, [14]⟩,
  ⟨(some 16), .minmax false, [.r 15, .k (.int .i64 64)], none, [15]⟩,
  ⟨(some 6), .mov, [.r 16], none, [16]⟩]) <|
.seq (.seq (.ops [⟨(some 7), .mov, [.k (.int .i64 0)], none, []⟩]) <|
.block 0 (.loop m8_0)) <|
.seq (.seq (.ops [⟨(some 26), .mov, [.r 5], none, [7, 19]⟩,
  ⟨(some 27), .call 25, [.r 26, .k (.int .i64 99)], none, [26]⟩,
  ⟨(some 28), .bin .neq, [.r 27, .k (.int .i64 12)], none, [27]⟩,
  ⟨(some 29), .mov, [.r 28], none, [28]⟩,
  ⟨(some 30), .mov, [.r 5], (some (29, false)), []⟩,
  ⟨(some 31), .call 34, [.r 30], (some (29, false)), [30]⟩,
  ⟨(some 32), .mov, [.r 6], (some (29, false)), []⟩,
  ⟨(some 33), .bin .neq, [.r 31, .r 32], (some (29, false)), [31, 32]⟩,
  ⟨(some 34), .pick, [.r 29, .k (.bool true), .r 33], none, [29, 33]⟩]) <|
.cond (.r 34)
  (.seq (.ops [⟨(some 4), .mov, [.k (.bool false)], none, [1, 5, 6, 34]⟩]) <|
  .ret)
  (.skip)) <|
.seq (.ops [⟨(some 35), .mov, [.r 1], none, [34]⟩,
  ⟨(some 36), .conv .i64, [.r 35], none, [35]⟩,
  ⟨(some 37), .mov, [.r 6], none, []⟩,
  ⟨(some 38), .bin .lss, [.r 36, .r 37], none, [36, 37]⟩,
  ⟨(some 8), .mov, [.r 38], none, [38]⟩]) <|
.seq (.seq (.ops [⟨(some 39), .mov, [.r 5], none, []⟩,
  ⟨(some 40), .mov, [.r 1], none, []⟩,
  ⟨(some 41), .conv .i64, [.r 40], none, [40]⟩,
  ⟨(some 42), .call 29, [.r 39, .r 41], none, [39, 41]⟩,
  ⟨(some 43), .mov, [.r 8], none, []⟩,
  ⟨(some 44), .eqv true .bool, [.r 42, .r 43], none, [42, 43]⟩,
  ⟨(some 45), .mov, [.r 44], none, [44]⟩,
  ⟨(some 46), .mov, [.r 5], (some (45, false)), []⟩,
  ⟨(some 47), .mov, [.r 1], (some (45, false)), [1]⟩,
  ⟨(some 48), .conv .i64, [.r 47], (some (45, false)), [47]⟩,
  ⟨(some 49), .call 35, [.r 46, .r 48], (some (45, false)), [46, 48]⟩,
  ⟨(some 50), .pick, [.r 45, .k (.bool true), .r 49], none, [45, 49]⟩]) <|
.cond (.r 50)
  (.seq (.ops [⟨(some 4), .mov, [.k (.bool false)], none, [5, 6, 8, 50]⟩]) <|
  .ret)
  (.skip)) <|
.seq (.ops [⟨(some 51), .mov, [.r 5], none, [50]⟩,
  ⟨(some 52), .call 25, [.r 51, .k (.int .i64 99)], none, [51]⟩,
  ⟨(some 53), .bin .eql, [.r 52, .k (.int .i64 0)], none, [52]⟩,
  ⟨(some 54), .mov, [.r 8], none, []⟩,
  ⟨(some 55), .eqv false .bool, [.r 53, .r 54], none, [53, 54]⟩,
  ⟨(some 56), .mov, [.r 55], none, [55]⟩,
  ⟨(some 57), .mov, [.r 5], (some (56, true)), [5]⟩,
  ⟨(some 58), .call 35, [.r 57, .k (.int .i64 99)], (some (56, true)), [57]⟩,
  ⟨(some 59), .mov, [.r 8], (some (56, true)), [8]⟩,
  ⟨(some 60), .mov, [.r 59], (some (56, true)), [59]⟩,
  ⟨(some 61), .mov, [.r 6], (some (60, false)), [6]⟩,
  ⟨(some 62), .bin .gtr, [.r 61, .k (.int .i64 99)], (some (60, false)), [61]⟩,
  ⟨(some 63), .pick, [.r 60, .k (.bool true), .r 62], (some (56, true)), [60, 62]⟩,
  ⟨(some 64), .eqv false .bool, [.r 58, .r 63], (some (56, true)), [58, 63]⟩,
  ⟨(some 65), .pick, [.r 56, .r 64, .k (.bool false)], none, [56, 64]⟩,
  ⟨(some 4), .mov, [.r 65], none, [65]⟩]) <|
.ret⟩
theorem c8 : cFn Try.prog 8 = some m8.bare := by kernel_rfl

/-- 'swingbridge/swingbridgelaw3.LineTwice' -/
def m9_0 : MCode := .seq (.seq (.ops [⟨(some 79), .mov, [.r 12], none, []⟩,
      ⟨(some 80), .mov, [.r 0], none, []⟩,
      ⟨(some 81), .len, [.r 80], none, [80]⟩,
      ⟨(some 82), .bin .lss, [.r 79, .r 81], none, [79, 81]⟩]) <|
    .cond (.r 82)
      (.skip)
      (.exit 2)) <|
    .seq (.block 3 (.seq (.seq (.ops [⟨(some 85), .mov, [.r 12], none, [82]⟩,
        ⟨(some 86), .mov, [.r 7], none, []⟩,
        ⟨(some 87), .bin .eql, [.r 85, .r 86], none, [85, 86]⟩]) <|
      .cond (.r 87)
        (.exit 3)
        (.skip)) <|
      .seq (.seq (.draw [⟨(some 88), .mov, [.r 11], none, [87]⟩,
        ⟨(some 89), .mov, [.r 10], none, []⟩,
        ⟨(some 90), .len, [.r 89], none, [89]⟩,
        ⟨(some 91), .bin .geq, [.r 88, .r 90], none, [88, 90]⟩,
        ⟨(some 92), .mov, [.r 91], none, [91]⟩,
        ⟨(some 93), .mov, [.r 10], (some (92, false)), []⟩,
        ⟨(some 94), .mov, [.r 11], (some (92, false)), []⟩,
        ⟨(some 95), .ia 1, [.r 93, .r 94], (some (92, false)), [93, 94]⟩,
        ⟨(some 96), .ld none, [.r 95], (some (92, false)), [95]⟩,
        ⟨(some 97), .mov, [.r 0], (some (92, false)), []⟩,
        ⟨(some 98), .mov, [.r 12], (some (92, false)), []⟩,
        ⟨(some 99), .ia 1, [.r 97, .r 98], (some (92, false)), [97, 98]⟩,
        ⟨(some 100), .ld none, [.r 99], (some (92, false)), [99]⟩,
        ⟨(some 101), .bin .rem, [.r 100, .k (.int .u8 5)], (some (92, false)), [100]⟩,
        ⟨(some 102), .conv .i64, [.r 101], (some (92, false)), [101]⟩,
        ⟨(some 103), .bin .neq, [.r 96, .r 102], (some (92, false)), [96, 102]⟩,
        ⟨(some 104), .pick, [.r 92, .k (.bool true), .r 103], none, [92, 103]⟩] []) <|
      .cond (.r 104)
        (.seq (.ops [⟨(some 4), .mov, [.k (.bool false)], none, [0, 7, 10, 11, 12, 104]⟩]) <|
        .ret)
        (.skip)) <|
      .ops [⟨(some 105), .mov, [.r 11], none, [11, 104]⟩,
        ⟨(some 106), .bin .add, [.r 105, .k (.int .i64 1)], none, [105]⟩,
        ⟨(some 11), .mov, [.r 106], none, [106]⟩])) <|
    .ops [⟨(some 83), .mov, [.r 12], none, [12, 87]⟩,
      ⟨(some 84), .bin .add, [.r 83, .k (.int .i64 1)], none, [83]⟩,
      ⟨(some 12), .mov, [.r 84], none, [84]⟩]
def m9_1 : MCode := .seq (.seq (.ops [⟨(some 19), .mov, [.r 8], none, []⟩,
      ⟨(some 20), .mov, [.r 0], none, []⟩,
      ⟨(some 21), .len, [.r 20], none, [20]⟩,
      ⟨(some 22), .bin .lss, [.r 19, .r 21], none, [19, 21]⟩]) <|
    .cond (.r 22)
      (.skip)
      (.exit 0)) <|
    .seq (.block 1 (.seq (.ops [⟨(some 25), .mov, [.r 5], none, [22]⟩,
        ⟨(some 26), .mov, [.r 0], none, []⟩,
        ⟨(some 27), .mov, [.r 8], none, []⟩,
        ⟨(some 28), .ia 1, [.r 26, .r 27], none, [26, 27]⟩,
        ⟨(some 29), .ld none, [.r 28], none, [28]⟩,
        ⟨(some 30), .bin .rem, [.r 29, .k (.int .u8 5)], none, [29]⟩,
        ⟨(some 31), .conv .i64, [.r 30], none, [30]⟩,
        ⟨(some 32), .call 25, [.r 25, .r 31], none, [25, 31, 32]⟩]) <|
      .seq (.ops [⟨(some 33), .mov, [.r 0], none, []⟩,
        ⟨(some 34), .mov, [.r 8], none, []⟩,
        ⟨(some 35), .ia 1, [.r 33, .r 34], none, [33, 34]⟩,
        ⟨(some 36), .ld none, [.r 35], none, [35]⟩,
        ⟨(some 37), .bin .rem, [.r 36, .k (.int .u8 5)], none, [36]⟩,
        ⟨(some 38), .mov, [.r 1], none, []⟩,
        ⟨(some 39), .bin .rem, [.r 38, .k (.int .u8 5)], none, [38]⟩,
        ⟨(some 40), .bin .eql, [.r 37, .r 39], none, [37, 39]⟩]) <|
      .cond (.r 40)
        (.seq (.ops [⟨(some 41), .mov, [.r 6], none, [6, 40]⟩,
          ⟨(some 42), .bin .add, [.r 41, .k (.int .i64 1)], none, [41]⟩,
          ⟨(some 6), .mov, [.r 42], none, [42]⟩]) <|
        .seq (.ops [⟨(some 43), .mov, [.r 7], none, []⟩,
          ⟨(some 44), .bin .lss, [.r 43, .k (.int .i64 0)], none, [43]⟩]) <|
        .cond (.r 44)
          (.ops [⟨(some 45), .mov, [.r 8], none, [7, 44]⟩,
            ⟨(some 7), .mov, [.r 45], none, [45]⟩])
          (.skip))
        (.skip))) <|
    .ops [⟨(some 23), .mov, [.r 8], none, [8, 40, 44]⟩,
      ⟨(some 24), .bin .add, [.r 23, .k (.int .i64 1)], none, [23]⟩,
      ⟨(some 8), .mov, [.r 24], none, [24]⟩]
def m9 : MFn := ⟨[.tmp 4], .seq (.ops [⟨(some 4), .mov, [.k (.bool false)], none, [4]⟩]) <|
.seq (.seq (.ops [⟨(some 13), .call 22, [], none, []⟩,
  ⟨(some 14), .un .not, [.r 13], none, [13]⟩]) <|
.cond (.r 14)
  (.seq (.ops [⟨(some 4), .mov, [.k (.bool false)], none, [0, 1, 14]⟩]) <|
  .ret)
  (.skip)) <|
.seq (.seq (.ops [⟨(some 15), .mov, [.r 0], none, [14]⟩,
  ⟨(some 16), .len, [.r 15], none, [15]⟩,
  ⟨(some 17), .bin .gtr, [.r 16, .k (.int .i64 40)], none, [16]⟩]) <|
.cond (.r 17)
  (.seq (.ops [⟨(some 4), .mov, [.k (.bool true)], none, [0, 1, 17]⟩]) <|
  .ret)
  (.skip)) <|
.seq (.ops [⟨(some 18), .call 23, [.k (.int .i64 64)], none, [17]⟩,
  ⟨(some 5), .mov, [.r 18], none, [18]⟩]) <|
.seq (.ops [⟨(some 6), .mov, [.k (.int .i64 0)], none, []⟩,
  ⟨(some 7), .mov, [.k (.int .i64 (-1))], none, []⟩]) <|
.seq (.seq (.ops [⟨(some 8), .mov, [.k (.int .i64 0)], none, []⟩]) <|
.block 0 (.loop m9_1)) <|
.seq (.ops [⟨(some 46), .mov, [.r 5], none, [8, 22]⟩,
  ⟨(some 47), .mov, [.r 1], none, []⟩,
  ⟨(some 48), .bin .rem, [.r 47, .k (.int .u8 5)], none, [47]⟩,
  ⟨(some 49), .conv .i64, [.r 48], none, [48]⟩,
  ⟨(some 50), .call 29, [.r 46, .r 49], none, [46, 49]⟩,
  ⟨(some 9), .mov, [.r 50], none, [50]⟩]) <|
.seq (.ops [⟨(some 51), .mov, [.r 5], none, []⟩,
  ⟨(some 52), .call 33, [.r 51], none, [51]⟩,
  ⟨(some 10), .mov, [.r 52], none, [52]⟩]) <|
.seq (.seq (.ops [⟨(some 53), .mov, [.r 9], none, [9]⟩,
  ⟨(some 54), .mov, [.r 6], none, []⟩,
  ⟨(some 55), .bin .gtr, [.r 54, .k (.int .i64 0)], none, [54]⟩,
  ⟨(some 56), .eqv true .bool, [.r 53, .r 55], none, [53, 55]⟩,
  ⟨(some 57), .mov, [.r 56], none, [56]⟩,
  ⟨(some 58), .mov, [.r 5], (some (57, false)), [5]⟩,
  ⟨(some 59), .mov, [.r 1], (some (57, false)), [1]⟩,
  ⟨(some 60), .bin .rem, [.r 59, .k (.int .u8 5)], (some (57, false)), [59]⟩,
  ⟨(some 61), .conv .i64, [.r 60], (some (57, false)), [60]⟩,
  ⟨(some 62), .call 35, [.r 58, .r 61], (some (57, false)), [58, 61]⟩,
  ⟨(some 63), .mov, [.r 6], (some (57, false)), []⟩,
  ⟨(some 64), .bin .gtr, [.r 63, .k (.int .i64 1)], (some (57, false)), [63]⟩,
  ⟨(some 65), .eqv true .bool, [.r 62, .r 64], (some (57, false)), [62, 64]⟩,
  ⟨(some 66), .pick, [.r 57, .k (.bool true), .r 65], none, [57, 65]⟩,
  ⟨(some 67), .mov, [.r 66], none, [66]⟩,
  ⟨(some 68), .mov, [.r 6], (some (67, false)), [6]⟩,
  ⟨(some 69), .bin .gtr, [.r 68, .k (.int .i64 0)], (some (67, false)), [68]⟩,
  ⟨(some 70), .mov, [.r 69], (some (67, false)), [69]⟩,
  ⟨(some 71), .mov, [.r 10], (some (70, true)), []⟩,
  ⟨(some 72), .len, [.r 71], (some (70, true)), [71]⟩,
  ⟨(some 73), .mov, [.r 0], (some (70, true)), []⟩,
  ⟨(some 74), .len, [.r 73], (some (70, true)), [73]⟩,
  ⟨(some 75), .bin .sub, [.r 74, .k (.int .i64 1)], (some (70, true)), [74]⟩,
  ⟨(some 76), .bin .neq, [.r 72, .r 75], (some (70, true)), [72, 75]⟩,
  ⟨(some 77), .pick, [.r 70, .r 76, .k (.bool false)], (some (67, false)), [70, 76]⟩,
  ⟨(some 78), .pick, [.r 67, .k (.bool true), .r 77], none, [67, 77]⟩]) <|
.cond (.r 78)
  (.seq (.ops [⟨(some 4), .mov, [.k (.bool false)], none, [0, 7, 10, 78]⟩]) <|
  .ret)
  (.skip)) <|
.seq (.ops [⟨(some 11), .mov, [.k (.int .i64 0)], none, [78]⟩]) <|
.seq (.seq (.ops [⟨(some 12), .mov, [.k (.int .i64 0)], none, []⟩]) <|
.block 2 (.loop m9_0)) <|
.seq (.ops [⟨(some 107), .mov, [.r 11], none, [0, 7, 11, 12, 82]⟩,
  ⟨(some 108), .mov, [.r 10], none, [10]⟩,
  ⟨(some 109), .len, [.r 108], none, [108]⟩,
  ⟨(some 110), .bin .eql, [.r 107, .r 109], none, [107, 109]⟩,
  ⟨(some 4), .mov, [.r 110], none, [110]⟩]) <|
.ret⟩
theorem c9 : cFn Try.prog 9 = some m9.bare := by kernel_rfl

/-- 'swingbridge/swingbridgelaw3.known' -/
def m22 : MFn := ⟨[.tmp 0], .seq (.ops [⟨(some 0), .mov, [.k (.bool false)], none, [0]⟩]) <|
.seq (.ops [⟨(some 11), .call 23, [.k (.int .i64 2)], none, []⟩,
  ⟨(some 1), .mov, [.r 11], none, [11]⟩]) <|
.seq (.seq (.ops [⟨(some 12), .mov, [.r 1], none, []⟩,
  ⟨(some 13), .eqv false .ptr, [.r 12, .k (.pointer none)], none, [12]⟩]) <|
.cond (.r 13)
  (.seq (.ops [⟨(some 0), .mov, [.k (.bool false)], none, [1, 13]⟩]) <|
  .ret)
  (.skip)) <|
.seq (.ops [⟨(some 15), .mov, [.r 1], none, [13]⟩,
  ⟨(some 16), .call 27, [.r 15], none, [15]⟩,
  ⟨(some 14), .mov, [.r 16], none, [16]⟩,
  ⟨(some 17), .extract 0, [.r 14], none, []⟩,
  ⟨(some 18), .extract 1, [.r 14], none, [14]⟩,
  ⟨(some 2), .mov, [.r 17], none, [2, 17]⟩,
  ⟨(some 3), .mov, [.r 18], none, [18]⟩]) <|
.seq (.ops [⟨(some 19), .mov, [.r 1], none, []⟩,
  ⟨(some 20), .call 25, [.r 19, .k (.int .i64 3)], none, [19]⟩,
  ⟨(some 21), .mov, [.r 1], none, []⟩,
  ⟨(some 22), .call 25, [.r 21, .k (.int .i64 1)], none, [21]⟩,
  ⟨(some 23), .mov, [.r 1], none, []⟩,
  ⟨(some 24), .call 25, [.r 23, .k (.int .i64 2)], none, [23]⟩,
  ⟨(some 4), .mov, [.r 20], none, [20]⟩,
  ⟨(some 5), .mov, [.r 22], none, [22]⟩,
  ⟨(some 6), .mov, [.r 24], none, [24]⟩]) <|
.seq (.ops [⟨(some 26), .mov, [.r 1], none, []⟩,
  ⟨(some 27), .call 31, [.r 26], none, [26]⟩,
  ⟨(some 25), .mov, [.r 27], none, [27]⟩,
  ⟨(some 28), .extract 0, [.r 25], none, []⟩,
  ⟨(some 29), .extract 1, [.r 25], none, [25]⟩,
  ⟨(some 7), .mov, [.r 28], none, [28]⟩,
  ⟨(some 8), .mov, [.r 29], none, [29]⟩]) <|
.seq (.ops [⟨(some 31), .mov, [.r 1], none, []⟩,
  ⟨(some 32), .call 27, [.r 31], none, [31]⟩,
  ⟨(some 30), .mov, [.r 32], none, [32]⟩,
  ⟨(some 33), .extract 0, [.r 30], none, []⟩,
  ⟨(some 34), .extract 1, [.r 30], none, [30]⟩,
  ⟨(some 9), .mov, [.r 33], none, [33]⟩,
  ⟨(some 10), .mov, [.r 34], none, [34]⟩]) <|
.seq (.ops [⟨(some 35), .mov, [.r 3], none, [3]⟩,
  ⟨(some 36), .bin .eql, [.r 35, .k (.int .i64 13)], none, [35]⟩,
  ⟨(some 37), .mov, [.r 36], none, [36]⟩,
  ⟨(some 38), .mov, [.r 4], (some (37, true)), [4]⟩,
  ⟨(some 39), .bin .eql, [.r 38, .k (.int .i64 0)], (some (37, true)), [38]⟩,
  ⟨(some 40), .pick, [.r 37, .r 39, .k (.bool false)], none, [37, 39]⟩,
  ⟨(some 41), .mov, [.r 40], none, [40]⟩,
  ⟨(some 42), .mov, [.r 5], (some (41, true)), [5]⟩,
  ⟨(some 43), .bin .eql, [.r 42, .k (.int .i64 0)], (some (41, true)), [42]⟩,
  ⟨(some 44), .pick, [.r 41, .r 43, .k (.bool false)], none, [41, 43]⟩,
  ⟨(some 45), .mov, [.r 44], none, [44]⟩,
  ⟨(some 46), .mov, [.r 6], (some (45, true)), [6]⟩,
  ⟨(some 47), .bin .eql, [.r 46, .k (.int .i64 12)], (some (45, true)), [46]⟩,
  ⟨(some 48), .pick, [.r 45, .r 47, .k (.bool false)], none, [45, 47]⟩,
  ⟨(some 49), .mov, [.r 48], none, [48]⟩,
  ⟨(some 50), .mov, [.r 8], (some (49, true)), [8]⟩,
  ⟨(some 51), .pick, [.r 49, .r 50, .k (.bool false)], none, [49, 50]⟩,
  ⟨(some 52), .mov, [.r 51], none, [51]⟩,
  ⟨(some 53), .mov, [.r 7], (some (52, true)), [7]⟩,
  ⟨(some 54), .bin .eql, [.r 53, .k (.int .i64 3)], (some (52, true)), [53]⟩,
  ⟨(some 55), .pick, [.r 52, .r 54, .k (.bool false)], none, [52, 54]⟩,
  ⟨(some 56), .mov, [.r 55], none, [55]⟩,
  ⟨(some 57), .mov, [.r 10], (some (56, true)), [10]⟩,
  ⟨(some 58), .bin .eql, [.r 57, .k (.int .i64 0)], (some (56, true)), [57]⟩,
  ⟨(some 59), .pick, [.r 56, .r 58, .k (.bool false)], none, [56, 58]⟩,
  ⟨(some 60), .mov, [.r 59], none, [59]⟩,
  ⟨(some 61), .mov, [.r 9], (some (60, true)), [9]⟩,
  ⟨(some 62), .bin .eql, [.r 61, .k (.int .i64 3)], (some (60, true)), [61]⟩,
  ⟨(some 63), .pick, [.r 60, .r 62, .k (.bool false)], none, [60, 62]⟩,
  ⟨(some 64), .mov, [.r 63], none, [63]⟩,
  ⟨(some 65), .mov, [.r 1], (some (64, true)), []⟩,
  ⟨(some 66), .call 35, [.r 65, .k (.int .i64 1)], (some (64, true)), [65]⟩,
  ⟨(some 67), .pick, [.r 64, .r 66, .k (.bool false)], none, [64, 66]⟩,
  ⟨(some 68), .mov, [.r 67], none, [67]⟩,
  ⟨(some 69), .mov, [.r 1], (some (68, true)), []⟩,
  ⟨(some 70), .call 35, [.r 69, .k (.int .i64 3)], (some (68, true)), [69]⟩,
  ⟨(some 71), .un .not, [.r 70], (some (68, true)), [70]⟩,
  ⟨(some 72), .pick, [.r 68, .r 71, .k (.bool false)], none, [68, 71]⟩,
  ⟨(some 73), .mov, [.r 72], none, [72]⟩,
  ⟨(some 74), .mov, [.r 1], (some (73, true)), []⟩,
  ⟨(some 75), .call 34, [.r 74], (some (73, true)), [74]⟩,
  ⟨(some 76), .bin .eql, [.r 75, .k (.int .i64 1)], (some (73, true)), [75]⟩,
  ⟨(some 77), .pick, [.r 73, .r 76, .k (.bool false)], none, [73, 76]⟩,
  ⟨(some 78), .mov, [.r 77], none, [77]⟩,
  ⟨(some 79), .mov, [.r 1], (some (78, true)), []⟩,
  ⟨(some 80), .call 29, [.r 79, .k (.int .i64 1)], (some (78, true)), [79]⟩,
  ⟨(some 81), .pick, [.r 78, .r 80, .k (.bool false)], none, [78, 80]⟩,
  ⟨(some 82), .mov, [.r 81], none, [81]⟩,
  ⟨(some 83), .mov, [.r 1], (some (82, true)), []⟩,
  ⟨(some 84), .call 29, [.r 83, .k (.int .i64 1)], (some (82, true)), [83]⟩,
  ⟨(some 85), .un .not, [.r 84], (some (82, true)), [84]⟩,
  ⟨(some 86), .pick, [.r 82, .r 85, .k (.bool false)], none, [82, 85]⟩,
  ⟨(some 87), .mov, [.r 86], none, [86]⟩,
  ⟨(some 88), .mov, [.r 1], (some (87, true)), [1]⟩,
  ⟨(some 89), .call 33, [.r 88], (some (87, true)), [88]⟩,
  ⟨(some 90), .len, [.r 89], (some (87, true)), [89]⟩,
  ⟨(some 91), .bin .eql, [.r 90, .k (.int .i64 0)], (some (87, true)), [90]⟩,
  ⟨(some 92), .pick, [.r 87, .r 91, .k (.bool false)], none, [87, 91]⟩,
  ⟨(some 0), .mov, [.r 92], none, [92]⟩]) <|
.ret⟩
theorem c22 : cFn Try.prog 22 = some m22.bare := by kernel_rfl

/-- 'swingbridge/line.New' -/
def m23 : MFn := ⟨[.tmp 2], .seq (.ops [⟨(some 2), .mov, [.k (.pointer none)], none, [2]⟩]) <|
.seq (.ops [⟨(some 3), .mov, [.r 0], none, [0]⟩,
  ⟨(some 4), .minmax true, [.r 3, .k (.int .i64 0)], none, [3]⟩,
  ⟨(some 5), .minmax false, [.r 4, .k (.int .i64 64)], none, [4]⟩,
  ⟨(some 6), .build [.slice none 0 0, .int .i64 0] [(1, 1)], [.r 5], none, [5]⟩,
  ⟨(some 7), .box, [.r 6], none, [6]⟩,
  ⟨(some 2), .mov, [.r 7], none, [7]⟩]) <|
.ret⟩
theorem c23 : cFn Try.prog 23 = some m23.bare := by kernel_rfl

/-- 'swingbridge/swingbridgeref2.NewLine' -/
def m24 : MFn := ⟨[.tmp 2], .seq (.ops [⟨(some 2), .mov, [.k (.pointer none)], none, [2]⟩]) <|
.seq (.ops [⟨(some 3), .mov, [.r 0], none, [0]⟩,
  ⟨(some 4), .minmax false, [.r 3, .k (.int .i64 64)], none, [3]⟩,
  ⟨(some 5), .minmax true, [.k (.int .i64 0), .r 4], none, [4]⟩,
  ⟨(some 6), .build [.slice none 0 0, .int .i64 0] [(1, 1)], [.r 5], none, [5]⟩,
  ⟨(some 7), .box, [.r 6], none, [6]⟩,
  ⟨(some 2), .mov, [.r 7], none, [7]⟩]) <|
.ret⟩
theorem c24 : cFn Try.prog 24 = some m24.bare := by kernel_rfl

/-- '(*swingbridge/line.Line).Put' -/
def m25 : MFn := ⟨[.tmp 4], .seq (.ops [⟨(some 4), .mov, [.k (.int .i64 0)], none, [4]⟩]) <|
.seq (.seq (.draw [⟨(some 5), .mov, [.r 0], none, []⟩,
  ⟨(some 6), .nilck, [.r 5], none, [5]⟩,
  ⟨(some 7), .fa 0, [.r 6], none, [6]⟩,
  ⟨(some 8), .ld none, [.r 7], none, [7]⟩,
  ⟨(some 9), .len, [.r 8], none, [8]⟩,
  ⟨(some 10), .mov, [.r 0], none, []⟩,
  ⟨(some 11), .nilck, [.r 10], none, [10]⟩,
  ⟨(some 12), .fa 1, [.r 11], none, [11]⟩,
  ⟨(some 13), .ld none, [.r 12], none, [12]⟩,
  ⟨(some 14), .bin .geq, [.r 9, .r 13], none, [9, 13]⟩] []) <|
.cond (.r 14)
  (.seq (.ops [⟨(some 4), .mov, [.k (.int .i64 12)], none, [0, 1, 14]⟩]) <|
  .ret)
  (.skip)) <|
.seq (.ops [⟨(some 15), .mov, [.r 0], none, [14]⟩,
  ⟨(some 16), .mov, [.r 0], none, [0]⟩,
  ⟨(some 17), .nilck, [.r 16], none, [16]⟩,
  ⟨(some 18), .fa 0, [.r 17], none, [17]⟩,
  ⟨(some 19), .ld none, [.r 18], none, [18]⟩,
  ⟨(some 20), .mov, [.r 1], none, [1]⟩,
  ⟨(some 21), .bslice 1 1 [.int .i64 0] [(0, 1)], [.r 20], none, [20]⟩,
  ⟨(some 22), .app 1 8, [.r 19, .r 21], none, [19, 21]⟩,
  ⟨(some 23), .nilck, [.r 15], none, [15]⟩,
  ⟨(some 24), .fa 0, [.r 23], none, [23]⟩,
  ⟨none, .st 1, [.r 24, .r 22], none, [22, 24]⟩]) <|
.seq (.ops [⟨(some 4), .mov, [.k (.int .i64 0)], none, []⟩]) <|
.ret⟩
theorem c25 : cFn Try.prog 25 = some m25.bare := by kernel_rfl

/-- '(*swingbridge/swingbridgeref2.Line).Put' -/
def m26 : MFn := ⟨[.tmp 4], .seq (.ops [⟨(some 4), .mov, [.k (.int .i64 0)], none, [4]⟩]) <|
.seq (.seq (.draw [⟨(some 5), .mov, [.r 0], none, []⟩,
  ⟨(some 6), .nilck, [.r 5], none, [5]⟩,
  ⟨(some 7), .fa 0, [.r 6], none, [6]⟩,
  ⟨(some 8), .ld none, [.r 7], none, [7]⟩,
  ⟨(some 9), .len, [.r 8], none, [8]⟩,
  ⟨(some 10), .mov, [.r 0], none, []⟩,
  ⟨(some 11), .nilck, [.r 10], none, [10]⟩,
  ⟨(some 12), .fa 1, [.r 11], none, [11]⟩,
  ⟨(some 13), .ld none, [.r 12], none, [12]⟩,
  ⟨(some 14), .bin .geq, [.r 9, .r 13], none, [9, 13]⟩] []) <|
.cond (.r 14)
  (.seq (.ops [⟨(some 4), .mov, [.k (.int .i64 12)], none, [0, 1, 14]⟩]) <|
  .ret)
  (.skip)) <|
.seq (.ops [⟨(some 15), .mov, [.r 0], none, [14]⟩,
  ⟨(some 16), .mov, [.r 0], none, [0]⟩,
  ⟨(some 17), .nilck, [.r 16], none, [16]⟩,
  ⟨(some 18), .fa 0, [.r 17], none, [17]⟩,
  ⟨(some 19), .ld none, [.r 18], none, [18]⟩,
  ⟨(some 20), .app 1 8, [.k (.slice none 0 0), .r 19], none, [19]⟩,
  ⟨(some 21), .mov, [.r 1], none, [1]⟩,
  ⟨(some 22), .bslice 1 1 [.int .i64 0] [(0, 1)], [.r 21], none, [21]⟩,
  ⟨(some 23), .app 1 8, [.r 20, .r 22], none, [20, 22]⟩,
  ⟨(some 24), .nilck, [.r 15], none, [15]⟩,
  ⟨(some 25), .fa 0, [.r 24], none, [24]⟩,
  ⟨none, .st 1, [.r 25, .r 23], none, [23, 25]⟩]) <|
.seq (.ops [⟨(some 4), .mov, [.k (.int .i64 0)], none, []⟩]) <|
.ret⟩
theorem c26 : cFn Try.prog 26 = some m26.bare := by kernel_rfl

/-- '(*swingbridge/line.Line).Take' -/
def m27 : MFn := ⟨[.tmp 2, .tmp 3], .seq (.ops [⟨(some 2), .mov, [.k (.int .i64 0)], none, [2]⟩,
  ⟨(some 3), .mov, [.k (.int .i64 0)], none, [3]⟩]) <|
.seq (.ops [⟨(some 7), .mov, [.r 0], none, []⟩,
  ⟨(some 8), .call 31, [.r 7], none, [7]⟩,
  ⟨(some 6), .mov, [.r 8], none, [8]⟩,
  ⟨(some 9), .extract 0, [.r 6], none, []⟩,
  ⟨(some 10), .extract 1, [.r 6], none, [6]⟩,
  ⟨(some 4), .mov, [.r 9], none, [9]⟩,
  ⟨(some 5), .mov, [.r 10], none, [10]⟩]) <|
.seq (.seq (.ops [⟨(some 11), .mov, [.r 5], none, [5]⟩,
  ⟨(some 12), .un .not, [.r 11], none, [11]⟩]) <|
.cond (.r 12)
  (.seq (.ops [⟨(some 2), .mov, [.k (.int .i64 0)], none, [0, 4, 12]⟩,
    ⟨(some 3), .mov, [.k (.int .i64 13)], none, []⟩]) <|
  .ret)
  (.skip)) <|
.seq (.ops [⟨(some 13), .mov, [.r 0], none, [12]⟩,
  ⟨(some 14), .mov, [.r 0], none, [0]⟩,
  ⟨(some 15), .nilck, [.r 14], none, [14]⟩,
  ⟨(some 16), .fa 0, [.r 15], none, [15]⟩,
  ⟨(some 17), .ld none, [.r 16], none, [16]⟩,
  ⟨(some 18), .call 66, [.r 17, .k (.int .i64 0), .k (.int .i64 1)], none, [17]⟩,
  ⟨(some 19), .nilck, [.r 13], none, [13]⟩,
  ⟨(some 20), .fa 0, [.r 19], none, [19]⟩,
  ⟨none, .st 1, [.r 20, .r 18], none, [18, 20]⟩]) <|
.seq (.ops [⟨(some 21), .mov, [.r 4], none, [4]⟩,
  ⟨(some 2), .mov, [.r 21], none, [21]⟩,
  ⟨(some 3), .mov, [.k (.int .i64 0)], none, []⟩]) <|
.ret⟩
theorem c27 : cFn Try.prog 27 = some m27.bare := by kernel_rfl

/-- '(*swingbridge/swingbridgeref2.Line).Take' -/
def m28 : MFn := ⟨[.tmp 2, .tmp 3], .seq (.ops [⟨(some 2), .mov, [.k (.int .i64 0)], none, [2]⟩,
  ⟨(some 3), .mov, [.k (.int .i64 0)], none, [3]⟩]) <|
.seq (.seq (.ops [⟨(some 5), .mov, [.r 0], none, []⟩,
  ⟨(some 6), .nilck, [.r 5], none, [5]⟩,
  ⟨(some 7), .fa 0, [.r 6], none, [6]⟩,
  ⟨(some 8), .ld none, [.r 7], none, [7]⟩,
  ⟨(some 9), .len, [.r 8], none, [8]⟩,
  ⟨(some 10), .bin .eql, [.r 9, .k (.int .i64 0)], none, [9]⟩]) <|
.cond (.r 10)
  (.seq (.ops [⟨(some 2), .mov, [.k (.int .i64 0)], none, [0, 10]⟩,
    ⟨(some 3), .mov, [.k (.int .i64 13)], none, []⟩]) <|
  .ret)
  (.skip)) <|
.seq (.ops [⟨(some 11), .mov, [.r 0], none, [10]⟩,
  ⟨(some 12), .nilck, [.r 11], none, [11]⟩,
  ⟨(some 13), .fa 0, [.r 12], none, [12]⟩,
  ⟨(some 14), .ld none, [.r 13], none, [13]⟩,
  ⟨(some 15), .ia 1, [.r 14, .k (.int .i64 0)], none, [14]⟩,
  ⟨(some 16), .ld none, [.r 15], none, [15]⟩,
  ⟨(some 4), .mov, [.r 16], none, [16]⟩]) <|
.seq (.ops [⟨(some 17), .mov, [.r 0], none, []⟩,
  ⟨(some 18), .mov, [.r 0], none, [0]⟩,
  ⟨(some 19), .nilck, [.r 18], none, [18]⟩,
  ⟨(some 20), .fa 0, [.r 19], none, [19]⟩,
  ⟨(some 21), .ld none, [.r 20], none, [20]⟩,
  ⟨(some 22), .sl 1 true false false, [.r 21, .k (.int .i64 1)], none, [21]⟩,
  ⟨(some 23), .nilck, [.r 17], none, [17]⟩,
  ⟨(some 24), .fa 0, [.r 23], none, [23]⟩,
  ⟨none, .st 1, [.r 24, .r 22], none, [22, 24]⟩]) <|
.seq (.ops [⟨(some 25), .mov, [.r 4], none, [4]⟩,
  ⟨(some 2), .mov, [.r 25], none, [25]⟩,
  ⟨(some 3), .mov, [.k (.int .i64 0)], none, []⟩]) <|
.ret⟩
theorem c28 : cFn Try.prog 28 = some m28.bare := by kernel_rfl

/-- '(*swingbridge/line.Line).Drop' -/
def m29_0 : MCode := .seq (.ops [⟨(some 13), .bin .lss, [.r 12, .r 11], none, []⟩]) <|
    .seq (.cond (.r 13)
      (.skip)
      (.exit 0)) <|
    .seq (.block 1 (.seq (.ops [⟨(some 14), .mov, [.r 12], none, [13]⟩,
        ⟨(some 15), .ia 1, [.r 10, .r 12], none, []⟩,
        ⟨(some 16), .ld none, [.r 15], none, [15]⟩,
        ⟨(some 5), .mov, [.r 14], none, [14]⟩,
        ⟨(some 6), .mov, [.r 16], none, [16]⟩]) <|
      .seq (.seq (.ops [⟨(some 17), .mov, [.r 6], none, [6]⟩,
        ⟨(some 18), .mov, [.r 1], none, []⟩,
        ⟨(some 19), .bin .neq, [.r 17, .r 18], none, [17, 18]⟩]) <|
      .cond (.r 19)
        (.exit 1)
        (.skip)) <|
      .seq (.ops [⟨(some 20), .mov, [.r 0], none, [1, 10, 11, 12, 19]⟩,
        ⟨(some 21), .mov, [.r 0], none, [0]⟩,
        ⟨(some 22), .nilck, [.r 21], none, [21]⟩,
        ⟨(some 23), .fa 0, [.r 22], none, [22]⟩,
        ⟨(some 24), .ld none, [.r 23], none, [23]⟩,
        ⟨(some 25), .mov, [.r 5], none, []⟩,
        ⟨(some 26), .mov, [.r 5], none, [5]⟩,
        ⟨(some 27), .bin .add, [.r 26, .k (.int .i64 1)], none, [26]⟩,
        ⟨(some 28), .call 66, [.r 24, .r 25, .r 27], none, [24, 25, 27]⟩,
        ⟨(some 29), .nilck, [.r 20], none, [20]⟩,
        ⟨(some 30), .fa 0, [.r 29], none, [29]⟩,
        ⟨none, .st 1, [.r 30, .r 28], none, [28, 30]⟩]) <|
      .seq (.ops [⟨(some 4), .mov, [.k (.bool true)], none, []⟩]) <|
      .ret)) <|
    .ops [⟨(some 31), .bin .add, [.r 12, .k (.int .i64 1)], none, [5, 12, 19]⟩,
      ⟨(some 12), .mov, [.r 31], none, [31]⟩]
def m29 : MFn := ⟨[.tmp 4], .seq (.ops [⟨(some 4), .mov, [.k (.bool false)], none, [4]⟩]) <|
.seq (.skip) <|
.seq (.seq (.ops [⟨(some 7), .mov, [.r 0], none, []⟩,
  ⟨(some 8), .nilck, [.r 7], none, [7]⟩,
  ⟨(some 9), .fa 0, [.r 8], none, [8]⟩,
  ⟨(some 10), .ld none, [.r 9], none, [9]⟩,
  ⟨(some 11), .len, [.r 10], none, []⟩,
  ⟨(some 12), .mov, [.k (.int .i64 0)], none, []⟩]) <|
.block 0 (.loop m29_0)) <|
.seq (.ops [⟨(some 4), .mov, [.k (.bool false)], none, [0, 1, 10, 11, 12, 13]⟩]) <|
.ret⟩
theorem c29 : cFn Try.prog 29 = some m29.bare := by kernel_rfl

/-- '(*swingbridge/swingbridgeref2.Line).Drop' -/
def m30 : MFn := ⟨[.tmp 4], .seq (.ops [⟨(some 4), .mov, [.k (.bool false)], none, [4]⟩]) <|
.seq (.ops [⟨(some 6), .mov, [.r 0], none, []⟩,
  ⟨(some 7), .nilck, [.r 6], none, [6]⟩,
  ⟨(some 8), .fa 0, [.r 7], none, [7]⟩,
  ⟨(some 9), .ld none, [.r 8], none, [8]⟩,
  ⟨(some 10), .mov, [.r 1], none, [1]⟩,
  ⟨(some 11), .call 36, [.r 9, .r 10], none, [9, 10]⟩,
  ⟨(some 5), .mov, [.r 11], none, [11]⟩]) <|
.seq (.seq (.ops [⟨(some 12), .mov, [.r 5], none, []⟩,
  ⟨(some 13), .bin .geq, [.r 12, .k (.int .i64 0)], none, [12]⟩]) <|
.cond (.r 13)
  (.ops [⟨(some 14), .mov, [.r 0], none, [13]⟩,
    ⟨(some 15), .mov, [.r 0], none, [0]⟩,
    ⟨(some 16), .nilck, [.r 15], none, [15]⟩,
    ⟨(some 17), .fa 0, [.r 16], none, [16]⟩,
    ⟨(some 18), .ld none, [.r 17], none, [17]⟩,
    ⟨(some 19), .mov, [.r 5], none, []⟩,
    ⟨(some 20), .call 67, [.r 18, .r 19], none, [18, 19]⟩,
    ⟨(some 21), .nilck, [.r 14], none, [14]⟩,
    ⟨(some 22), .fa 0, [.r 21], none, [21]⟩,
    ⟨none, .st 1, [.r 22, .r 20], none, [20, 22]⟩])
  (.skip)) <|
.seq (.ops [⟨(some 23), .mov, [.r 5], none, [0, 5, 13]⟩,
  ⟨(some 24), .bin .geq, [.r 23, .k (.int .i64 0)], none, [23]⟩,
  ⟨(some 4), .mov, [.r 24], none, [24]⟩]) <|
.ret⟩
theorem c30 : cFn Try.prog 30 = some m30.bare := by kernel_rfl

/-- '(*swingbridge/line.Line).First' -/
def m31 : MFn := ⟨[.tmp 2, .tmp 3], .seq (.ops [⟨(some 2), .mov, [.k (.int .i64 0)], none, [2]⟩,
  ⟨(some 3), .mov, [.k (.bool false)], none, [3]⟩]) <|
.seq (.seq (.ops [⟨(some 4), .mov, [.r 0], none, []⟩,
  ⟨(some 5), .nilck, [.r 4], none, [4]⟩,
  ⟨(some 6), .fa 0, [.r 5], none, [5]⟩,
  ⟨(some 7), .ld none, [.r 6], none, [6]⟩,
  ⟨(some 8), .len, [.r 7], none, [7]⟩,
  ⟨(some 9), .bin .eql, [.r 8, .k (.int .i64 0)], none, [8]⟩]) <|
.cond (.r 9)
  (.seq (.ops [⟨(some 2), .mov, [.k (.int .i64 0)], none, [0, 9]⟩,
    ⟨(some 3), .mov, [.k (.bool false)], none, []⟩]) <|
  .ret)
  (.skip)) <|
.seq (.ops [⟨(some 10), .mov, [.r 0], none, [0, 9]⟩,
  ⟨(some 11), .nilck, [.r 10], none, [10]⟩,
  ⟨(some 12), .fa 0, [.r 11], none, [11]⟩,
  ⟨(some 13), .ld none, [.r 12], none, [12]⟩,
  ⟨(some 14), .ia 1, [.r 13, .k (.int .i64 0)], none, [13]⟩,
  ⟨(some 15), .ld none, [.r 14], none, [14]⟩,
  ⟨(some 2), .mov, [.r 15], none, [15]⟩,
  ⟨(some 3), .mov, [.k (.bool true)], none, []⟩]) <|
.ret⟩
theorem c31 : cFn Try.prog 31 = some m31.bare := by kernel_rfl

/-- 'swingbridge/swingbridgeref2.SameInts' -/
def m32_0 : MCode := .seq (.seq (.ops [⟨(some 11), .mov, [.r 5], none, []⟩,
      ⟨(some 12), .mov, [.r 0], none, []⟩,
      ⟨(some 13), .len, [.r 12], none, [12]⟩,
      ⟨(some 14), .bin .lss, [.r 11, .r 13], none, [11, 13]⟩]) <|
    .cond (.r 14)
      (.skip)
      (.exit 0)) <|
    .seq (.block 1 (.seq (.draw [⟨(some 17), .mov, [.r 0], none, [14]⟩,
        ⟨(some 18), .mov, [.r 5], none, []⟩,
        ⟨(some 19), .ia 1, [.r 17, .r 18], none, [17, 18]⟩,
        ⟨(some 20), .ld none, [.r 19], none, [19]⟩,
        ⟨(some 21), .mov, [.r 1], none, []⟩,
        ⟨(some 22), .mov, [.r 5], none, []⟩,
        ⟨(some 23), .ia 1, [.r 21, .r 22], none, [21, 22]⟩,
        ⟨(some 24), .ld none, [.r 23], none, [23]⟩,
        ⟨(some 25), .bin .neq, [.r 20, .r 24], none, [20, 24]⟩] []) <|
      .cond (.r 25)
        (.seq (.ops [⟨(some 4), .mov, [.k (.bool false)], none, [0, 1, 5, 25]⟩]) <|
        .ret)
        (.skip))) <|
    .ops [⟨(some 15), .mov, [.r 5], none, [5, 25]⟩,
      ⟨(some 16), .bin .add, [.r 15, .k (.int .i64 1)], none, [15]⟩,
      ⟨(some 5), .mov, [.r 16], none, [16]⟩]
def m32 : MFn := ⟨[.tmp 4], .seq (.ops [⟨(some 4), .mov, [.k (.bool false)], none, [4]⟩]) <|
.seq (.seq (.ops [⟨(some 6), .mov, [.r 0], none, []⟩,
  ⟨(some 7), .len, [.r 6], none, [6]⟩,
  ⟨(some 8), .mov, [.r 1], none, []⟩,
  ⟨(some 9), .len, [.r 8], none, [8]⟩,
  ⟨(some 10), .bin .neq, [.r 7, .r 9], none, [7, 9]⟩]) <|
.cond (.r 10)
  (.seq (.ops [⟨(some 4), .mov, [.k (.bool false)], none, [0, 1, 10]⟩]) <|
  .ret)
  (.skip)) <|
.seq (.seq (.ops [⟨(some 5), .mov, [.k (.int .i64 0)], none, [10]⟩]) <|
.block 0 (.loop m32_0)) <|
.seq (.ops [⟨(some 4), .mov, [.k (.bool true)], none, [0, 1, 5, 14]⟩]) <|
.ret⟩
theorem c32 : cFn Try.prog 32 = some m32.bare := by kernel_rfl

/-- '(*swingbridge/line.Line).All' -/
def m33 : MFn := ⟨[.tmp 2], .seq (.ops [⟨(some 2), .mov, [.k (.slice none 0 0)], none, [2]⟩]) <|
.seq (.ops [⟨(some 3), .mov, [.r 0], none, [0]⟩,
  ⟨(some 4), .nilck, [.r 3], none, [3]⟩,
  ⟨(some 5), .fa 0, [.r 4], none, [4]⟩,
  ⟨(some 6), .ld none, [.r 5], none, [5]⟩,
  ⟨(some 7), .call 68, [.r 6], none, [6]⟩,
  ⟨(some 2), .mov, [.r 7], none, [7]⟩]) <|
.ret⟩
theorem c33 : cFn Try.prog 33 = some m33.bare := by kernel_rfl

/-- '(*swingbridge/line.Line).Len' -/
def m34 : MFn := ⟨[.tmp 2], .seq (.ops [⟨(some 2), .mov, [.k (.int .i64 0)], none, [2]⟩]) <|
.seq (.ops [⟨(some 3), .mov, [.r 0], none, [0]⟩,
  ⟨(some 4), .nilck, [.r 3], none, [3]⟩,
  ⟨(some 5), .fa 0, [.r 4], none, [4]⟩,
  ⟨(some 6), .ld none, [.r 5], none, [5]⟩,
  ⟨(some 7), .len, [.r 6], none, [6]⟩,
  ⟨(some 2), .mov, [.r 7], none, [7]⟩]) <|
.ret⟩
theorem c34 : cFn Try.prog 34 = some m34.bare := by kernel_rfl

/-- '(*swingbridge/line.Line).Has' -/
def m35 : MFn := ⟨[.tmp 4], .seq (.ops [⟨(some 4), .mov, [.k (.bool false)], none, [4]⟩]) <|
.seq (.ops [⟨(some 5), .mov, [.r 0], none, [0]⟩,
  ⟨(some 6), .nilck, [.r 5], none, [5]⟩,
  ⟨(some 7), .fa 0, [.r 6], none, [6]⟩,
  ⟨(some 8), .ld none, [.r 7], none, [7]⟩,
  ⟨(some 9), .mov, [.r 1], none, [1]⟩,
  ⟨(some 10), .call 69, [.r 8, .r 9], none, [8, 9]⟩,
  ⟨(some 4), .mov, [.r 10], none, [10]⟩]) <|
.ret⟩
theorem c35 : cFn Try.prog 35 = some m35.bare := by kernel_rfl

/-- 'swingbridge/swingbridgeref2.At' -/
def m36_0 : MCode := .seq (.seq (.ops [⟨(some 6), .mov, [.r 5], none, []⟩,
      ⟨(some 7), .mov, [.r 0], none, []⟩,
      ⟨(some 8), .len, [.r 7], none, [7]⟩,
      ⟨(some 9), .bin .lss, [.r 6, .r 8], none, [6, 8]⟩]) <|
    .cond (.r 9)
      (.skip)
      (.exit 0)) <|
    .seq (.block 1 (.seq (.ops [⟨(some 12), .mov, [.r 0], none, [9]⟩,
        ⟨(some 13), .mov, [.r 5], none, []⟩,
        ⟨(some 14), .ia 1, [.r 12, .r 13], none, [12, 13]⟩,
        ⟨(some 15), .ld none, [.r 14], none, [14]⟩,
        ⟨(some 16), .mov, [.r 1], none, []⟩,
        ⟨(some 17), .bin .eql, [.r 15, .r 16], none, [15, 16]⟩]) <|
      .cond (.r 17)
        (.seq (.ops [⟨(some 18), .mov, [.r 5], none, [0, 1, 5, 17]⟩,
          ⟨(some 4), .mov, [.r 18], none, [18]⟩]) <|
        .ret)
        (.skip))) <|
    .ops [⟨(some 10), .mov, [.r 5], none, [5, 17]⟩,
      ⟨(some 11), .bin .add, [.r 10, .k (.int .i64 1)], none, [10]⟩,
      ⟨(some 5), .mov, [.r 11], none, [11]⟩]
def m36 : MFn := ⟨[.tmp 4], .seq (.ops [⟨(some 4), .mov, [.k (.int .i64 0)], none, [4]⟩]) <|
.seq (.seq (.ops [⟨(some 5), .mov, [.k (.int .i64 0)], none, []⟩]) <|
.block 0 (.loop m36_0)) <|
.seq (.ops [⟨(some 4), .mov, [.k (.int .i64 (-1))], none, [0, 1, 5, 9]⟩]) <|
.ret⟩
theorem c36 : cFn Try.prog 36 = some m36.bare := by kernel_rfl

/-- 'slices.Delete[[]int,int]' -/
def m66 : MFn := ⟨[.tmp 6], .seq (.ops [⟨(some 6), .mov, [.k (.slice none 0 0)], none, [6]⟩]) <|
.seq (.ops [⟨(some 8), .mov, [.r 0], none, []⟩,
  ⟨(some 9), .mov, [.r 1], none, []⟩,
  ⟨(some 10), .mov, [.r 2], none, []⟩,
  ⟨(some 11), .mov, [.r 0], none, []⟩,
  ⟨(some 12), .len, [.r 11], none, [11]⟩,
  ⟨(some 13), .sl 1 true true true, [.r 8, .r 9, .r 10, .r 12], none, [8, 9, 10, 12, 13]⟩]) <|
.seq (.seq (.ops [⟨(some 14), .mov, [.r 1], none, []⟩,
  ⟨(some 15), .mov, [.r 2], none, []⟩,
  ⟨(some 16), .bin .eql, [.r 14, .r 15], none, [14, 15]⟩]) <|
.cond (.r 16)
  (.seq (.ops [⟨(some 17), .mov, [.r 0], none, [0, 1, 2, 16]⟩,
    ⟨(some 6), .mov, [.r 17], none, [17]⟩]) <|
  .ret)
  (.skip)) <|
.seq (.ops [⟨(some 18), .mov, [.r 0], none, [16]⟩,
  ⟨(some 19), .len, [.r 18], none, [18]⟩,
  ⟨(some 7), .mov, [.r 19], none, [19]⟩]) <|
.seq (.draw [⟨(some 20), .mov, [.r 0], none, []⟩,
  ⟨(some 21), .mov, [.r 1], none, [1]⟩,
  ⟨(some 22), .sl 1 false true false, [.r 20, .r 21], none, [20, 21]⟩,
  ⟨(some 23), .mov, [.r 0], none, [0]⟩,
  ⟨(some 24), .mov, [.r 2], none, [2]⟩,
  ⟨(some 25), .sl 1 true false false, [.r 23, .r 24], none, [23, 24]⟩,
  ⟨(some 26), .app 1 8, [.r 22, .r 25], none, [22, 25]⟩,
  ⟨(some 0), .mov, [.r 26], none, [26]⟩] []) <|
.seq (.ops [⟨(some 27), .mov, [.r 0], none, []⟩,
  ⟨(some 28), .mov, [.r 0], none, []⟩,
  ⟨(some 29), .len, [.r 28], none, [28]⟩,
  ⟨(some 30), .mov, [.r 7], none, [7]⟩,
  ⟨(some 31), .sl 1 true true false, [.r 27, .r 29, .r 30], none, [27, 29, 30]⟩,
  ⟨none, .clear 1 [.int .i64 0], [.r 31], none, [31]⟩]) <|
.seq (.ops [⟨(some 32), .mov, [.r 0], none, [0]⟩,
  ⟨(some 6), .mov, [.r 32], none, [32]⟩]) <|
.ret⟩
theorem c66 : cFn Try.prog 66 = some m66.bare := by kernel_rfl

/-- 'swingbridge/swingbridgeref2.Without' -/
def m67 : MFn := ⟨[.tmp 4], .seq (.ops [⟨(some 4), .mov, [.k (.slice none 0 0)], none, [4]⟩]) <|
.seq (.draw [⟨(some 5), .mov, [.r 0], none, []⟩,
  ⟨(some 6), .mov, [.r 1], none, []⟩,
  ⟨(some 7), .sl 1 false true false, [.r 5, .r 6], none, [5, 6]⟩,
  ⟨(some 8), .app 1 8, [.k (.slice none 0 0), .r 7], none, [7]⟩,
  ⟨(some 9), .mov, [.r 0], none, [0]⟩,
  ⟨(some 10), .mov, [.r 1], none, [1]⟩,
  ⟨(some 11), .bin .add, [.r 10, .k (.int .i64 1)], none, [10]⟩,
  ⟨(some 12), .sl 1 true false false, [.r 9, .r 11], none, [9, 11]⟩,
  ⟨(some 13), .app 1 8, [.r 8, .r 12], none, [8, 12]⟩,
  ⟨(some 4), .mov, [.r 13], none, [13]⟩] [(7, 3)]) <|
.ret⟩
theorem c67 : cFn Try.prog 67 = some m67.bare := by kernel_rfl

/-- 'slices.Clone[[]int,int]' -/
def m68 : MFn := ⟨[.tmp 2], .seq (.ops [⟨(some 2), .mov, [.k (.slice none 0 0)], none, [2]⟩]) <|
.seq (.seq (.ops [⟨(some 3), .mov, [.r 0], none, []⟩,
  ⟨(some 4), .eqv false .slice, [.r 3, .k (.slice none 0 0)], none, [3]⟩]) <|
.cond (.r 4)
  (.seq (.ops [⟨(some 2), .mov, [.k (.slice none 0 0)], none, [0, 4]⟩]) <|
  .ret)
  (.skip)) <|
.seq (.ops [⟨(some 5), .bslice 1 0 [.int .i64 0] [], [], none, [4]⟩,
  ⟨(some 6), .mov, [.r 0], none, [0]⟩,
  ⟨(some 7), .app 1 8, [.r 5, .r 6], none, [5, 6]⟩,
  ⟨(some 2), .mov, [.r 7], none, [7]⟩]) <|
.ret⟩
theorem c68 : cFn Try.prog 68 = some m68.bare := by kernel_rfl

/-- 'slices.Contains[[]int,int]' -/
def m69 : MFn := ⟨[.tmp 4], .seq (.ops [⟨(some 4), .mov, [.k (.bool false)], none, [4]⟩]) <|
.seq (.ops [⟨(some 5), .mov, [.r 0], none, [0]⟩,
  ⟨(some 6), .mov, [.r 1], none, [1]⟩,
  ⟨(some 7), .call 74, [.r 5, .r 6], none, [5, 6]⟩,
  ⟨(some 8), .bin .geq, [.r 7, .k (.int .i64 0)], none, [7]⟩,
  ⟨(some 4), .mov, [.r 8], none, [8]⟩]) <|
.ret⟩
theorem c69 : cFn Try.prog 69 = some m69.bare := by kernel_rfl

/-- 'slices.Index[[]int,int]' -/
def m74_0 : MCode := .seq (.ops [⟨(some 9), .bin .lss, [.r 8, .r 7], none, []⟩]) <|
    .seq (.cond (.r 9)
      (.skip)
      (.exit 0)) <|
    .seq (.block 1 (.seq (.ops [⟨(some 10), .mov, [.r 8], none, [9]⟩,
        ⟨(some 5), .mov, [.r 10], none, [10]⟩]) <|
      .seq (.ops [⟨(some 11), .mov, [.r 1], none, []⟩,
        ⟨(some 12), .mov, [.r 0], none, []⟩,
        ⟨(some 13), .mov, [.r 5], none, []⟩,
        ⟨(some 14), .ia 1, [.r 12, .r 13], none, [12, 13]⟩,
        ⟨(some 15), .ld none, [.r 14], none, [14]⟩,
        ⟨(some 16), .bin .eql, [.r 11, .r 15], none, [11, 15]⟩]) <|
      .cond (.r 16)
        (.seq (.ops [⟨(some 17), .mov, [.r 5], none, [0, 1, 5, 7, 8, 16]⟩,
          ⟨(some 4), .mov, [.r 17], none, [17]⟩]) <|
        .ret)
        (.skip))) <|
    .ops [⟨(some 18), .bin .add, [.r 8, .k (.int .i64 1)], none, [5, 8, 16]⟩,
      ⟨(some 8), .mov, [.r 18], none, [18]⟩]
def m74 : MFn := ⟨[.tmp 4], .seq (.ops [⟨(some 4), .mov, [.k (.int .i64 0)], none, [4]⟩]) <|
.seq (.seq (.ops [⟨(some 6), .mov, [.r 0], none, []⟩,
  ⟨(some 7), .len, [.r 6], none, [6]⟩,
  ⟨(some 8), .mov, [.k (.int .i64 0)], none, []⟩]) <|
.block 0 (.loop m74_0)) <|
.seq (.ops [⟨(some 4), .mov, [.k (.int .i64 (-1))], none, [0, 1, 7, 8, 9]⟩]) <|
.ret⟩
theorem c74 : cFn Try.prog 74 = some m74.bare := by kernel_rfl

def mp (f : FuncId) : Option MDef := match f with
  | 6 => some (.code m6)
  | 7 => some (.code m7)
  | 8 => some (.code m8)
  | 9 => some (.code m9)
  | 22 => some (.code m22)
  | 23 => some (.code m23)
  | 24 => some (.code m24)
  | 25 => some (.code m25)
  | 26 => some (.code m26)
  | 27 => some (.code m27)
  | 28 => some (.code m28)
  | 29 => some (.code m29)
  | 30 => some (.code m30)
  | 31 => some (.code m31)
  | 32 => some (.code m32)
  | 33 => some (.code m33)
  | 34 => some (.code m34)
  | 35 => some (.code m35)
  | 36 => some (.code m36)
  | 66 => some (.code m66)
  | 67 => some (.code m67)
  | 68 => some (.code m68)
  | 69 => some (.code m69)
  | 74 => some (.code m74)
  | _ => none
theorem mp_code : ∀ f fn, mp f = some (.code fn) → cFn Try.prog f = some fn.bare := by
  intro f fn h
  unfold mp at h
  split at h
  · cases h; exact c6
  · cases h; exact c7
  · cases h; exact c8
  · cases h; exact c9
  · cases h; exact c22
  · cases h; exact c23
  · cases h; exact c24
  · cases h; exact c25
  · cases h; exact c26
  · cases h; exact c27
  · cases h; exact c28
  · cases h; exact c29
  · cases h; exact c30
  · cases h; exact c31
  · cases h; exact c32
  · cases h; exact c33
  · cases h; exact c34
  · cases h; exact c35
  · cases h; exact c36
  · cases h; exact c66
  · cases h; exact c67
  · cases h; exact c68
  · cases h; exact c69
  · cases h; exact c74
  · cases h
theorem mp_ok : MapOk Try.prog mp := ⟨by kernel_rfl, mp_code, fun f s h => by
  unfold mp at h
  split at h <;> cases h⟩
end Go.Mod

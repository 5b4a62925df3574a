/- The code of what a set is asked, over the numbers of what it calls: for every seat. Printed by wip/tool. -/
import Derived.Test.YthpeamllfledkaaGreatDoorGrE
set_option linter.unusedVariables false
namespace Go.Mod

/-- 'swingbridge/task.between' -/
def cBetween : MFn := ⟨[.tmp 6], .seq (.ops [⟨(some 6), .mov, [.k (.bool false)], none, [6]⟩]) <|
.seq (.ops [⟨(some 7), .mov, [.r 0], none, []⟩,
  ⟨(some 8), .mov, [.r 1], none, [1]⟩,
  ⟨(some 9), .bin .geq, [.r 7, .r 8], none, [7, 8]⟩,
  ⟨(some 10), .mov, [.r 9], none, [9]⟩,
  ⟨(some 11), .mov, [.r 0], (some (10, true)), [0]⟩,
  ⟨(some 12), .mov, [.r 2], (some (10, true)), [2]⟩,
  ⟨(some 13), .bin .leq, [.r 11, .r 12], (some (10, true)), [11, 12]⟩,
  ⟨(some 14), .pick, [.r 10, .r 13, .k (.bool false)], none, [10, 13]⟩,
  ⟨(some 6), .mov, [.r 14], none, [14]⟩]) <|
.ret⟩

/-- 'swingbridge/words.Name' -/
def cNameP_0 : MCode := .seq (.ops [⟨(some 9), .bin .lss, [.r 8, .r 7], none, []⟩]) <|
    .seq (.cond (.r 9)
      (.skip)
      (.exit 0)) <|
    .seq (.block 1 (.seq (.ops [⟨(some 10), .mov, [.r 8], none, [9]⟩,
        ⟨(some 3), .mov, [.r 10], none, [10]⟩]) <|
      .seq (.ops [⟨(some 11), .mov, [.r 0], none, []⟩,
        ⟨(some 12), .mov, [.r 3], none, []⟩,
        ⟨(some 13), .idxs, [.r 11, .r 12], none, [11, 12]⟩,
        ⟨(some 4), .mov, [.r 13], none, [13]⟩]) <|
      .seq (.ops [⟨(some 14), .mov, [.r 4], none, []⟩,
        ⟨(some 15), .bin .geq, [.r 14, .k (.int .u8 48)], none, [14]⟩,
        ⟨(some 16), .mov, [.r 15], none, [15]⟩,
        ⟨(some 17), .mov, [.r 4], (some (16, true)), []⟩,
        ⟨(some 18), .bin .leq, [.r 17, .k (.int .u8 57)], (some (16, true)), [17]⟩,
        ⟨(some 19), .pick, [.r 16, .r 18, .k (.bool false)], none, [16, 18]⟩,
        ⟨(some 5), .mov, [.r 19], none, [19]⟩]) <|
      .seq (.ops [⟨(some 20), .mov, [.r 4], none, []⟩,
        ⟨(some 21), .bin .lss, [.r 20, .k (.int .u8 97)], none, [20]⟩,
        ⟨(some 22), .mov, [.r 21], none, [21]⟩,
        ⟨(some 23), .mov, [.r 4], (some (22, false)), [4]⟩,
        ⟨(some 24), .bin .gtr, [.r 23, .k (.int .u8 122)], (some (22, false)), [23]⟩,
        ⟨(some 25), .pick, [.r 22, .k (.bool true), .r 24], none, [22, 24]⟩,
        ⟨(some 26), .mov, [.r 25], none, [25]⟩,
        ⟨(some 27), .mov, [.r 3], (some (26, true)), [3]⟩,
        ⟨(some 28), .bin .eql, [.r 27, .k (.int .i64 0)], (some (26, true)), [27]⟩,
        ⟨(some 29), .mov, [.r 28], (some (26, true)), [28]⟩,
        ⟨(some 30), .mov, [.r 5], (some (29, false)), [5]⟩,
        ⟨(some 31), .un .not, [.r 30], (some (29, false)), [30]⟩,
        ⟨(some 32), .pick, [.r 29, .k (.bool true), .r 31], (some (26, true)), [29, 31]⟩,
        ⟨(some 33), .pick, [.r 26, .r 32, .k (.bool false)], none, [26, 32]⟩]) <|
      .cond (.r 33)
        (.seq (.ops [⟨(some 2), .mov, [.k (.bool false)], none, [0, 7, 8, 33]⟩]) <|
        .ret)
        (.skip))) <|
    .ops [⟨(some 34), .bin .add, [.r 8, .k (.int .i64 1)], none, [8, 33]⟩,
      ⟨(some 8), .mov, [.r 34], none, [34]⟩]
def cNameP : MFn := ⟨[.tmp 2], .seq (.ops [⟨(some 2), .mov, [.k (.bool false)], none, [2]⟩]) <|
.seq (.seq (.ops [⟨(some 6), .mov, [.r 0], none, []⟩,
  ⟨(some 7), .lens, [.r 6], none, [6]⟩,
  ⟨(some 8), .mov, [.k (.int .i64 0)], none, []⟩]) <|
.block 0 (.loop cNameP_0)) <|
.seq (.ops [⟨(some 35), .mov, [.r 0], none, [7, 8, 9]⟩,
  ⟨(some 36), .bin .neq, [.r 35, .k (.string ⟨#[]⟩)], none, [35]⟩,
  ⟨(some 37), .mov, [.r 36], none, [36]⟩,
  ⟨(some 38), .mov, [.r 0], (some (37, true)), [0]⟩,
  ⟨(some 39), .lens, [.r 38], (some (37, true)), [38]⟩,
  ⟨(some 40), .bin .leq, [.r 39, .k (.int .i64 8)], (some (37, true)), [39]⟩,
  ⟨(some 41), .pick, [.r 37, .r 40, .k (.bool false)], none, [37, 40]⟩,
  ⟨(some 2), .mov, [.r 41], none, [41]⟩]) <|
.ret⟩

/-- 'swingbridge/swingbridgeref7.Name' -/
def cNameR_0 : MCode := .seq (.seq (.ops [⟨(some 5), .mov, [.r 3], none, []⟩,
      ⟨(some 6), .mov, [.r 0], none, []⟩,
      ⟨(some 7), .lens, [.r 6], none, [6]⟩,
      ⟨(some 8), .bin .lss, [.r 5, .r 7], none, [5, 7]⟩]) <|
    .cond (.r 8)
      (.skip)
      (.exit 0)) <|
    .seq (.block 1 (.seq (.ops [⟨(some 11), .mov, [.r 0], none, [8]⟩,
        ⟨(some 12), .mov, [.r 3], none, []⟩,
        ⟨(some 13), .idxs, [.r 11, .r 12], none, [11, 12]⟩,
        ⟨(some 4), .mov, [.r 13], none, [13]⟩]) <|
      .seq (.ops [⟨(some 14), .mov, [.r 4], none, []⟩,
        ⟨(some 15), .bin .lss, [.r 14, .k (.int .u8 97)], none, [14]⟩,
        ⟨(some 16), .mov, [.r 15], none, [15]⟩,
        ⟨(some 17), .mov, [.r 4], (some (16, false)), []⟩,
        ⟨(some 18), .bin .gtr, [.r 17, .k (.int .u8 122)], (some (16, false)), [17]⟩,
        ⟨(some 19), .pick, [.r 16, .k (.bool true), .r 18], none, [16, 18]⟩,
        ⟨(some 20), .mov, [.r 19], none, [19]⟩,
        ⟨(some 21), .mov, [.r 4], (some (20, true)), []⟩,
        ⟨(some 22), .bin .lss, [.r 21, .k (.int .u8 48)], (some (20, true)), [21]⟩,
        ⟨(some 23), .mov, [.r 22], (some (20, true)), [22]⟩,
        ⟨(some 24), .mov, [.r 4], (some (23, false)), [4]⟩,
        ⟨(some 25), .bin .gtr, [.r 24, .k (.int .u8 57)], (some (23, false)), [24]⟩,
        ⟨(some 26), .pick, [.r 23, .k (.bool true), .r 25], (some (20, true)), [23, 25]⟩,
        ⟨(some 27), .mov, [.r 26], (some (20, true)), [26]⟩,
        ⟨(some 28), .mov, [.r 3], (some (27, false)), []⟩,
        ⟨(some 29), .bin .eql, [.r 28, .k (.int .i64 0)], (some (27, false)), [28]⟩,
        ⟨(some 30), .pick, [.r 27, .k (.bool true), .r 29], (some (20, true)), [27, 29]⟩,
        ⟨(some 31), .pick, [.r 20, .r 30, .k (.bool false)], none, [20, 30]⟩]) <|
      .cond (.r 31)
        (.seq (.ops [⟨(some 2), .mov, [.k (.bool false)], none, [0, 3, 31]⟩]) <|
        .ret)
        (.skip))) <|
    .ops [⟨(some 9), .mov, [.r 3], none, [3, 31]⟩,
      ⟨(some 10), .bin .add, [.r 9, .k (.int .i64 1)], none, [9]⟩,
      ⟨(some 3), .mov, [.r 10], none, [10]⟩]
def cNameR : MFn := ⟨[.tmp 2], .seq (.ops [⟨(some 2), .mov, [.k (.bool false)], none, [2]⟩]) <|
.seq (.seq (.ops [⟨(some 3), .mov, [.k (.int .i64 0)], none, []⟩]) <|
.block 0 (.loop cNameR_0)) <|
.seq (.ops [⟨(some 32), .mov, [.r 0], none, [3, 8]⟩,
  ⟨(some 33), .lens, [.r 32], none, [32]⟩,
  ⟨(some 34), .bin .geq, [.r 33, .k (.int .i64 1)], none, [33]⟩,
  ⟨(some 35), .mov, [.r 34], none, [34]⟩,
  ⟨(some 36), .mov, [.r 0], (some (35, true)), [0]⟩,
  ⟨(some 37), .lens, [.r 36], (some (35, true)), [36]⟩,
  ⟨(some 38), .bin .leq, [.r 37, .k (.int .i64 8)], (some (35, true)), [37]⟩,
  ⟨(some 39), .pick, [.r 35, .r 38, .k (.bool false)], none, [35, 38]⟩,
  ⟨(some 2), .mov, [.r 39], none, [39]⟩]) <|
.ret⟩

/-- 'slices.IndexFunc[[]int,int]' -/
def cIxI_0 : MCode := .seq (.ops [⟨(some 9), .bin .lss, [.r 8, .r 7], none, []⟩]) <|
    .seq (.cond (.r 9)
      (.skip)
      (.exit 0)) <|
    .seq (.block 1 (.seq (.ops [⟨(some 10), .mov, [.r 8], none, [9]⟩,
        ⟨(some 5), .mov, [.r 10], none, [10]⟩]) <|
      .seq (.ops [⟨(some 11), .mov, [.r 1], none, []⟩,
        ⟨(some 12), .mov, [.r 0], none, []⟩,
        ⟨(some 13), .mov, [.r 5], none, []⟩,
        ⟨(some 14), .ia 1, [.r 12, .r 13], none, [12, 13]⟩,
        ⟨(some 15), .ld none, [.r 14], none, [14]⟩,
        ⟨(some 16), .callv, [.r 11, .r 15], none, [11, 15]⟩]) <|
      .cond (.r 16)
        (.seq (.ops [⟨(some 17), .mov, [.r 5], none, [0, 1, 5, 7, 8, 16]⟩,
          ⟨(some 4), .mov, [.r 17], none, [17]⟩]) <|
        .ret)
        (.skip))) <|
    .ops [⟨(some 18), .bin .add, [.r 8, .k (.int .i64 1)], none, [5, 8, 16]⟩,
      ⟨(some 8), .mov, [.r 18], none, [18]⟩]
def cIxI : MFn := ⟨[.tmp 4], .seq (.ops [⟨(some 4), .mov, [.k (.int .i64 0)], none, [4]⟩]) <|
.seq (.seq (.ops [⟨(some 6), .mov, [.r 0], none, []⟩,
  ⟨(some 7), .len, [.r 6], none, [6]⟩,
  ⟨(some 8), .mov, [.k (.int .i64 0)], none, []⟩]) <|
.block 0 (.loop cIxI_0)) <|
.seq (.ops [⟨(some 4), .mov, [.k (.int .i64 (-1))], none, [0, 1, 7, 8, 9]⟩]) <|
.ret⟩

/-- 'slices.ContainsFunc[[]int,int]' -/
def cAnyI (fi : FuncId) : MFn := ⟨[.tmp 4], .seq (.ops [⟨(some 4), .mov, [.k (.bool false)], none, [4]⟩]) <|
.seq (.ops [⟨(some 5), .mov, [.r 0], none, [0]⟩,
  ⟨(some 6), .mov, [.r 1], none, [1]⟩,
  ⟨(some 7), .call fi, [.r 5, .r 6], none, [5, 6]⟩,
  ⟨(some 8), .bin .geq, [.r 7, .k (.int .i64 0)], none, [7]⟩,
  ⟨(some 4), .mov, [.r 8], none, [8]⟩]) <|
.ret⟩

/-- 'slices.IndexFunc[[]swingbridge/api.Task,swingbridge/api.Task]' -/
def cIxT_0 : MCode := .seq (.ops [⟨(some 9), .bin .lss, [.r 8, .r 7], none, []⟩]) <|
    .seq (.cond (.r 9)
      (.skip)
      (.exit 0)) <|
    .seq (.block 1 (.seq (.ops [⟨(some 10), .mov, [.r 8], none, [9]⟩,
        ⟨(some 5), .mov, [.r 10], none, [10]⟩]) <|
      .seq (.ops [⟨(some 11), .mov, [.r 1], none, []⟩,
        ⟨(some 12), .mov, [.r 0], none, []⟩,
        ⟨(some 13), .mov, [.r 5], none, []⟩,
        ⟨(some 14), .ia 6, [.r 12, .r 13], none, [12, 13]⟩,
        ⟨(some 15), .ld (some 6), [.r 14], none, [14]⟩,
        ⟨(some 16), .callv, [.r 11, .r 15], none, [11, 15]⟩]) <|
      .cond (.r 16)
        (.seq (.ops [⟨(some 17), .mov, [.r 5], none, [0, 1, 5, 7, 8, 16]⟩,
          ⟨(some 4), .mov, [.r 17], none, [17]⟩]) <|
        .ret)
        (.skip))) <|
    .ops [⟨(some 18), .bin .add, [.r 8, .k (.int .i64 1)], none, [5, 8, 16]⟩,
      ⟨(some 8), .mov, [.r 18], none, [18]⟩]
def cIxT : MFn := ⟨[.tmp 4], .seq (.ops [⟨(some 4), .mov, [.k (.int .i64 0)], none, [4]⟩]) <|
.seq (.seq (.ops [⟨(some 6), .mov, [.r 0], none, []⟩,
  ⟨(some 7), .len, [.r 6], none, [6]⟩,
  ⟨(some 8), .mov, [.k (.int .i64 0)], none, []⟩]) <|
.block 0 (.loop cIxT_0)) <|
.seq (.ops [⟨(some 4), .mov, [.k (.int .i64 (-1))], none, [0, 1, 7, 8, 9]⟩]) <|
.ret⟩

/-- 'slices.ContainsFunc[[]swingbridge/api.Task,swingbridge/api.Task]' -/
def cAnyT (fi : FuncId) : MFn := ⟨[.tmp 4], .seq (.ops [⟨(some 4), .mov, [.k (.bool false)], none, [4]⟩]) <|
.seq (.ops [⟨(some 5), .mov, [.r 0], none, [0]⟩,
  ⟨(some 6), .mov, [.r 1], none, [1]⟩,
  ⟨(some 7), .call fi, [.r 5, .r 6], none, [5, 6]⟩,
  ⟨(some 8), .bin .geq, [.r 7, .k (.int .i64 0)], none, [7]⟩,
  ⟨(some 4), .mov, [.r 8], none, [8]⟩]) <|
.ret⟩

/-- 'swingbridge/task.placed$1' -/
def cCoreBad (fb : FuncId) : MFn := ⟨[.tmp 2], .seq (.ops [⟨(some 2), .mov, [.k (.bool false)], none, [2]⟩]) <|
.seq (.ops [⟨(some 3), .mov, [.r 0], none, [0]⟩,
  ⟨(some 4), .call fb, [.r 3, .k (.int .i64 1), .k (.int .i64 3)], none, [3]⟩,
  ⟨(some 5), .un .not, [.r 4], none, [4]⟩,
  ⟨(some 2), .mov, [.r 5], none, [5]⟩]) <|
.ret⟩

/-- 'swingbridge/task.placed$2' -/
def cHomeBad (fb : FuncId) : MFn := ⟨[.tmp 3], .seq (.ops [⟨(some 3), .mov, [.k (.bool false)], none, [3]⟩]) <|
.seq (.ops [⟨(some 4), .mov, [.r 0], none, [0]⟩,
  ⟨(some 5), .fa 1, [.r 1], none, []⟩,
  ⟨(some 6), .ld none, [.r 5], none, [5]⟩,
  ⟨(some 7), .len, [.r 6], none, [6]⟩,
  ⟨(some 8), .bin .sub, [.r 7, .k (.int .i64 1)], none, [7]⟩,
  ⟨(some 9), .call fb, [.r 4, .k (.int .i64 0), .r 8], none, [4, 8]⟩,
  ⟨(some 10), .un .not, [.r 9], none, [9]⟩,
  ⟨(some 3), .mov, [.r 10], none, [10]⟩]) <|
.ret⟩

/-- 'swingbridge/task.one$1' -/
def cTwice : MFn := ⟨[.tmp 3], .seq (.ops [⟨(some 2), .box, [.r 0], none, [0]⟩,
  ⟨(some 3), .mov, [.k (.bool false)], none, [3]⟩]) <|
.seq (.ops [⟨(some 4), .fa 0, [.r 2], none, []⟩,
  ⟨(some 5), .ld none, [.r 4], none, [4]⟩,
  ⟨(some 6), .fa 0, [.r 1], none, []⟩,
  ⟨(some 7), .ld none, [.r 6], none, [6]⟩,
  ⟨(some 8), .bin .eql, [.r 5, .r 7], none, [5, 7]⟩,
  ⟨(some 9), .mov, [.r 8], none, [8]⟩,
  ⟨(some 10), .fa 3, [.r 2], (some (9, false)), [2]⟩,
  ⟨(some 11), .ld none, [.r 10], (some (9, false)), [10]⟩,
  ⟨(some 12), .fa 3, [.r 1], (some (9, false)), []⟩,
  ⟨(some 13), .ld none, [.r 12], (some (9, false)), [12]⟩,
  ⟨(some 14), .bin .eql, [.r 11, .r 13], (some (9, false)), [11, 13]⟩,
  ⟨(some 15), .pick, [.r 9, .k (.bool true), .r 14], none, [9, 14]⟩,
  ⟨(some 3), .mov, [.r 15], none, [15]⟩]) <|
.ret⟩

/-- 'swingbridge/task.placed' -/
def cPlaced (fb fc fh fa : FuncId) : MFn := ⟨[.tmp 2], .seq (.ops [⟨(some 1), .box, [.r 0], none, [0]⟩,
  ⟨(some 2), .mov, [.k (.bool false)], none, [2]⟩]) <|
.seq (.ops [⟨(some 6), .fa 1, [.r 1], none, []⟩,
  ⟨(some 7), .ld none, [.r 6], none, [6]⟩,
  ⟨(some 8), .len, [.r 7], none, [7]⟩,
  ⟨(some 9), .call fb, [.r 8, .k (.int .i64 1), .k (.int .i64 3)], none, [8]⟩,
  ⟨(some 10), .mov, [.r 9], none, [9]⟩,
  ⟨(some 11), .fa 2, [.r 1], (some (10, true)), []⟩,
  ⟨(some 12), .ld none, [.r 11], (some (10, true)), [11]⟩,
  ⟨(some 13), .len, [.r 12], (some (10, true)), [12]⟩,
  ⟨(some 14), .bin .leq, [.r 13, .k (.int .i64 4)], (some (10, true)), [13]⟩,
  ⟨(some 15), .pick, [.r 10, .r 14, .k (.bool false)], none, [10, 14]⟩,
  ⟨(some 3), .mov, [.r 15], none, [15]⟩]) <|
.seq (.ops [⟨(some 4), .mov, [.k (.func (.func fc) #[] #[])], none, []⟩]) <|
.seq (.ops [⟨(some 16), .mkfunc fh, [.r 1], none, []⟩,
  ⟨(some 5), .mov, [.r 16], none, [16]⟩]) <|
.seq (.ops [⟨(some 17), .mov, [.r 3], none, [3]⟩,
  ⟨(some 18), .mov, [.r 17], none, [17]⟩,
  ⟨(some 19), .fa 1, [.r 1], (some (18, true)), []⟩,
  ⟨(some 20), .ld none, [.r 19], (some (18, true)), [19]⟩,
  ⟨(some 21), .mov, [.r 4], (some (18, true)), [4]⟩,
  ⟨(some 22), .call fa, [.r 20, .r 21], (some (18, true)), [20, 21]⟩,
  ⟨(some 23), .un .not, [.r 22], (some (18, true)), [22]⟩,
  ⟨(some 24), .pick, [.r 18, .r 23, .k (.bool false)], none, [18, 23]⟩,
  ⟨(some 25), .mov, [.r 24], none, [24]⟩,
  ⟨(some 26), .fa 2, [.r 1], (some (25, true)), [1]⟩,
  ⟨(some 27), .ld none, [.r 26], (some (25, true)), [26]⟩,
  ⟨(some 28), .mov, [.r 5], (some (25, true)), [5]⟩,
  ⟨(some 29), .call fa, [.r 27, .r 28], (some (25, true)), [27, 28]⟩,
  ⟨(some 30), .un .not, [.r 29], (some (25, true)), [29]⟩,
  ⟨(some 31), .pick, [.r 25, .r 30, .k (.bool false)], none, [25, 30]⟩,
  ⟨(some 2), .mov, [.r 31], none, [31]⟩]) <|
.ret⟩

/-- 'swingbridge/task.parted' -/
def cParted_0 (fb : FuncId) : MCode := .seq (.ops [⟨(some 10), .bin .lss, [.r 9, .r 8], none, []⟩]) <|
    .seq (.cond (.r 10)
      (.skip)
      (.exit 0)) <|
    .seq (.block 1 (.seq (.ops [⟨(some 11), .ia 3, [.r 7, .r 9], none, [10]⟩,
        ⟨(some 12), .ld (some 3), [.r 11], none, [11]⟩,
        ⟨(some 6), .new 0 [.int .i64 0, .int .i64 0, .int .i64 0], [], none, []⟩,
        ⟨none, .st 3, [.r 6, .r 12], none, [12]⟩]) <|
      .seq (.block 2 (.seq (.ops [⟨(some 14), .fa 0, [.r 6], none, []⟩,
          ⟨(some 15), .ld none, [.r 14], none, [14]⟩,
          ⟨(some 16), .call fb, [.r 15, .k (.int .i64 1), .k (.int .i64 3)], none, [15]⟩,
          ⟨(some 17), .un .not, [.r 16], none, [16]⟩,
          ⟨(some 18), .mov, [.r 17], none, [17]⟩,
          ⟨(some 19), .fa 1, [.r 6], (some (18, false)), []⟩,
          ⟨(some 20), .ld none, [.r 19], (some (18, false)), [19]⟩,
          ⟨(some 21), .call fb, [.r 20, .k (.int .i64 1), .k (.int .i64 60)], (some (18, false)), [20]⟩,
          ⟨(some 22), .un .not, [.r 21], (some (18, false)), [21]⟩,
          ⟨(some 23), .pick, [.r 18, .k (.bool true), .r 22], none, [18, 22]⟩,
          ⟨(some 13), .mov, [.r 23], none, [23]⟩]) <|
        .cond (.r 13)
          (.seq (.ops [⟨(some 4), .mov, [.k (.bool false)], none, [1, 2, 6, 7, 8, 9, 13]⟩]) <|
          .ret)
          (.seq (.ops [⟨(some 25), .fa 0, [.r 6], none, [13]⟩,
            ⟨(some 26), .ld none, [.r 25], none, [25]⟩,
            ⟨(some 27), .bin .eql, [.r 26, .k (.int .i64 3)], none, [26]⟩,
            ⟨(some 28), .mov, [.r 27], none, [27]⟩,
            ⟨(some 29), .fa 2, [.r 6], (some (28, true)), []⟩,
            ⟨(some 30), .ld none, [.r 29], (some (28, true)), [29]⟩,
            ⟨(some 31), .fa 2, [.r 2], (some (28, true)), []⟩,
            ⟨(some 32), .ld none, [.r 31], (some (28, true)), [31]⟩,
            ⟨(some 33), .len, [.r 32], (some (28, true)), [32]⟩,
            ⟨(some 34), .bin .sub, [.r 33, .k (.int .i64 1)], (some (28, true)), [33]⟩,
            ⟨(some 35), .call fb, [.r 30, .k (.int .i64 0), .r 34], (some (28, true)), [30, 34]⟩,
            ⟨(some 36), .pick, [.r 28, .r 35, .k (.bool false)], none, [28, 35]⟩,
            ⟨(some 24), .mov, [.r 36], none, [36]⟩]) <|
          .cond (.r 24)
            (.exit 1)
            (.seq (.ops [⟨(some 38), .fa 0, [.r 6], none, [24]⟩,
              ⟨(some 39), .ld none, [.r 38], none, [38]⟩,
              ⟨(some 40), .bin .neq, [.r 39, .k (.int .i64 3)], none, [39]⟩,
              ⟨(some 41), .mov, [.r 40], none, [40]⟩,
              ⟨(some 42), .fa 2, [.r 6], (some (41, true)), [6]⟩,
              ⟨(some 43), .ld none, [.r 42], (some (41, true)), [42]⟩,
              ⟨(some 44), .bin .eql, [.r 43, .k (.int .i64 0)], (some (41, true)), [43]⟩,
              ⟨(some 45), .pick, [.r 41, .r 44, .k (.bool false)], none, [41, 44]⟩,
              ⟨(some 37), .mov, [.r 45], none, [45]⟩]) <|
            .cond (.r 37)
              (.exit 1)
              (.skip))))) <|
      .seq (.ops [⟨(some 4), .mov, [.k (.bool false)], none, [1, 2, 7, 8, 9, 37]⟩]) <|
      .ret)) <|
    .ops [⟨(some 46), .bin .add, [.r 9, .k (.int .i64 1)], none, [6, 9, 24, 37]⟩,
      ⟨(some 9), .mov, [.r 46], none, [46]⟩]
def cParted (fb : FuncId) : MFn := ⟨[.tmp 4], .seq (.ops [⟨(some 2), .box, [.r 0], none, [0]⟩,
  ⟨(some 4), .mov, [.k (.bool false)], none, [4]⟩]) <|
.seq (.skip) <|
.seq (.seq (.ops [⟨(some 7), .mov, [.r 1], none, []⟩,
  ⟨(some 8), .len, [.r 7], none, []⟩,
  ⟨(some 9), .mov, [.k (.int .i64 0)], none, []⟩]) <|
.block 0 (.loop (cParted_0 fb))) <|
.seq (.ops [⟨(some 47), .mov, [.r 1], none, [1, 2, 7, 8, 9, 10]⟩,
  ⟨(some 48), .len, [.r 47], none, [47]⟩,
  ⟨(some 49), .call fb, [.r 48, .k (.int .i64 1), .k (.int .i64 6)], none, [48]⟩,
  ⟨(some 4), .mov, [.r 49], none, [49]⟩]) <|
.ret⟩

/-- 'swingbridge/task.one' -/
def cOne (fb fn ft fa fp : FuncId) : MFn := ⟨[.tmp 4], .seq (.ops [⟨(some 2), .box, [.r 0], none, [0]⟩,
  ⟨(some 4), .mov, [.k (.int .i64 0)], none, [4]⟩]) <|
.seq (.ops [⟨(some 7), .fa 3, [.r 2], none, []⟩,
  ⟨(some 8), .ld none, [.r 7], none, [7]⟩,
  ⟨(some 9), .mov, [.r 1], none, []⟩,
  ⟨(some 10), .ia 6, [.r 8, .r 9], none, [8, 9]⟩,
  ⟨(some 11), .ld (some 6), [.r 10], none, [10]⟩,
  ⟨(some 5), .new 0 [.string ⟨#[]⟩, .int .i64 0, .int .i64 0, .int .i64 0, .int .i64 0, .slice none 0 0], [], none, []⟩,
  ⟨none, .st 6, [.r 5, .r 11], none, [11]⟩]) <|
.seq (.ops [⟨(some 12), .mkfunc ft, [.r 5], none, []⟩,
  ⟨(some 6), .mov, [.r 12], none, [12]⟩]) <|
.seq (.block 0 (.seq (.ops [⟨(some 14), .fa 0, [.r 5], none, []⟩,
    ⟨(some 15), .ld none, [.r 14], none, [14]⟩,
    ⟨(some 16), .call fn, [.r 15], none, [15]⟩,
    ⟨(some 17), .un .not, [.r 16], none, [16]⟩,
    ⟨(some 18), .mov, [.r 17], none, [17]⟩,
    ⟨(some 19), .fa 1, [.r 5], (some (18, false)), []⟩,
    ⟨(some 20), .ld none, [.r 19], (some (18, false)), [19]⟩,
    ⟨(some 21), .call fb, [.r 20, .k (.int .i64 1), .k (.int .i64 3000)], (some (18, false)), [20]⟩,
    ⟨(some 22), .un .not, [.r 21], (some (18, false)), [21]⟩,
    ⟨(some 23), .pick, [.r 18, .k (.bool true), .r 22], none, [18, 22]⟩,
    ⟨(some 24), .mov, [.r 23], none, [23]⟩,
    ⟨(some 25), .fa 2, [.r 5], (some (24, false)), []⟩,
    ⟨(some 26), .ld none, [.r 25], (some (24, false)), [25]⟩,
    ⟨(some 27), .fa 1, [.r 5], (some (24, false)), []⟩,
    ⟨(some 28), .ld none, [.r 27], (some (24, false)), [27]⟩,
    ⟨(some 29), .call fb, [.r 26, .k (.int .i64 1), .r 28], (some (24, false)), [26, 28]⟩,
    ⟨(some 30), .un .not, [.r 29], (some (24, false)), [29]⟩,
    ⟨(some 31), .pick, [.r 24, .k (.bool true), .r 30], none, [24, 30]⟩,
    ⟨(some 32), .mov, [.r 31], none, [31]⟩,
    ⟨(some 33), .fa 3, [.r 5], (some (32, false)), []⟩,
    ⟨(some 34), .ld none, [.r 33], (some (32, false)), [33]⟩,
    ⟨(some 35), .call fb, [.r 34, .k (.int .i64 1), .k (.int .i64 1000)], (some (32, false)), [34]⟩,
    ⟨(some 36), .un .not, [.r 35], (some (32, false)), [35]⟩,
    ⟨(some 37), .pick, [.r 32, .k (.bool true), .r 36], none, [32, 36]⟩,
    ⟨(some 13), .mov, [.r 37], none, [37]⟩]) <|
  .cond (.r 13)
    (.seq (.ops [⟨(some 4), .mov, [.k (.int .i64 10)], none, [1, 2, 5, 6, 13]⟩]) <|
    .ret)
    (.seq (.ops [⟨(some 39), .fa 4, [.r 5], none, [13]⟩,
      ⟨(some 40), .ld none, [.r 39], none, [39]⟩,
      ⟨(some 41), .fa 1, [.r 2], none, []⟩,
      ⟨(some 42), .ld none, [.r 41], none, [41]⟩,
      ⟨(some 43), .len, [.r 42], none, [42]⟩,
      ⟨(some 44), .bin .sub, [.r 43, .k (.int .i64 1)], none, [43]⟩,
      ⟨(some 45), .call fb, [.r 40, .k (.int .i64 0), .r 44], none, [40, 44]⟩,
      ⟨(some 46), .un .not, [.r 45], none, [45]⟩,
      ⟨(some 38), .mov, [.r 46], none, [46]⟩]) <|
    .cond (.r 38)
      (.seq (.ops [⟨(some 4), .mov, [.k (.int .i64 16)], none, [1, 2, 5, 6, 38]⟩]) <|
      .ret)
      (.seq (.ops [⟨(some 48), .fa 3, [.r 2], none, [38]⟩,
        ⟨(some 49), .ld none, [.r 48], none, [48]⟩,
        ⟨(some 50), .mov, [.r 1], none, [1]⟩,
        ⟨(some 51), .sl 6 false true false, [.r 49, .r 50], none, [49, 50]⟩,
        ⟨(some 52), .mov, [.r 6], none, [6]⟩,
        ⟨(some 53), .call fa, [.r 51, .r 52], none, [51, 52]⟩,
        ⟨(some 47), .mov, [.r 53], none, [53]⟩]) <|
      .cond (.r 47)
        (.seq (.ops [⟨(some 4), .mov, [.k (.int .i64 17)], none, [2, 5, 47]⟩]) <|
        .ret)
        (.seq (.ops [⟨(some 55), .ld (some 4), [.r 2], none, [2, 47]⟩,
          ⟨(some 56), .fa 5, [.r 5], none, [5]⟩,
          ⟨(some 57), .ld none, [.r 56], none, [56]⟩,
          ⟨(some 58), .call fp, [.r 55, .r 57], none, [55, 57]⟩,
          ⟨(some 59), .un .not, [.r 58], none, [58]⟩,
          ⟨(some 54), .mov, [.r 59], none, [59]⟩]) <|
        .cond (.r 54)
          (.seq (.ops [⟨(some 4), .mov, [.k (.int .i64 15)], none, [54]⟩]) <|
          .ret)
          (.skip)))))) <|
.seq (.ops [⟨(some 4), .mov, [.k (.int .i64 0)], none, [54]⟩]) <|
.ret⟩

/-- 'swingbridge/task.Check' -/
def cCheckP_0 (fb fq fo : FuncId) : MCode := .seq (.ops [⟨(some 29), .bin .lss, [.r 28, .r 27], none, []⟩]) <|
    .seq (.cond (.r 29)
      (.skip)
      (.exit 1)) <|
    .seq (.block 2 (.seq (.ops [⟨(some 30), .mov, [.r 28], none, [29]⟩,
        ⟨(some 4), .mov, [.r 30], none, [30]⟩]) <|
      .seq (.ops [⟨(some 31), .ld (some 4), [.r 1], none, []⟩,
        ⟨(some 32), .mov, [.r 4], none, []⟩,
        ⟨(some 33), .call fo, [.r 31, .r 32], none, [31, 32]⟩,
        ⟨(some 5), .mov, [.r 33], none, [33]⟩]) <|
      .seq (.ops [⟨(some 34), .mov, [.r 5], none, []⟩,
        ⟨(some 35), .bin .neq, [.r 34, .k (.int .i64 0)], none, [34]⟩]) <|
      .cond (.r 35)
        (.seq (.ops [⟨(some 36), .mov, [.r 4], none, [1, 4, 27, 28, 35]⟩,
          ⟨(some 37), .mov, [.r 5], none, [5]⟩,
          ⟨(some 2), .mov, [.r 36], none, [36]⟩,
          ⟨(some 3), .mov, [.r 37], none, [37]⟩]) <|
        .ret)
        (.skip))) <|
    .ops [⟨(some 38), .bin .add, [.r 28, .k (.int .i64 1)], none, [4, 5, 28, 35]⟩,
      ⟨(some 28), .mov, [.r 38], none, [38]⟩]
def cCheckP (fb fq fo : FuncId) : MFn := ⟨[.tmp 2, .tmp 3], .seq (.ops [⟨(some 1), .box, [.r 0], none, [0]⟩,
  ⟨(some 2), .mov, [.k (.int .i64 0)], none, [2]⟩,
  ⟨(some 3), .mov, [.k (.int .i64 0)], none, [3]⟩]) <|
.seq (.block 0 (.seq (.ops [⟨(some 7), .fa 0, [.r 1], none, []⟩,
    ⟨(some 8), .ld none, [.r 7], none, [7]⟩,
    ⟨(some 9), .call fb, [.r 8, .k (.int .i64 1), .k (.int .i64 3)], none, [8]⟩,
    ⟨(some 10), .un .not, [.r 9], none, [9]⟩,
    ⟨(some 6), .mov, [.r 10], none, [10]⟩]) <|
  .cond (.r 6)
    (.seq (.ops [⟨(some 2), .mov, [.k (.int .i64 (-1))], none, [1, 6]⟩,
      ⟨(some 3), .mov, [.k (.int .i64 10)], none, []⟩]) <|
    .ret)
    (.seq (.ops [⟨(some 12), .ld (some 4), [.r 1], none, [6]⟩,
      ⟨(some 13), .call fq, [.r 12], none, [12]⟩,
      ⟨(some 14), .un .not, [.r 13], none, [13]⟩,
      ⟨(some 11), .mov, [.r 14], none, [14]⟩]) <|
    .cond (.r 11)
      (.seq (.ops [⟨(some 2), .mov, [.k (.int .i64 (-1))], none, [1, 11]⟩,
        ⟨(some 3), .mov, [.k (.int .i64 16)], none, []⟩]) <|
      .ret)
      (.seq (.ops [⟨(some 16), .fa 3, [.r 1], none, [11]⟩,
        ⟨(some 17), .ld none, [.r 16], none, [16]⟩,
        ⟨(some 18), .len, [.r 17], none, [17]⟩,
        ⟨(some 19), .bin .gtr, [.r 18, .k (.int .i64 6)], none, [18]⟩,
        ⟨(some 15), .mov, [.r 19], none, [19]⟩]) <|
      .cond (.r 15)
        (.seq (.ops [⟨(some 2), .mov, [.k (.int .i64 (-1))], none, [1, 15]⟩,
          ⟨(some 3), .mov, [.k (.int .i64 11)], none, []⟩]) <|
        .ret)
        (.seq (.ops [⟨(some 21), .fa 3, [.r 1], none, [15]⟩,
          ⟨(some 22), .ld none, [.r 21], none, [21]⟩,
          ⟨(some 23), .len, [.r 22], none, [22]⟩,
          ⟨(some 24), .bin .eql, [.r 23, .k (.int .i64 0)], none, [23]⟩,
          ⟨(some 20), .mov, [.r 24], none, [24]⟩]) <|
        .cond (.r 20)
          (.seq (.ops [⟨(some 2), .mov, [.k (.int .i64 (-1))], none, [1, 20]⟩,
            ⟨(some 3), .mov, [.k (.int .i64 14)], none, []⟩]) <|
          .ret)
          (.skip)))))) <|
.seq (.seq (.ops [⟨(some 25), .fa 3, [.r 1], none, [20]⟩,
  ⟨(some 26), .ld none, [.r 25], none, [25]⟩,
  ⟨(some 27), .len, [.r 26], none, [26]⟩,
  ⟨(some 28), .mov, [.k (.int .i64 0)], none, []⟩]) <|
.block 1 (.loop (cCheckP_0 fb fq fo))) <|
.seq (.ops [⟨(some 2), .mov, [.k (.int .i64 (-1))], none, [1, 27, 28, 29]⟩,
  ⟨(some 3), .mov, [.k (.int .i64 0)], none, []⟩]) <|
.ret⟩

/-- 'swingbridge/swingbridgeref7.part' -/
def cPartR : MFn := ⟨[.tmp 4], .seq (.ops [⟨(some 2), .box, [.r 0], none, [0]⟩,
  ⟨(some 3), .box, [.r 1], none, [1]⟩,
  ⟨(some 4), .mov, [.k (.bool false)], none, [4]⟩]) <|
.seq (.seq (.ops [⟨(some 5), .fa 0, [.r 3], none, []⟩,
  ⟨(some 6), .ld none, [.r 5], none, [5]⟩,
  ⟨(some 7), .bin .lss, [.r 6, .k (.int .i64 1)], none, [6]⟩,
  ⟨(some 8), .mov, [.r 7], none, [7]⟩,
  ⟨(some 9), .fa 0, [.r 3], (some (8, false)), []⟩,
  ⟨(some 10), .ld none, [.r 9], (some (8, false)), [9]⟩,
  ⟨(some 11), .bin .gtr, [.r 10, .k (.int .i64 3)], (some (8, false)), [10]⟩,
  ⟨(some 12), .pick, [.r 8, .k (.bool true), .r 11], none, [8, 11]⟩,
  ⟨(some 13), .mov, [.r 12], none, [12]⟩,
  ⟨(some 14), .fa 1, [.r 3], (some (13, false)), []⟩,
  ⟨(some 15), .ld none, [.r 14], (some (13, false)), [14]⟩,
  ⟨(some 16), .bin .lss, [.r 15, .k (.int .i64 1)], (some (13, false)), [15]⟩,
  ⟨(some 17), .pick, [.r 13, .k (.bool true), .r 16], none, [13, 16]⟩,
  ⟨(some 18), .mov, [.r 17], none, [17]⟩,
  ⟨(some 19), .fa 1, [.r 3], (some (18, false)), []⟩,
  ⟨(some 20), .ld none, [.r 19], (some (18, false)), [19]⟩,
  ⟨(some 21), .bin .gtr, [.r 20, .k (.int .i64 60)], (some (18, false)), [20]⟩,
  ⟨(some 22), .pick, [.r 18, .k (.bool true), .r 21], none, [18, 21]⟩]) <|
.cond (.r 22)
  (.seq (.ops [⟨(some 4), .mov, [.k (.bool false)], none, [2, 3, 22]⟩]) <|
  .ret)
  (.skip)) <|
.seq (.ops [⟨(some 23), .fa 0, [.r 3], none, [22]⟩,
  ⟨(some 24), .ld none, [.r 23], none, [23]⟩,
  ⟨(some 25), .bin .eql, [.r 24, .k (.int .i64 3)], none, [24]⟩,
  ⟨(some 26), .mov, [.r 25], none, [25]⟩,
  ⟨(some 27), .fa 2, [.r 3], (some (26, true)), []⟩,
  ⟨(some 28), .ld none, [.r 27], (some (26, true)), [27]⟩,
  ⟨(some 29), .bin .geq, [.r 28, .k (.int .i64 0)], (some (26, true)), [28]⟩,
  ⟨(some 30), .pick, [.r 26, .r 29, .k (.bool false)], none, [26, 29]⟩,
  ⟨(some 31), .mov, [.r 30], none, [30]⟩,
  ⟨(some 32), .fa 2, [.r 3], (some (31, true)), []⟩,
  ⟨(some 33), .ld none, [.r 32], (some (31, true)), [32]⟩,
  ⟨(some 34), .fa 2, [.r 2], (some (31, true)), [2]⟩,
  ⟨(some 35), .ld none, [.r 34], (some (31, true)), [34]⟩,
  ⟨(some 36), .len, [.r 35], (some (31, true)), [35]⟩,
  ⟨(some 37), .bin .lss, [.r 33, .r 36], (some (31, true)), [33, 36]⟩,
  ⟨(some 38), .pick, [.r 31, .r 37, .k (.bool false)], none, [31, 37]⟩,
  ⟨(some 39), .mov, [.r 38], none, [38]⟩,
  ⟨(some 40), .fa 0, [.r 3], (some (39, false)), []⟩,
  ⟨(some 41), .ld none, [.r 40], (some (39, false)), [40]⟩,
  ⟨(some 42), .bin .neq, [.r 41, .k (.int .i64 3)], (some (39, false)), [41]⟩,
  ⟨(some 43), .mov, [.r 42], (some (39, false)), [42]⟩,
  ⟨(some 44), .fa 2, [.r 3], (some (43, true)), [3]⟩,
  ⟨(some 45), .ld none, [.r 44], (some (43, true)), [44]⟩,
  ⟨(some 46), .bin .eql, [.r 45, .k (.int .i64 0)], (some (43, true)), [45]⟩,
  ⟨(some 47), .pick, [.r 43, .r 46, .k (.bool false)], (some (39, false)), [43, 46]⟩,
  ⟨(some 48), .pick, [.r 39, .k (.bool true), .r 47], none, [39, 47]⟩,
  ⟨(some 4), .mov, [.r 48], none, [48]⟩]) <|
.ret⟩

/-- 'swingbridge/swingbridgeref7.task' -/
def cTaskR_0 (fn fp : FuncId) : MCode := .seq (.seq (.ops [⟨(some 95), .mov, [.r 7], none, []⟩,
      ⟨(some 96), .fa 5, [.r 5], none, []⟩,
      ⟨(some 97), .ld none, [.r 96], none, [96]⟩,
      ⟨(some 98), .len, [.r 97], none, [97]⟩,
      ⟨(some 99), .bin .lss, [.r 95, .r 98], none, [95, 98]⟩]) <|
    .cond (.r 99)
      (.skip)
      (.exit 2)) <|
    .seq (.block 3 (.seq (.draw [⟨(some 102), .ld (some 4), [.r 2], none, [99]⟩,
        ⟨(some 103), .fa 5, [.r 5], none, []⟩,
        ⟨(some 104), .ld none, [.r 103], none, [103]⟩,
        ⟨(some 105), .mov, [.r 7], none, []⟩,
        ⟨(some 106), .ia 3, [.r 104, .r 105], none, [104, 105]⟩,
        ⟨(some 107), .ld (some 3), [.r 106], none, [106]⟩,
        ⟨(some 108), .call fp, [.r 102, .r 107], none, [102, 107]⟩,
        ⟨(some 109), .un .not, [.r 108], none, [108]⟩] []) <|
      .cond (.r 109)
        (.seq (.ops [⟨(some 4), .mov, [.k (.int .i64 15)], none, [2, 5, 7, 109]⟩]) <|
        .ret)
        (.skip))) <|
    .ops [⟨(some 100), .mov, [.r 7], none, [7, 109]⟩,
      ⟨(some 101), .bin .add, [.r 100, .k (.int .i64 1)], none, [100]⟩,
      ⟨(some 7), .mov, [.r 101], none, [101]⟩]
def cTaskR_1 (fn fp : FuncId) : MCode := .seq (.seq (.ops [⟨(some 60), .mov, [.r 6], none, []⟩,
      ⟨(some 61), .mov, [.r 1], none, []⟩,
      ⟨(some 62), .bin .lss, [.r 60, .r 61], none, [60, 61]⟩]) <|
    .cond (.r 62)
      (.skip)
      (.exit 0)) <|
    .seq (.block 1 (.seq (.draw [⟨(some 65), .fa 3, [.r 2], none, [62]⟩,
        ⟨(some 66), .ld none, [.r 65], none, [65]⟩,
        ⟨(some 67), .mov, [.r 6], none, []⟩,
        ⟨(some 68), .ia 6, [.r 66, .r 67], none, [66, 67]⟩,
        ⟨(some 69), .fa 0, [.r 68], none, [68]⟩,
        ⟨(some 70), .ld none, [.r 69], none, [69]⟩,
        ⟨(some 71), .fa 0, [.r 5], none, []⟩,
        ⟨(some 72), .ld none, [.r 71], none, [71]⟩,
        ⟨(some 73), .bin .eql, [.r 70, .r 72], none, [70, 72]⟩,
        ⟨(some 74), .mov, [.r 73], none, [73]⟩,
        ⟨(some 75), .fa 3, [.r 2], (some (74, false)), []⟩,
        ⟨(some 76), .ld none, [.r 75], (some (74, false)), [75]⟩,
        ⟨(some 77), .mov, [.r 6], (some (74, false)), []⟩,
        ⟨(some 78), .ia 6, [.r 76, .r 77], (some (74, false)), [76, 77]⟩,
        ⟨(some 79), .fa 3, [.r 78], (some (74, false)), [78]⟩,
        ⟨(some 80), .ld none, [.r 79], (some (74, false)), [79]⟩,
        ⟨(some 81), .fa 3, [.r 5], (some (74, false)), []⟩,
        ⟨(some 82), .ld none, [.r 81], (some (74, false)), [81]⟩,
        ⟨(some 83), .bin .eql, [.r 80, .r 82], (some (74, false)), [80, 82]⟩,
        ⟨(some 84), .pick, [.r 74, .k (.bool true), .r 83], none, [74, 83]⟩] []) <|
      .cond (.r 84)
        (.seq (.ops [⟨(some 4), .mov, [.k (.int .i64 17)], none, [1, 2, 5, 6, 84]⟩]) <|
        .ret)
        (.skip))) <|
    .ops [⟨(some 63), .mov, [.r 6], none, [6, 84]⟩,
      ⟨(some 64), .bin .add, [.r 63, .k (.int .i64 1)], none, [63]⟩,
      ⟨(some 6), .mov, [.r 64], none, [64]⟩]
def cTaskR (fn fp : FuncId) : MFn := ⟨[.tmp 4], .seq (.ops [⟨(some 2), .box, [.r 0], none, [0]⟩,
  ⟨(some 4), .mov, [.k (.int .i64 0)], none, [4]⟩]) <|
.seq (.ops [⟨(some 8), .fa 3, [.r 2], none, []⟩,
  ⟨(some 9), .ld none, [.r 8], none, [8]⟩,
  ⟨(some 10), .mov, [.r 1], none, []⟩,
  ⟨(some 11), .ia 6, [.r 9, .r 10], none, [9, 10]⟩,
  ⟨(some 12), .ld (some 6), [.r 11], none, [11]⟩,
  ⟨(some 5), .new 0 [.string ⟨#[]⟩, .int .i64 0, .int .i64 0, .int .i64 0, .int .i64 0, .slice none 0 0], [], none, []⟩,
  ⟨none, .st 6, [.r 5, .r 12], none, [12]⟩]) <|
.seq (.seq (.ops [⟨(some 13), .fa 0, [.r 5], none, []⟩,
  ⟨(some 14), .ld none, [.r 13], none, [13]⟩,
  ⟨(some 15), .call fn, [.r 14], none, [14]⟩,
  ⟨(some 16), .un .not, [.r 15], none, [15]⟩,
  ⟨(some 17), .mov, [.r 16], none, [16]⟩,
  ⟨(some 18), .fa 1, [.r 5], (some (17, false)), []⟩,
  ⟨(some 19), .ld none, [.r 18], (some (17, false)), [18]⟩,
  ⟨(some 20), .bin .lss, [.r 19, .k (.int .i64 1)], (some (17, false)), [19]⟩,
  ⟨(some 21), .pick, [.r 17, .k (.bool true), .r 20], none, [17, 20]⟩,
  ⟨(some 22), .mov, [.r 21], none, [21]⟩,
  ⟨(some 23), .fa 1, [.r 5], (some (22, false)), []⟩,
  ⟨(some 24), .ld none, [.r 23], (some (22, false)), [23]⟩,
  ⟨(some 25), .bin .gtr, [.r 24, .k (.int .i64 3000)], (some (22, false)), [24]⟩,
  ⟨(some 26), .pick, [.r 22, .k (.bool true), .r 25], none, [22, 25]⟩,
  ⟨(some 27), .mov, [.r 26], none, [26]⟩,
  ⟨(some 28), .fa 2, [.r 5], (some (27, false)), []⟩,
  ⟨(some 29), .ld none, [.r 28], (some (27, false)), [28]⟩,
  ⟨(some 30), .bin .lss, [.r 29, .k (.int .i64 1)], (some (27, false)), [29]⟩,
  ⟨(some 31), .pick, [.r 27, .k (.bool true), .r 30], none, [27, 30]⟩,
  ⟨(some 32), .mov, [.r 31], none, [31]⟩,
  ⟨(some 33), .fa 2, [.r 5], (some (32, false)), []⟩,
  ⟨(some 34), .ld none, [.r 33], (some (32, false)), [33]⟩,
  ⟨(some 35), .fa 1, [.r 5], (some (32, false)), []⟩,
  ⟨(some 36), .ld none, [.r 35], (some (32, false)), [35]⟩,
  ⟨(some 37), .bin .gtr, [.r 34, .r 36], (some (32, false)), [34, 36]⟩,
  ⟨(some 38), .pick, [.r 32, .k (.bool true), .r 37], none, [32, 37]⟩,
  ⟨(some 39), .mov, [.r 38], none, [38]⟩,
  ⟨(some 40), .fa 3, [.r 5], (some (39, false)), []⟩,
  ⟨(some 41), .ld none, [.r 40], (some (39, false)), [40]⟩,
  ⟨(some 42), .bin .lss, [.r 41, .k (.int .i64 1)], (some (39, false)), [41]⟩,
  ⟨(some 43), .pick, [.r 39, .k (.bool true), .r 42], none, [39, 42]⟩,
  ⟨(some 44), .mov, [.r 43], none, [43]⟩,
  ⟨(some 45), .fa 3, [.r 5], (some (44, false)), []⟩,
  ⟨(some 46), .ld none, [.r 45], (some (44, false)), [45]⟩,
  ⟨(some 47), .bin .gtr, [.r 46, .k (.int .i64 1000)], (some (44, false)), [46]⟩,
  ⟨(some 48), .pick, [.r 44, .k (.bool true), .r 47], none, [44, 47]⟩]) <|
.cond (.r 48)
  (.seq (.ops [⟨(some 4), .mov, [.k (.int .i64 10)], none, [1, 2, 5, 48]⟩]) <|
  .ret)
  (.skip)) <|
.seq (.seq (.ops [⟨(some 49), .fa 4, [.r 5], none, [48]⟩,
  ⟨(some 50), .ld none, [.r 49], none, [49]⟩,
  ⟨(some 51), .bin .lss, [.r 50, .k (.int .i64 0)], none, [50]⟩,
  ⟨(some 52), .mov, [.r 51], none, [51]⟩,
  ⟨(some 53), .fa 4, [.r 5], (some (52, false)), []⟩,
  ⟨(some 54), .ld none, [.r 53], (some (52, false)), [53]⟩,
  ⟨(some 55), .fa 1, [.r 2], (some (52, false)), []⟩,
  ⟨(some 56), .ld none, [.r 55], (some (52, false)), [55]⟩,
  ⟨(some 57), .len, [.r 56], (some (52, false)), [56]⟩,
  ⟨(some 58), .bin .geq, [.r 54, .r 57], (some (52, false)), [54, 57]⟩,
  ⟨(some 59), .pick, [.r 52, .k (.bool true), .r 58], none, [52, 58]⟩]) <|
.cond (.r 59)
  (.seq (.ops [⟨(some 4), .mov, [.k (.int .i64 16)], none, [1, 2, 5, 59]⟩]) <|
  .ret)
  (.skip)) <|
.seq (.seq (.ops [⟨(some 6), .mov, [.k (.int .i64 0)], none, [59]⟩]) <|
.block 0 (.loop (cTaskR_1 fn fp))) <|
.seq (.seq (.ops [⟨(some 85), .fa 5, [.r 5], none, [1, 6, 62]⟩,
  ⟨(some 86), .ld none, [.r 85], none, [85]⟩,
  ⟨(some 87), .len, [.r 86], none, [86]⟩,
  ⟨(some 88), .bin .lss, [.r 87, .k (.int .i64 1)], none, [87]⟩,
  ⟨(some 89), .mov, [.r 88], none, [88]⟩,
  ⟨(some 90), .fa 5, [.r 5], (some (89, false)), []⟩,
  ⟨(some 91), .ld none, [.r 90], (some (89, false)), [90]⟩,
  ⟨(some 92), .len, [.r 91], (some (89, false)), [91]⟩,
  ⟨(some 93), .bin .gtr, [.r 92, .k (.int .i64 6)], (some (89, false)), [92]⟩,
  ⟨(some 94), .pick, [.r 89, .k (.bool true), .r 93], none, [89, 93]⟩]) <|
.cond (.r 94)
  (.seq (.ops [⟨(some 4), .mov, [.k (.int .i64 15)], none, [2, 5, 94]⟩]) <|
  .ret)
  (.skip)) <|
.seq (.seq (.ops [⟨(some 7), .mov, [.k (.int .i64 0)], none, [94]⟩]) <|
.block 2 (.loop (cTaskR_0 fn fp))) <|
.seq (.ops [⟨(some 4), .mov, [.k (.int .i64 0)], none, [2, 5, 7, 99]⟩]) <|
.ret⟩

/-- 'swingbridge/swingbridgeref7.places' -/
def cPlacesR_0 : MCode := .seq (.seq (.ops [⟨(some 42), .mov, [.r 4], none, []⟩,
      ⟨(some 43), .fa 2, [.r 1], none, []⟩,
      ⟨(some 44), .ld none, [.r 43], none, [43]⟩,
      ⟨(some 45), .len, [.r 44], none, [44]⟩,
      ⟨(some 46), .bin .lss, [.r 42, .r 45], none, [42, 45]⟩]) <|
    .cond (.r 46)
      (.skip)
      (.exit 2)) <|
    .seq (.block 3 (.seq (.draw [⟨(some 49), .fa 2, [.r 1], none, [46]⟩,
        ⟨(some 50), .ld none, [.r 49], none, [49]⟩,
        ⟨(some 51), .mov, [.r 4], none, []⟩,
        ⟨(some 52), .ia 1, [.r 50, .r 51], none, [50, 51]⟩,
        ⟨(some 53), .ld none, [.r 52], none, [52]⟩,
        ⟨(some 54), .bin .lss, [.r 53, .k (.int .i64 0)], none, [53]⟩,
        ⟨(some 55), .mov, [.r 54], none, [54]⟩,
        ⟨(some 56), .fa 2, [.r 1], (some (55, false)), []⟩,
        ⟨(some 57), .ld none, [.r 56], (some (55, false)), [56]⟩,
        ⟨(some 58), .mov, [.r 4], (some (55, false)), []⟩,
        ⟨(some 59), .ia 1, [.r 57, .r 58], (some (55, false)), [57, 58]⟩,
        ⟨(some 60), .ld none, [.r 59], (some (55, false)), [59]⟩,
        ⟨(some 61), .fa 1, [.r 1], (some (55, false)), []⟩,
        ⟨(some 62), .ld none, [.r 61], (some (55, false)), [61]⟩,
        ⟨(some 63), .len, [.r 62], (some (55, false)), [62]⟩,
        ⟨(some 64), .bin .geq, [.r 60, .r 63], (some (55, false)), [60, 63]⟩,
        ⟨(some 65), .pick, [.r 55, .k (.bool true), .r 64], none, [55, 64]⟩] []) <|
      .cond (.r 65)
        (.seq (.ops [⟨(some 2), .mov, [.k (.bool false)], none, [1, 4, 65]⟩]) <|
        .ret)
        (.skip))) <|
    .ops [⟨(some 47), .mov, [.r 4], none, [4, 65]⟩,
      ⟨(some 48), .bin .add, [.r 47, .k (.int .i64 1)], none, [47]⟩,
      ⟨(some 4), .mov, [.r 48], none, [48]⟩]
def cPlacesR_1 : MCode := .seq (.seq (.ops [⟨(some 21), .mov, [.r 3], none, []⟩,
      ⟨(some 22), .fa 1, [.r 1], none, []⟩,
      ⟨(some 23), .ld none, [.r 22], none, [22]⟩,
      ⟨(some 24), .len, [.r 23], none, [23]⟩,
      ⟨(some 25), .bin .lss, [.r 21, .r 24], none, [21, 24]⟩]) <|
    .cond (.r 25)
      (.skip)
      (.exit 0)) <|
    .seq (.block 1 (.seq (.ops [⟨(some 28), .fa 1, [.r 1], none, [25]⟩,
        ⟨(some 29), .ld none, [.r 28], none, [28]⟩,
        ⟨(some 30), .mov, [.r 3], none, []⟩,
        ⟨(some 31), .ia 1, [.r 29, .r 30], none, [29, 30]⟩,
        ⟨(some 32), .ld none, [.r 31], none, [31]⟩,
        ⟨(some 33), .bin .lss, [.r 32, .k (.int .i64 1)], none, [32]⟩,
        ⟨(some 34), .mov, [.r 33], none, [33]⟩,
        ⟨(some 35), .fa 1, [.r 1], (some (34, false)), []⟩,
        ⟨(some 36), .ld none, [.r 35], (some (34, false)), [35]⟩,
        ⟨(some 37), .mov, [.r 3], (some (34, false)), []⟩,
        ⟨(some 38), .ia 1, [.r 36, .r 37], (some (34, false)), [36, 37]⟩,
        ⟨(some 39), .ld none, [.r 38], (some (34, false)), [38]⟩,
        ⟨(some 40), .bin .gtr, [.r 39, .k (.int .i64 3)], (some (34, false)), [39]⟩,
        ⟨(some 41), .pick, [.r 34, .k (.bool true), .r 40], none, [34, 40]⟩]) <|
      .cond (.r 41)
        (.seq (.ops [⟨(some 2), .mov, [.k (.bool false)], none, [1, 3, 41]⟩]) <|
        .ret)
        (.skip))) <|
    .ops [⟨(some 26), .mov, [.r 3], none, [3, 41]⟩,
      ⟨(some 27), .bin .add, [.r 26, .k (.int .i64 1)], none, [26]⟩,
      ⟨(some 3), .mov, [.r 27], none, [27]⟩]
def cPlacesR : MFn := ⟨[.tmp 2], .seq (.ops [⟨(some 1), .box, [.r 0], none, [0]⟩,
  ⟨(some 2), .mov, [.k (.bool false)], none, [2]⟩]) <|
.seq (.seq (.ops [⟨(some 5), .fa 1, [.r 1], none, []⟩,
  ⟨(some 6), .ld none, [.r 5], none, [5]⟩,
  ⟨(some 7), .len, [.r 6], none, [6]⟩,
  ⟨(some 8), .bin .lss, [.r 7, .k (.int .i64 1)], none, [7]⟩,
  ⟨(some 9), .mov, [.r 8], none, [8]⟩,
  ⟨(some 10), .fa 1, [.r 1], (some (9, false)), []⟩,
  ⟨(some 11), .ld none, [.r 10], (some (9, false)), [10]⟩,
  ⟨(some 12), .len, [.r 11], (some (9, false)), [11]⟩,
  ⟨(some 13), .bin .gtr, [.r 12, .k (.int .i64 3)], (some (9, false)), [12]⟩,
  ⟨(some 14), .pick, [.r 9, .k (.bool true), .r 13], none, [9, 13]⟩,
  ⟨(some 15), .mov, [.r 14], none, [14]⟩,
  ⟨(some 16), .fa 2, [.r 1], (some (15, false)), []⟩,
  ⟨(some 17), .ld none, [.r 16], (some (15, false)), [16]⟩,
  ⟨(some 18), .len, [.r 17], (some (15, false)), [17]⟩,
  ⟨(some 19), .bin .gtr, [.r 18, .k (.int .i64 4)], (some (15, false)), [18]⟩,
  ⟨(some 20), .pick, [.r 15, .k (.bool true), .r 19], none, [15, 19]⟩]) <|
.cond (.r 20)
  (.seq (.ops [⟨(some 2), .mov, [.k (.bool false)], none, [1, 20]⟩]) <|
  .ret)
  (.skip)) <|
.seq (.seq (.ops [⟨(some 3), .mov, [.k (.int .i64 0)], none, [20]⟩]) <|
.block 0 (.loop cPlacesR_1)) <|
.seq (.seq (.ops [⟨(some 4), .mov, [.k (.int .i64 0)], none, [3, 25]⟩]) <|
.block 2 (.loop cPlacesR_0)) <|
.seq (.ops [⟨(some 2), .mov, [.k (.bool true)], none, [1, 4, 46]⟩]) <|
.ret⟩

/-- 'swingbridge/swingbridgeref7.Check' -/
def cCheckR_0 (fq fo : FuncId) : MCode := .seq (.seq (.ops [⟨(some 29), .mov, [.r 4], none, []⟩,
      ⟨(some 30), .fa 3, [.r 1], none, []⟩,
      ⟨(some 31), .ld none, [.r 30], none, [30]⟩,
      ⟨(some 32), .len, [.r 31], none, [31]⟩,
      ⟨(some 33), .bin .lss, [.r 29, .r 32], none, [29, 32]⟩]) <|
    .cond (.r 33)
      (.skip)
      (.exit 1)) <|
    .seq (.block 2 (.seq (.ops [⟨(some 36), .ld (some 4), [.r 1], none, [33]⟩,
        ⟨(some 37), .mov, [.r 4], none, []⟩,
        ⟨(some 38), .call fo, [.r 36, .r 37], none, [36, 37]⟩,
        ⟨(some 5), .mov, [.r 38], none, [38]⟩]) <|
      .seq (.ops [⟨(some 39), .mov, [.r 5], none, []⟩,
        ⟨(some 40), .bin .neq, [.r 39, .k (.int .i64 0)], none, [39]⟩]) <|
      .cond (.r 40)
        (.seq (.ops [⟨(some 41), .mov, [.r 4], none, [1, 4, 40]⟩,
          ⟨(some 42), .mov, [.r 5], none, [5]⟩,
          ⟨(some 2), .mov, [.r 41], none, [41]⟩,
          ⟨(some 3), .mov, [.r 42], none, [42]⟩]) <|
        .ret)
        (.skip))) <|
    .ops [⟨(some 34), .mov, [.r 4], none, [4, 5, 40]⟩,
      ⟨(some 35), .bin .add, [.r 34, .k (.int .i64 1)], none, [34]⟩,
      ⟨(some 4), .mov, [.r 35], none, [35]⟩]
def cCheckR (fq fo : FuncId) : MFn := ⟨[.tmp 2, .tmp 3], .seq (.ops [⟨(some 1), .box, [.r 0], none, [0]⟩,
  ⟨(some 2), .mov, [.k (.int .i64 0)], none, [2]⟩,
  ⟨(some 3), .mov, [.k (.int .i64 0)], none, [3]⟩]) <|
.seq (.block 0 (.seq (.ops [⟨(some 7), .fa 0, [.r 1], none, []⟩,
    ⟨(some 8), .ld none, [.r 7], none, [7]⟩,
    ⟨(some 9), .bin .lss, [.r 8, .k (.int .i64 1)], none, [8]⟩,
    ⟨(some 10), .mov, [.r 9], none, [9]⟩,
    ⟨(some 11), .fa 0, [.r 1], (some (10, false)), []⟩,
    ⟨(some 12), .ld none, [.r 11], (some (10, false)), [11]⟩,
    ⟨(some 13), .bin .gtr, [.r 12, .k (.int .i64 3)], (some (10, false)), [12]⟩,
    ⟨(some 14), .pick, [.r 10, .k (.bool true), .r 13], none, [10, 13]⟩,
    ⟨(some 6), .mov, [.r 14], none, [14]⟩]) <|
  .cond (.r 6)
    (.seq (.ops [⟨(some 2), .mov, [.k (.int .i64 (-1))], none, [1, 6]⟩,
      ⟨(some 3), .mov, [.k (.int .i64 10)], none, []⟩]) <|
    .ret)
    (.seq (.ops [⟨(some 16), .ld (some 4), [.r 1], none, [6]⟩,
      ⟨(some 17), .call fq, [.r 16], none, [16]⟩,
      ⟨(some 18), .un .not, [.r 17], none, [17]⟩,
      ⟨(some 15), .mov, [.r 18], none, [18]⟩]) <|
    .cond (.r 15)
      (.seq (.ops [⟨(some 2), .mov, [.k (.int .i64 (-1))], none, [1, 15]⟩,
        ⟨(some 3), .mov, [.k (.int .i64 16)], none, []⟩]) <|
      .ret)
      (.seq (.ops [⟨(some 20), .fa 3, [.r 1], none, [15]⟩,
        ⟨(some 21), .ld none, [.r 20], none, [20]⟩,
        ⟨(some 22), .len, [.r 21], none, [21]⟩,
        ⟨(some 23), .bin .gtr, [.r 22, .k (.int .i64 6)], none, [22]⟩,
        ⟨(some 19), .mov, [.r 23], none, [23]⟩]) <|
      .cond (.r 19)
        (.seq (.ops [⟨(some 2), .mov, [.k (.int .i64 (-1))], none, [1, 19]⟩,
          ⟨(some 3), .mov, [.k (.int .i64 11)], none, []⟩]) <|
        .ret)
        (.seq (.ops [⟨(some 25), .fa 3, [.r 1], none, [19]⟩,
          ⟨(some 26), .ld none, [.r 25], none, [25]⟩,
          ⟨(some 27), .len, [.r 26], none, [26]⟩,
          ⟨(some 28), .bin .eql, [.r 27, .k (.int .i64 0)], none, [27]⟩,
          ⟨(some 24), .mov, [.r 28], none, [28]⟩]) <|
        .cond (.r 24)
          (.seq (.ops [⟨(some 2), .mov, [.k (.int .i64 (-1))], none, [1, 24]⟩,
            ⟨(some 3), .mov, [.k (.int .i64 14)], none, []⟩]) <|
          .ret)
          (.skip)))))) <|
.seq (.seq (.ops [⟨(some 4), .mov, [.k (.int .i64 0)], none, [24]⟩]) <|
.block 1 (.loop (cCheckR_0 fq fo))) <|
.seq (.ops [⟨(some 2), .mov, [.k (.int .i64 (-1))], none, [1, 4, 33]⟩,
  ⟨(some 3), .mov, [.k (.int .i64 0)], none, []⟩]) <|
.ret⟩

/-- 'swingbridge/swingbridgeref7.OK' -/
def cOkR (fc : FuncId) : MFn := ⟨[.tmp 2], .seq (.ops [⟨(some 1), .box, [.r 0], none, [0]⟩,
  ⟨(some 2), .mov, [.k (.bool false)], none, [2]⟩]) <|
.seq (.ops [⟨(some 6), .ld (some 4), [.r 1], none, [1]⟩,
  ⟨(some 7), .call fc, [.r 6], none, [6]⟩,
  ⟨(some 5), .mov, [.r 7], none, [7]⟩,
  ⟨(some 8), .extract 0, [.r 5], none, []⟩,
  ⟨(some 9), .extract 1, [.r 5], none, [5]⟩,
  ⟨(some 3), .mov, [.r 8], none, [3, 8]⟩,
  ⟨(some 4), .mov, [.r 9], none, [9]⟩]) <|
.seq (.ops [⟨(some 10), .mov, [.r 4], none, [4]⟩,
  ⟨(some 11), .bin .eql, [.r 10, .k (.int .i64 0)], none, [10]⟩,
  ⟨(some 2), .mov, [.r 11], none, [11]⟩]) <|
.ret⟩

end Go.Mod
/- What a set is asked: contracts. -/
set_option linter.unusedVariables false
set_option linter.unusedSimpArgs false
namespace Go.Mod

/-! ### texts -/
theorem ba_loop (s : ByteArray) : ∀ (k i : Nat) (r : List UInt8), s.size - i = k → ByteArray.toList.loop s i r = r.reverse ++ s.data.toList.drop i
  | 0, i, r, h => by
    rw [ByteArray.toList.loop]
    have : ¬ i < s.size := by omega
    rw [if_neg this, List.drop_of_length_le (by simpa using (by omega : s.size ≤ i)), List.append_nil]
  | k + 1, i, r, h => by
    rw [ByteArray.toList.loop]
    have hi : i < s.size := by omega
    rw [if_pos hi, ba_loop s k (i + 1) _ (by omega)]
    have hi' : i < s.data.toList.length := by simpa using hi
    rw [List.drop_eq_getElem_cons hi', List.reverse_cons, List.append_assoc]
    have : s.get! i = s.data.toList[i] := by
      rw [Array.getElem_toList]
      show s.data[i]! = _
      rw [getElem!_pos]
    rw [this]; rfl
theorem ba_toList (s : ByteArray) : s.toList = s.data.toList := by
  rw [ByteArray.toList, ba_loop s s.size 0 [] (by omega)]; simp
theorem ba_inj {s t : ByteArray} (h : s.toList = t.toList) : s = t := by
  rw [ba_toList, ba_toList] at h
  cases s; cases t
  have := Array.toList_inj.1 h
  simp at this; rw [this]
theorem ba_eq_iff {s t : ByteArray} : (s.toList == t.toList) = decide (s = t) := by
  by_cases h : s = t
  · subst h; simp
  · have : ¬ s.toList = t.toList := fun e => h (ba_inj e)
    rw [decide_eq_false h]; simpa using this

section
variable {mp : FuncId → Option MDef} {H : MH}
theorem R_between {fb : FuncId} (hf : mp fb = some (.code cBetween)) {a lo hi : Int} : R mp fb [.int .i64 a, .int .i64 lo, .int .i64 hi] H = some (.bool (decide (lo ≤ a ∧ a ≤ hi)), H) := by
  rw [R_code hf]
  by_cases h1 : lo ≤ a
  · by_cases h2 : a ≤ hi
    · simp [cBetween, h1, h2]
    · simp [cBetween, h1, h2]
  · simp [cBetween, h1]

/-- A byte that a name may have there. -/
def goodB (c : Nat) (i : Nat) : Prop := (97 ≤ c ∧ c ≤ 122) ∨ (i ≠ 0 ∧ 48 ≤ c ∧ c ≤ 57)
instance (c i : Nat) : Decidable (goodB c i) := by unfold goodB; exact inferInstance
def nameB (s : ByteArray) : Prop := (∀ (j : Nat) b, s[j]? = some b → goodB b.toNat j) ∧ 1 ≤ s.size ∧ s.size ≤ 8
theorem nameP_loop {s : ByteArray} (hs : s.size ≤ 1000000) : ∀ (k i : Nat), s.size - i = k → i ≤ s.size → (∀ (j : Nat) b, j < i → s[j]? = some b → goodB b.toNat j) →
    ((∀ (j : Nat) b, s[j]? = some b → goodB b.toNat j) ∧ Rc mp (.loop cNameP_0) [(0, .string s), (7, .int .i64 (s.size : Int)), (8, .int .i64 (i : Int))] H = some (.exit 0, [(0, .string s), (7, .int .i64 (s.size : Int)), (8, .int .i64 (s.size : Int)), (9, .bool false)], H)) ∨
    ((¬ ∀ (j : Nat) b, s[j]? = some b → goodB b.toNat j) ∧ Rc mp (.loop cNameP_0) [(0, .string s), (7, .int .i64 (s.size : Int)), (8, .int .i64 (i : Int))] H = some (.ret, [(2, .bool false)], H)) := by
  intro k
  induction k with
  | zero =>
    intro i hk hi hb
    have : i = s.size := by omega
    subst this
    refine .inl ⟨fun j b hj => hb j b ?_ hj, ?_⟩
    · rcases Nat.lt_or_ge j s.size with h | h
      · exact h
      · rw [getElem?_neg s j (by omega)] at hj; cases hj
    · rw [Rc_loop]
      simp [cNameP_0]
  | succ k ih =>
    intro i hk hi hb
    have hlt : i < s.size := by omega
    obtain ⟨b, hbd⟩ : ∃ b, s[i] = b := ⟨_, rfl⟩
    have hg : s[i]? = some b := by rw [getElem?_pos s i hlt, hbd]
    have w : IntKind.i64.wrap ((i : Int) + 1) = (i : Int) + 1 := wrap_i64 (by omega) (by omega)
    by_cases hgood : goodB b.toNat i
    · have step : Rc mp (.loop cNameP_0) [(0, .string s), (7, .int .i64 (s.size : Int)), (8, .int .i64 (i : Int))] H = Rc mp (.loop cNameP_0) [(0, .string s), (7, .int .i64 (s.size : Int)), (8, .int .i64 ((i + 1 : Nat) : Int))] H := by
        rw [Rc_loop]
        rcases hgood with ⟨g1, g2⟩ | ⟨g1, g2, g3⟩
        · have k1 : ¬ (b.toNat : Int) < 97 := by omega
          have k2 : ¬ (122 : Int) < (b.toNat : Int) := by omega
          have k3 : (48 : Int) ≤ (b.toNat : Int) := by omega
          simp [cNameP_0, hlt, hbd, k1, k2, k3, w]
        · have k1 : (48 : Int) ≤ (b.toNat : Int) := by omega
          have k2 : (b.toNat : Int) ≤ 57 := by omega
          have k3 : (b.toNat : Int) < 97 := by omega
          simp [cNameP_0, hlt, hbd, k1, k2, k3, g1, w]
      rw [step]
      refine ih (i + 1) (by omega) (by omega) fun j b' hj hb' => ?_
      rcases Nat.lt_or_ge j i with h | h
      · exact hb j b' h hb'
      · have : j = i := by omega
        subst this
        rw [hg] at hb'; cases hb'; exact hgood
    · refine .inr ⟨fun h => hgood (h i b hg), ?_⟩
      rw [Rc_loop]
      simp only [goodB] at hgood
      by_cases k3 : (48 : Int) ≤ (b.toNat : Int)
      · by_cases k4 : (b.toNat : Int) ≤ 57
        · have k1 : (b.toNat : Int) < 97 := by omega
          have k5 : i = 0 := by omega
          subst k5
          simp [cNameP_0, hlt, hbd, k1, k3, k4]
        · by_cases k1 : (b.toNat : Int) < 97
          · by_cases k5 : i = 0
            · subst k5; simp [cNameP_0, hlt, hbd, k1, k3, k4]
            · simp [cNameP_0, hlt, hbd, k1, k3, k4, k5]
          · have k2 : (122 : Int) < (b.toNat : Int) := by omega
            by_cases k5 : i = 0
            · subst k5; simp [cNameP_0, hlt, hbd, k1, k2, k3, k4]
            · simp [cNameP_0, hlt, hbd, k1, k2, k3, k4, k5]
      · have k1 : (b.toNat : Int) < 97 := by omega
        by_cases k5 : i = 0
        · subst k5; simp [cNameP_0, hlt, hbd, k1, k3]
        · simp [cNameP_0, hlt, hbd, k1, k3, k5]

theorem nameR_loop {s : ByteArray} (hs : s.size ≤ 1000000) : ∀ (k i : Nat), s.size - i = k → i ≤ s.size → (∀ (j : Nat) b, j < i → s[j]? = some b → goodB b.toNat j) →
    ((∀ (j : Nat) b, s[j]? = some b → goodB b.toNat j) ∧ Rc mp (.loop cNameR_0) [(0, .string s), (3, .int .i64 (i : Int))] H = some (.exit 0, [(0, .string s), (3, .int .i64 (s.size : Int)), (8, .bool false)], H)) ∨
    ((¬ ∀ (j : Nat) b, s[j]? = some b → goodB b.toNat j) ∧ Rc mp (.loop cNameR_0) [(0, .string s), (3, .int .i64 (i : Int))] H = some (.ret, [(2, .bool false)], H)) := by
  intro k
  induction k with
  | zero =>
    intro i hk hi hb
    have : i = s.size := by omega
    subst this
    refine .inl ⟨fun j b hj => hb j b ?_ hj, ?_⟩
    · rcases Nat.lt_or_ge j s.size with h | h
      · exact h
      · rw [getElem?_neg s j (by omega)] at hj; cases hj
    · rw [Rc_loop]
      simp [cNameR_0]
  | succ k ih =>
    intro i hk hi hb
    have hlt : i < s.size := by omega
    obtain ⟨b, hbd⟩ : ∃ b, s[i] = b := ⟨_, rfl⟩
    have hg : s[i]? = some b := by rw [getElem?_pos s i hlt, hbd]
    have w : IntKind.i64.wrap ((i : Int) + 1) = (i : Int) + 1 := wrap_i64 (by omega) (by omega)
    by_cases hgood : goodB b.toNat i
    · have step : Rc mp (.loop cNameR_0) [(0, .string s), (3, .int .i64 (i : Int))] H = Rc mp (.loop cNameR_0) [(0, .string s), (3, .int .i64 ((i + 1 : Nat) : Int))] H := by
        rw [Rc_loop]
        rcases hgood with ⟨g1, g2⟩ | ⟨g1, g2, g3⟩
        · have k1 : ¬ (b.toNat : Int) < 97 := by omega
          have k2 : ¬ (122 : Int) < (b.toNat : Int) := by omega
          simp [cNameR_0, hlt, hbd, k1, k2, w]
        · have k1 : ¬ (b.toNat : Int) < 48 := by omega
          have k2 : ¬ (57 : Int) < (b.toNat : Int) := by omega
          have k3 : (b.toNat : Int) < 97 := by omega
          simp [cNameR_0, hlt, hbd, k1, k2, k3, g1, w]
      rw [step]
      refine ih (i + 1) (by omega) (by omega) fun j b' hj hb' => ?_
      rcases Nat.lt_or_ge j i with h | h
      · exact hb j b' h hb'
      · have : j = i := by omega
        subst this
        rw [hg] at hb'; cases hb'; exact hgood
    · refine .inr ⟨fun h => hgood (h i b hg), ?_⟩
      rw [Rc_loop]
      simp only [goodB] at hgood
      by_cases k3 : (b.toNat : Int) < 48
      · have k1 : (b.toNat : Int) < 97 := by omega
        simp [cNameR_0, hlt, hbd, k1, k3]
      · by_cases k4 : (57 : Int) < (b.toNat : Int)
        · by_cases k1 : (b.toNat : Int) < 97
          · simp [cNameR_0, hlt, hbd, k1, k3, k4]
          · have k2 : (122 : Int) < (b.toNat : Int) := by omega
            simp [cNameR_0, hlt, hbd, k1, k2, k3, k4]
        · have k1 : (b.toNat : Int) < 97 := by omega
          have k5 : i = 0 := by omega
          subst k5
          simp [cNameR_0, hlt, hbd, k1, k3, k4]
theorem R_nameR {fn : FuncId} (hf : mp fn = some (.code cNameR)) {s : ByteArray} (hs : s.size ≤ 1000000) : ∃ r, R mp fn [.string s] H = some (.bool r, H) ∧ (r = true ↔ nameB s) := by
  rcases nameR_loop (mp := mp) (H := H) hs s.size 0 rfl (by omega) (fun j b h => by omega) with ⟨h1, h2⟩ | ⟨h1, h2⟩
  · refine ⟨decide (1 ≤ s.size ∧ s.size ≤ 8), ?_, by simp only [decide_eq_true_eq, nameB]; exact ⟨fun h => ⟨h1, h.1, h.2⟩, fun h => ⟨h.2.1, h.2.2⟩⟩⟩
    simp at h2
    rw [R_code hf]
    by_cases g1 : (1 : Int) ≤ (s.size : Int)
    · by_cases g2 : (s.size : Int) ≤ 8
      · have : 1 ≤ s.size ∧ s.size ≤ 8 := by omega
        simp [cNameR, h2, g1, g2, this]
      · have : ¬ (1 ≤ s.size ∧ s.size ≤ 8) := by omega
        rw [decide_eq_false this]
        simp [cNameR, h2, g1, g2]
    · have : ¬ (1 ≤ s.size ∧ s.size ≤ 8) := by omega
      rw [decide_eq_false this]
      simp [cNameR, h2, g1]
  · refine ⟨false, ?_, by simp only [Bool.false_eq_true, false_iff, nameB]; exact fun h => h1 h.1⟩
    simp at h2
    rw [R_code hf]
    simp [cNameR, h2]

theorem R_nameP {fn : FuncId} (hf : mp fn = some (.code cNameP)) {s : ByteArray} (hs : s.size ≤ 1000000) : ∃ r, R mp fn [.string s] H = some (.bool r, H) ∧ (r = true ↔ nameB s) := by
  have h0 : s = ⟨#[]⟩ ↔ s.size = 0 := by
    constructor
    · rintro rfl; rfl
    · intro h
      obtain ⟨d⟩ := s
      have : d = #[] := Array.eq_empty_of_size_eq_zero h
      rw [this]
  rcases nameP_loop (mp := mp) (H := H) hs s.size 0 rfl (by omega) (fun j b h => by omega) with ⟨h1, h2⟩ | ⟨h1, h2⟩
  · refine ⟨decide (1 ≤ s.size ∧ s.size ≤ 8), ?_, by simp only [decide_eq_true_eq, nameB]; exact ⟨fun h => ⟨h1, h.1, h.2⟩, fun h => ⟨h.2.1, h.2.2⟩⟩⟩
    simp at h2
    rw [R_code hf]
    have hq := ba_eq_iff (s := s) (t := ⟨#[]⟩)
    by_cases g1 : s.size = 0
    · have hl : s.toList = [] := by rw [h0.2 g1, ba_toList]
      have : ¬ (1 ≤ s.size ∧ s.size ≤ 8) := by omega
      rw [decide_eq_false this]
      simp [cNameP, h2, hl]
    · have hl : s.toList ≠ [] := fun e => g1 (h0.1 (ba_inj (e.trans (by rw [ba_toList]))))
      have hle : s.toList.isEmpty = false := by simpa using hl
      by_cases g2 : (s.size : Int) ≤ 8
      · have : 1 ≤ s.size ∧ s.size ≤ 8 := by omega
        rw [decide_eq_true this]
        simp [cNameP, h2, hl, hle, g2]
      · have : ¬ (1 ≤ s.size ∧ s.size ≤ 8) := by omega
        rw [decide_eq_false this]
        simp [cNameP, h2, hl, hle, g2]
  · refine ⟨false, ?_, by simp only [Bool.false_eq_true, false_iff, nameB]; exact fun h => h1 h.1⟩
    simp at h2
    rw [R_code hf]
    simp [cNameP, h2]

/-! ### is there one, of whole numbers -/
theorem ixI_loop {g : FuncId} {caps : Array Value} {P : Int → Prop} [DecidablePred P] {a : Option Addr} {n c : Nat} {l : List Int} {H0 : MH} (hl : l.length ≤ 1000000)
    (hg : ∀ (H' : MH) (y : Int), Ext H0 H' → y ∈ l → ∃ X : MH, R mp g (.int .i64 y :: caps.toList) H' = some (.bool (decide (P y)), H' ++ X)) :
    ∀ (k i : Nat) (H : MH), Ext H0 H → l.length - i = k → i ≤ l.length → Row 1 H (.slice a n c) (i64s l) → (∀ (j : Nat) y, j < i → l[j]? = some y → ¬ P y) →
    ((∃ y ∈ l, P y) ∧ ∃ (q : Nat) (X : MH), Rc mp (.loop cIxI_0) [(0, .slice a n c), (1, .func (.func g) #[] caps), (7, .int .i64 (n : Int)), (8, .int .i64 (i : Int))] H = some (.ret, [(4, .int .i64 (q : Int))], H ++ X)) ∨
    ((¬ ∃ y ∈ l, P y) ∧ ∃ X : MH, Rc mp (.loop cIxI_0) [(0, .slice a n c), (1, .func (.func g) #[] caps), (7, .int .i64 (n : Int)), (8, .int .i64 (i : Int))] H = some (.exit 0, [(0, .slice a n c), (1, .func (.func g) #[] caps), (7, .int .i64 (n : Int)), (8, .int .i64 (n : Int)), (9, .bool false)], H ++ X)) := by
  intro k
  induction k with
  | zero =>
    intro i H e0 hk hi hr hb
    have hn := hr.i64n
    have : i = n := by omega
    subst this
    refine .inr ⟨fun ⟨y, hy, hp⟩ => ?_, [], ?_⟩
    · obtain ⟨j, hj⟩ := List.mem_iff_getElem?.1 hy
      exact hb j y (by have := (List.getElem?_eq_some_iff.1 hj).1; omega) hj hp
    · rw [Rc_loop]
      simp [cIxI_0]
  | succ k ih =>
    intro i H e0 hk hi hr hb
    have hn := hr.i64n
    obtain ⟨y, hy⟩ : ∃ y, l[i]? = some y := ⟨_, List.getElem?_eq_getElem (by omega)⟩
    obtain ⟨hin, b, o, j, cs, rfl, hB, hat⟩ := hr.i64 hy
    obtain ⟨X, hX⟩ := hg H y e0 (List.mem_of_getElem? hy)
    have w : IntKind.i64.wrap ((i : Int) + 1) = (i : Int) + 1 := wrap_i64 (by omega) (by omega)
    by_cases hp : P y
    · refine .inl ⟨⟨y, List.mem_of_getElem? hy, hp⟩, i, X, ?_⟩
      rw [decide_eq_true hp] at hX
      rw [Rc_loop]
      simp [cIxI_0, hin, ld_at hB, hat, hX]
    · rw [decide_eq_false hp] at hX
      have step : Rc mp (.loop cIxI_0) [(0, .slice (some ⟨b, o, none⟩) n c), (1, .func (.func g) #[] caps), (7, .int .i64 (n : Int)), (8, .int .i64 (i : Int))] H = Rc mp (.loop cIxI_0) [(0, .slice (some ⟨b, o, none⟩) n c), (1, .func (.func g) #[] caps), (7, .int .i64 (n : Int)), (8, .int .i64 ((i + 1 : Nat) : Int))] (H ++ X) := by
        rw [Rc_loop]
        simp [cIxI_0, hin, ld_at hB, hat, hX, w]
      rw [step]
      rcases ih (i + 1) (H ++ X) (e0.trans ⟨X, rfl⟩) (by omega) (by omega) (Ext.row ⟨X, rfl⟩ hr) (fun j' y' hj hy' => by
        rcases Nat.lt_or_ge j' i with h | h
        · exact hb j' y' h hy'
        · have : j' = i := by omega
          subst this
          rw [hy] at hy'; cases hy'; exact hp) with ⟨h1, q, Y, h2⟩ | ⟨h1, Y, h2⟩
      · exact .inl ⟨h1, q, X ++ Y, by rw [h2, List.append_assoc]⟩
      · exact .inr ⟨h1, X ++ Y, by rw [h2, List.append_assoc]⟩
theorem R_anyI {f fi g : FuncId} (hf : mp f = some (.code (cAnyI fi))) (hfi : mp fi = some (.code cIxI)) {caps : Array Value} {P : Int → Prop} [DecidablePred P] {a : Option Addr} {n c : Nat} {l : List Int} (hl : l.length ≤ 1000000)
    (hg : ∀ (H' : MH) (y : Int), Ext H H' → y ∈ l → ∃ X : MH, R mp g (.int .i64 y :: caps.toList) H' = some (.bool (decide (P y)), H' ++ X)) (hr : Row 1 H (.slice a n c) (i64s l)) :
    ∃ (r : Bool) (X : MH), R mp f [.slice a n c, .func (.func g) #[] caps] H = some (.bool r, H ++ X) ∧ (r = true ↔ ∃ y ∈ l, P y) := by
  rcases ixI_loop (mp := mp) hl hg l.length 0 H (Ext.refl H) rfl (Nat.zero_le _) hr (fun j y h => by omega) with ⟨h1, q, X, h2⟩ | ⟨h1, X, h2⟩
  · refine ⟨true, X, ?_, by simpa using h1⟩
    have h3 : R mp fi [.slice a n c, .func (.func g) #[] caps] H = some (.int .i64 (q : Int), H ++ X) := by
      simp at h2
      rw [R_code hfi]
      simp [cIxI, h2]
    have h0 : (0 : Int) ≤ (q : Int) := by omega
    rw [R_code hf]
    simp [cAnyI, h3]
  · refine ⟨false, X, ?_, by simp only [Bool.false_eq_true, false_iff]; exact h1⟩
    have h3 : R mp fi [.slice a n c, .func (.func g) #[] caps] H = some (.int .i64 (-1), H ++ X) := by
      simp at h2
      rw [R_code hfi]
      simp [cIxI, h2]
    rw [R_code hf]
    simp [cAnyI, h3]

/-! ### places -/
theorem R_coreBad {f fb : FuncId} (hf : mp f = some (.code (cCoreBad fb))) (hb : mp fb = some (.code cBetween)) {y : Int} : R mp f [.int .i64 y] H = some (.bool (decide (¬ (1 ≤ y ∧ y ≤ 3))), H) := by
  have h := R_between (mp := mp) (H := H) hb (a := y) (lo := 1) (hi := 3)
  rw [R_code hf]
  by_cases hp : 1 ≤ y ∧ y ≤ 3
  · rw [decide_eq_true hp] at h
    simp [cCoreBad, h, hp]
  · rw [decide_eq_false hp] at h
    rw [decide_eq_true hp]
    simp [cCoreBad, h]
theorem R_homeBad {f fb : FuncId} (hf : mp f = some (.code (cHomeBad fb))) (hb : mp fb = some (.code cBetween)) {y : Int} {bx n c : Nat} {a : Option Addr} {p vh vt : Value} {ix : Info} (hx : H[bx]? = some (.cells ix [p, .slice a n c, vh, vt])) (hn : n ≤ 1000000) :
    R mp f [.int .i64 y, .pointer (some ⟨bx, 0, none⟩)] H = some (.bool (decide (¬ (0 ≤ y ∧ y < (n : Int)))), H) := by
  have w : IntKind.i64.wrap ((n : Int) - 1) = (n : Int) - 1 := wrap_i64 (by omega) (by omega)
  have h := R_between (mp := mp) (H := H) hb (a := y) (lo := 0) (hi := (n : Int) - 1)
  rw [R_code hf]
  by_cases hp : 0 ≤ y ∧ y < (n : Int)
  · rw [decide_eq_true (show 0 ≤ y ∧ y ≤ (n : Int) - 1 by omega)] at h
    rw [decide_eq_false (by simpa using hp)]
    simp [cHomeBad, ld_at hx, w, h]
  · rw [decide_eq_false (show ¬ (0 ≤ y ∧ y ≤ (n : Int) - 1) by omega)] at h
    rw [decide_eq_true hp]
    simp [cHomeBad, ld_at hx, w, h]

def placesB (cores homes : List Int) : Prop := (1 ≤ cores.length ∧ cores.length ≤ 3 ∧ homes.length ≤ 4) ∧ (∀ y ∈ cores, 1 ≤ y ∧ y ≤ 3) ∧ ∀ y ∈ homes, 0 ≤ y ∧ y < (cores.length : Int)
theorem R_placedP {f fb fc fh fa fi : FuncId} (hf : mp f = some (.code (cPlaced fb fc fh fa))) (hb : mp fb = some (.code cBetween)) (hc : mp fc = some (.code (cCoreBad fb))) (hh : mp fh = some (.code (cHomeBad fb))) (ha : mp fa = some (.code (cAnyI fi))) (hi : mp fi = some (.code cIxI))
    {pr vt : Value} (hp : one pr = true) (ht : one vt = true) {ac ah : Option Addr} {nc cc nh ch : Nat} {cores homes : List Int} (rc : Row 1 H (.slice ac nc cc) (i64s cores)) (rh : Row 1 H (.slice ah nh ch) (i64s homes)) :
    ∃ (r : Bool) (X : MH), R mp f [.agg #[pr, .slice ac nc cc, .slice ah nh ch, vt]] H = some (.bool r, H ++ X) ∧ (r = true ↔ placesB cores homes) := by
  have hnc := rc.i64n
  have hnh := rh.i64n
  have e1 : Ext H (H ++ [.cells ⟨0, true, false⟩ [pr, .slice ac nc cc, .slice ah nh ch, vt]]) := ⟨_, rfl⟩
  have hx : (H ++ [MObj.cells ⟨0, true, false⟩ [pr, .slice ac nc cc, .slice ah nh ch, vt]])[H.length]? = some (.cells ⟨0, true, false⟩ [pr, .slice ac nc cc, .slice ah nh ch, vt]) := by simp
  have hbw := R_between (mp := mp) (H := H ++ [.cells ⟨0, true, false⟩ [pr, .slice ac nc cc, .slice ah nh ch, vt]]) hb (a := (nc : Int)) (lo := 1) (hi := 3)
  by_cases h1 : 1 ≤ (nc : Int) ∧ (nc : Int) ≤ 3
  · rw [decide_eq_true h1] at hbw
    by_cases h2 : (nh : Int) ≤ 4
    · obtain ⟨r3, X3, e3, q3⟩ := R_anyI (mp := mp) (H := H ++ [.cells ⟨0, true, false⟩ [pr, .slice ac nc cc, .slice ah nh ch, vt]]) ha hi (g := fc) (caps := #[]) (P := fun y => ¬ (1 ≤ y ∧ y ≤ 3)) (by omega) (fun H' y _ _ => ⟨[], by rw [List.append_nil]; exact R_coreBad hc hb⟩) (e1.row rc)
      have x3 : Ext (H ++ [MObj.cells ⟨0, true, false⟩ [pr, .slice ac nc cc, .slice ah nh ch, vt]]) (H ++ [.cells ⟨0, true, false⟩ [pr, .slice ac nc cc, .slice ah nh ch, vt]] ++ X3) := ⟨_, rfl⟩
      have hx3 := x3.get hx
      cases r3 with
      | true =>
        refine ⟨false, [.cells ⟨0, true, false⟩ [pr, .slice ac nc cc, .slice ah nh ch, vt]] ++ X3, ?_, ?_⟩
        · simp at hbw e3
          rw [R_code hf]
          simp [cPlaced, ldx, hbw, h2, e3]
        · obtain ⟨y, hy, hn⟩ := q3.1 rfl
          simp only [Bool.false_eq_true, false_iff, placesB]
          exact fun h => hn (h.2.1 y hy)
      | false =>
        obtain ⟨r4, X4, e4, q4⟩ := R_anyI (mp := mp) (H := H ++ [.cells ⟨0, true, false⟩ [pr, .slice ac nc cc, .slice ah nh ch, vt]] ++ X3) ha hi (g := fh) (caps := #[.pointer (some ⟨H.length, 0, none⟩)]) (P := fun y => ¬ (0 ≤ y ∧ y < (nc : Int))) (by omega) (fun H' y x _ => ⟨[], by rw [List.append_nil]; exact R_homeBad hh hb (x.get hx3) (by omega)⟩) (x3.row (e1.row rh))
        refine ⟨!r4, [.cells ⟨0, true, false⟩ [pr, .slice ac nc cc, .slice ah nh ch, vt]] ++ X3 ++ X4, ?_, ?_⟩
        · simp at hbw e3 e4 hx3
          rw [R_code hf]
          simp [cPlaced, ldx, hbw, h2, e3, hx3, e4]
        · simp only [Bool.not_eq_true', placesB]
          constructor
          · intro h
            refine ⟨by omega, fun y hy => ?_, fun y hy => ?_⟩
            · by_cases g : 1 ≤ y ∧ y ≤ 3
              · exact g
              · exact absurd (q3.2 ⟨y, hy, g⟩) (by simp)
            · by_cases g : 0 ≤ y ∧ y < (nc : Int)
              · rw [← hnc]; exact g
              · exact absurd (q4.2 ⟨y, hy, g⟩) (by rw [h]; simp)
          · rintro ⟨_, _, h⟩
            cases r4 with
            | false => rfl
            | true =>
              obtain ⟨y, hy, g⟩ := q4.1 rfl
              rw [← hnc] at h
              exact absurd (h y hy) g
    · refine ⟨false, [.cells ⟨0, true, false⟩ [pr, .slice ac nc cc, .slice ah nh ch, vt]], ?_, ?_⟩
      · rw [R_code hf]
        simp [cPlaced, ldx, hbw, h2]
      · simp only [Bool.false_eq_true, false_iff, placesB]
        intro h; omega
  · rw [decide_eq_false h1] at hbw
    refine ⟨false, [.cells ⟨0, true, false⟩ [pr, .slice ac nc cc, .slice ah nh ch, vt]], ?_, ?_⟩
    · rw [R_code hf]
      simp [cPlaced, ldx, hbw]
    · simp only [Bool.false_eq_true, false_iff, placesB]
      intro h; omega
end
end Go.Mod
/- Heaps that only grow: what a call leaves has a name of its own; rows and boxes that are read, whatever has come behind them. -/
set_option linter.unusedVariables false
set_option linter.unusedSimpArgs false
namespace Go.Mod

/-! ### behind a call, a loop -/
section
variable (mp : FuncId → Option MDef)
open Classical in
/-- The heap behind a call. -/
noncomputable def aft (f : FuncId) (vs : List Value) (H : MH) : MH := match R mp f vs H with
  | some (_, H') => if Ext H H' then H' else H
  | none => H
open Classical in
noncomputable def aftL (c : MCode) (T : Reg) (H : MH) : MH := match Rc mp c T H with
  | some (_, _, H') => if Ext H H' then H' else H
  | none => H
/-- A call gives a value, and adds to the heap alone. -/
def GR (f : FuncId) (vs : List Value) (H : MH) (r : Value) : Prop := ∃ H', R mp f vs H = some (r, H') ∧ Ext H H'
def GL (c : MCode) (T : Reg) (H : MH) (x : MExit) (T' : Reg) : Prop := ∃ H', Rc mp c T H = some (x, T', H') ∧ Ext H H'
variable {mp}
variable {f : FuncId} {vs : List Value} {H H0 H1 : MH} {r : Value} {c : MCode} {T T' : Reg} {x : MExit} {b : Nat}
theorem GR.eq (h : GR mp f vs H r) : R mp f vs H = some (r, aft mp f vs H) := by
  obtain ⟨H', h1, h2⟩ := h
  unfold aft
  rw [h1]
  simp only [if_pos h2]
theorem GL.eq (h : GL mp c T H x T') : Rc mp c T H = some (x, T', aftL mp c T H) := by
  obtain ⟨H', h1, h2⟩ := h
  unfold aftL
  rw [h1]
  simp only [if_pos h2]
theorem GR.of {X : MH} (h : R mp f vs H = some (r, H ++ X)) : GR mp f vs H r := ⟨_, h, X, rfl⟩
theorem GR.of0 (h : R mp f vs H = some (r, H)) : GR mp f vs H r := ⟨_, h, Ext.refl H⟩
theorem ext_aft0 : Ext H (aft mp f vs H) := by
  unfold aft
  split
  · split
    · assumption
    · exact Ext.refl H
  · exact Ext.refl H
theorem ext_aftL0 : Ext H (aftL mp c T H) := by
  unfold aftL
  split
  · split
    · assumption
    · exact Ext.refl H
  · exact Ext.refl H
@[simp] theorem ext_refl : Ext H H := Ext.refl H
@[simp] theorem ext_aft (h : Ext H0 H) : Ext H0 (aft mp f vs H) := h.trans ext_aft0
@[simp] theorem ext_aftL (h : Ext H0 H) : Ext H0 (aftL mp c T H) := h.trans ext_aftL0
@[simp] theorem ext_app {X : MH} (h : Ext H0 H) : Ext H0 (H ++ X) := h.trans ⟨X, rfl⟩
@[simp] theorem lt_aft (h : b < H.length) : b < (aft mp f vs H).length := Nat.lt_of_lt_of_le h ext_aft0.len
@[simp] theorem lt_aftL (h : b < H.length) : b < (aftL mp c T H).length := Nat.lt_of_lt_of_le h ext_aftL0.len
theorem ext_get (e : Ext H H1) (h : b < H.length) : H1[b]? = H[b]? := by
  obtain ⟨X, rfl⟩ := e
  exact List.getElem?_append_left h
@[simp high] theorem get_aft (h : b < H.length) : (aft mp f vs H)[b]? = H[b]? := ext_get ext_aft0 h
@[simp high] theorem get_aftL (h : b < H.length) : (aftL mp c T H)[b]? = H[b]? := ext_get ext_aftL0 h
@[simp high] theorem get_app_lt {X : MH} (h : b < H.length) : (H ++ X)[b]? = H[b]? := List.getElem?_append_left h
@[simp high] theorem set_app_lt {X : MH} {o : MObj} (h : b < H.length) : (H ++ X).set b o = H.set b o ++ X := List.set_append_left _ _ h
theorem ext_set {o : MObj} (h : Ext H0 H) (hb : H0.length ≤ b) : Ext H0 (H.set b o) := by
  refine ⟨(H.set b o).drop H0.length, ?_⟩
  obtain ⟨X, rfl⟩ := h
  apply List.ext_getElem?
  intro k
  rcases Nat.lt_or_ge k H0.length with h | h
  · rw [List.getElem?_append_left h, List.getElem?_set_ne (by omega), List.getElem?_append_left h]
  · rw [List.getElem?_append_right h, List.getElem?_drop]; congr 1; omega
theorem GL.step {c' : MCode} {T1 : Reg} (h : Rc mp c T H = Rc mp c' T1 H1) (e : Ext H H1) (g : GL mp c' T1 H1 x T') : GL mp c T H x T' := by
  obtain ⟨H', g1, g2⟩ := g
  exact ⟨H', h.trans g1, e.trans g2⟩
/-- The loop's next round. -/
theorem ex_next {X : Option (MExit × Reg × MH)} {Y : MExit × Reg} (g : GL mp c T H1 x T') (e : Ext H H1) : ∃ H', Rc mp c T H1 = some (x, T', H') ∧ Ext H H' := by
  obtain ⟨H', g1, g2⟩ := g
  exact ⟨H', g1, e.trans g2⟩
end
theorem GL.next {mp : FuncId → Option MDef} {H H1 : MH} {c : MCode} {T T' : Reg} {x : MExit} (g : GL mp c T H1 x T') (e : Ext H H1) : ∃ H', Rc mp c T H1 = some (x, T', H') ∧ Ext H H' := by
  obtain ⟨H', g1, g2⟩ := g
  exact ⟨H', g1, e.trans g2⟩

/-! ### a box that is read -/
section
variable {H0 H : MH} {b : Nat} {i : Info} {cs : List Value}
theorem ldb (h : H0[b]? = some (.cells i cs)) : ∀ (H : MH) (o : Nat), Ext H0 H → mread (.ld none) [.pointer (some ⟨b, o, none⟩)] H = knownO cs[o]? := fun H o e => ld_at (e.get h) o
theorem ldbn (h : H0[b]? = some (.cells i cs)) : ∀ (H : MH) (o n : Nat), Ext H0 H → o + n ≤ cs.length → ((cs.drop o).take n).all one = true → mread (.ld (some n)) [.pointer (some ⟨b, o, none⟩)] H = some (.agg ((cs.drop o).take n).toArray) := fun H o n e h1 h2 => ldn_at (e.get h) o n h1 h2
end

/-! ### rows of records -/
def adB : Option Addr → Nat
  | some a => a.block
  | none => 0
def adO : Option Addr → Nat
  | some a => a.off
  | none => 0
/-- The records of a slice. -/
structure RowG {α : Type} (w : Nat) (H : MH) (a : Option Addr) (l : List α) (g : α → List Value) : Prop where
  ad : l = [] ∨ a = some ⟨adB a, adO a, none⟩
  rec_ : ∀ (k : Nat) x, l[k]? = some x → ∃ i cs, H[adB a]? = some (.cells i cs) ∧ i.es = w ∧ adO a + l.length * w ≤ cs.length ∧ (cs.drop (adO a + k * w)).take w = g x
  wid : ∀ x ∈ l, (g x).length = w ∧ (g x).all one = true
section
variable {α : Type} {w : Nat} {H0 : MH} {a : Option Addr} {l : List α} {g : α → List Value}
theorem RowG.ext {H : MH} (h : RowG w H0 a l g) (e : Ext H0 H) : RowG w H a l g :=
  ⟨h.ad, fun k x hx => by obtain ⟨i, cs, h1, h2⟩ := h.rec_ k x hx; exact ⟨i, cs, e.get h1, h2⟩, h.wid⟩
theorem RowG.nil {c : Option Addr} : RowG w H0 c ([] : List α) g := ⟨.inl rfl, by simp, by simp⟩
theorem RowG.of {n c : Nat} (h : Row w H0 (.slice a n c) (l.flatMap g)) (hw0 : 0 < w) (hw : ∀ x ∈ l, (g x).length = w ∧ (g x).all one = true) : RowG w H0 a l g ∧ n = l.length := by
  have hn := h.gn (fun x hx => (hw x hx).1) hw0
  refine ⟨⟨?_, fun k x hx => ?_, hw⟩, hn⟩
  · rcases Nat.eq_zero_or_pos l.length with h0 | h0
    · exact .inl (List.eq_nil_of_length_eq_zero h0)
    · obtain ⟨b, o, j, cs, rfl, _⟩ := h.grec (fun x hx => (hw x hx).1) hw0 (List.getElem?_eq_getElem h0)
      exact .inr rfl
  · rcases h with ⟨h1, h2⟩ | ⟨b, o, m, d, i, cs, h1, h2, h3, h4, h5, h6⟩
    · have h7 := flat_len (f := g) (w := w) (l := l) fun x hx => (hw x hx).1
      have hk := (List.getElem?_eq_some_iff.1 hx).1
      rw [h2, List.length_nil] at h7
      have h8 := Nat.mul_le_mul_right w (show 1 ≤ l.length by omega)
      exfalso; omega
    · cases h1
      refine ⟨i, cs, h3, h4, by rw [← hn]; exact h5, ?_⟩
      have hk := (List.getElem?_eq_some_iff.1 hx).1
      have hm := Nat.mul_le_mul_right w (show k + 1 ≤ n by omega)
      rw [Nat.add_mul] at hm
      have := flat_at (fun x hx => (hw x hx).1) hx
      rw [← h6, List.drop_take, List.take_take, List.drop_drop, Nat.min_eq_left (by omega)] at this
      exact this
theorem RowG.lt (h : RowG w H0 a l g) {k : Nat} {x : α} (hx : l[k]? = some x) : k < l.length := (List.getElem?_eq_some_iff.1 hx).1
theorem RowG.ia (h : RowG w H0 a l g) : ∀ (c : Nat) (k : IntKind) (i : Int), mpure (.ia w) [.slice a l.length c, .int k i] = if 0 ≤ i ∧ i < (l.length : Int) then some (.pointer (some ⟨adB a, adO a + i.toNat * w, none⟩)) else none := by
  intro c k i
  rcases h.ad with h1 | h1
  · subst h1
    rw [if_neg (by simp)]
    cases a with
    | none => rfl
    | some a =>
      obtain ⟨b, o, s⟩ := a
      cases s with
      | none =>
        show (if 0 ≤ i ∧ i < ((0 : Nat) : Int) then _ else none) = none
        rw [if_neg (by simp)]
      | some s => rfl
  · rw [h1]; exact ev_ia
theorem RowG.rd (h : RowG w H0 a l g) {k : Nat} {x : α} (hx : l[k]? = some x) : ∀ (H : MH) (j : Nat), Ext H0 H → j < w → mread (.ld none) [.pointer (some ⟨adB a, adO a + k * w + j, none⟩)] H = knownO (g x)[j]? := by
  intro H j e hj
  obtain ⟨i, cs, h1, h2, h3, h4⟩ := h.rec_ k x hx
  rw [ld_at (e.get h1), ← h4, List.getElem?_take, if_pos hj, List.getElem?_drop]
theorem RowG.rd0 (h : RowG w H0 a l g) {k : Nat} {x : α} (hx : l[k]? = some x) (hw : 0 < w) : ∀ (H : MH), Ext H0 H → mread (.ld none) [.pointer (some ⟨adB a, adO a + k * w, none⟩)] H = knownO (g x)[0]? := fun H e => h.rd hx H 0 e hw
theorem RowG.rd1 {l : List α} (h : RowG 1 H0 a l g) {k : Nat} {x : α} (hx : l[k]? = some x) : ∀ (H : MH), Ext H0 H → mread (.ld none) [.pointer (some ⟨adB a, adO a + k, none⟩)] H = knownO (g x)[0]? := fun H e => by
  have := h.rd0 hx (by omega) H e
  rwa [Nat.mul_one] at this
theorem RowG.rdn (h : RowG w H0 a l g) {k : Nat} {x : α} (hx : l[k]? = some x) : ∀ (H : MH), Ext H0 H → mread (.ld (some w)) [.pointer (some ⟨adB a, adO a + k * w, none⟩)] H = some (.agg (g x).toArray) := by
  intro H e
  obtain ⟨i, cs, h1, h2, h3, h4⟩ := h.rec_ k x hx
  have hk := h.lt hx
  have hm := Nat.mul_le_mul_right w (show k + 1 ≤ l.length by omega)
  rw [Nat.add_mul] at hm
  rw [ldn_at (e.get h1) _ _ (by omega) (by rw [h4]; exact (h.wid x (List.mem_of_getElem? hx)).2), h4]
/-- A beginning of it. -/
theorem RowG.take (h : RowG w H0 a l g) (k : Nat) : RowG w H0 a (l.take k) g := by
  refine ⟨h.ad.imp (fun h => by rw [h, List.take_nil]) fun h => h, fun j x hx => ?_, fun x hx => h.wid x (List.mem_of_mem_take hx)⟩
  have hj := (List.getElem?_eq_some_iff.1 hx).1
  rw [List.length_take] at hj
  rw [List.getElem?_take_of_lt (by omega)] at hx
  obtain ⟨i, cs, h1, h2, h3, h4⟩ := h.rec_ j x hx
  have := Nat.mul_le_mul_right w (show (l.take k).length ≤ l.length by rw [List.length_take]; omega)
  exact ⟨i, cs, h1, h2, by omega, h4⟩
theorem RowG.sl (h : RowG w H0 a l g) (h0 : l ≠ []) : ∀ (H : MH) (c : Nat) (lo hi mx : Bool) (bs : List Value), Ext H0 H → mread (.sl w lo hi mx) (.slice a l.length c :: bs) H = (slBound lo hi mx l.length c bs).map fun p => .slice (some ⟨adB a, adO a + p.1 * w, none⟩) (p.2.1 - p.1) (p.2.2 - p.1) := by
  intro H c lo hi mx bs e
  have hl : 0 < l.length := List.length_pos_iff.2 h0
  obtain ⟨i, cs, h1, h2, h3, h4⟩ := h.rec_ 0 _ (List.getElem?_eq_getElem hl)
  have ha := h.ad.resolve_left h0
  rw [ha]
  exact sl_at (e.get h1) h2 lo hi mx (adO a) l.length c bs
end
end Go.Mod
/- Sets of tasks: how they lie, what is asked of them; the program's answer. -/
set_option linter.unusedVariables false
set_option linter.unusedSimpArgs false
namespace Go.Mod

structure PartL where
  kind : Int
  len : Int
  res : Int
structure TaskL where
  name : ByteArray
  period : Int
  deadline : Int
  prio : Int
  cluster : Int
  pa : Option Addr
  pc : Nat
  parts : List PartL
structure SetL where
  proto : Int
  cores : List Int
  ca : Option Addr
  cc : Nat
  homes : List Int
  ha : Option Addr
  hc : Nat
  tasks : List TaskL
  ta : Option Addr
  tc : Nat
def intC (x : Int) : List Value := [.int .i64 x]
def partC (p : PartL) : List Value := [.int .i64 p.kind, .int .i64 p.len, .int .i64 p.res]
def taskC (t : TaskL) : List Value := [.string t.name, .int .i64 t.period, .int .i64 t.deadline, .int .i64 t.prio, .int .i64 t.cluster, .slice t.pa t.parts.length t.pc]
def SetL.cells (s : SetL) : List Value := [.int .i64 s.proto, .slice s.ca s.cores.length s.cc, .slice s.ha s.homes.length s.hc, .slice s.ta s.tasks.length s.tc]
/-- A set, as it lies. -/
structure SetAt (H : MH) (s : SetL) : Prop where
  cores : RowG 1 H s.ca s.cores intC
  homes : RowG 1 H s.ha s.homes intC
  tasks : RowG 6 H s.ta s.tasks taskC
  parts : ∀ t ∈ s.tasks, RowG 3 H t.pa t.parts partC
  few : s.cores.length ≤ 1000000 ∧ s.homes.length ≤ 1000000 ∧ s.tasks.length ≤ 1000000 ∧ s.tasks.length ≤ s.tc ∧ ∀ t ∈ s.tasks, t.name.size ≤ 1000000 ∧ t.parts.length ≤ 1000000
theorem SetAt.ext {H H1 : MH} {s : SetL} (h : SetAt H s) (e : Ext H H1) : SetAt H1 s := ⟨h.cores.ext e, h.homes.ext e, h.tasks.ext e, fun t ht => (h.parts t ht).ext e, h.few⟩

/-! ### what is asked -/
def partOk (nh : Nat) (p : PartL) : Prop := (1 ≤ p.kind ∧ p.kind ≤ 3 ∧ 1 ≤ p.len ∧ p.len ≤ 60) ∧ ((p.kind = 3 ∧ 0 ≤ p.res ∧ p.res < (nh : Int)) ∨ (p.kind ≠ 3 ∧ p.res = 0))
instance (nh : Nat) (p : PartL) : Decidable (partOk nh p) := by unfold partOk; exact inferInstance
def partsOk (nh : Nat) (l : List PartL) : Prop := (∀ p ∈ l, partOk nh p) ∧ 1 ≤ l.length ∧ l.length ≤ 6
def formOk (t : TaskL) : Prop := nameB t.name ∧ (1 ≤ t.period ∧ t.period ≤ 3000) ∧ (1 ≤ t.deadline ∧ t.deadline ≤ t.period) ∧ (1 ≤ t.prio ∧ t.prio ≤ 1000)
open Classical in
/-- What is wrong with a task. -/
noncomputable def taskE (s : SetL) (i : Nat) (t : TaskL) : Int :=
  if ¬ formOk t then 10 else if ¬ (0 ≤ t.cluster ∧ t.cluster < (s.cores.length : Int)) then 16 else
  if ∃ o ∈ s.tasks.take i, o.name = t.name ∨ o.prio = t.prio then 17 else if ¬ partsOk s.homes.length t.parts then 15 else 0
noncomputable def firstE (s : SetL) : Nat → List TaskL → Int × Int
  | _, [] => (-1, 0)
  | i, t :: l => if taskE s i t = 0 then firstE s (i + 1) l else ((i : Int), taskE s i t)
open Classical in
/-- What is wrong with a set, with which task. -/
noncomputable def checkE (s : SetL) : Int × Int :=
  if ¬ (1 ≤ s.proto ∧ s.proto ≤ 3) then (-1, 10) else if ¬ placesB s.cores s.homes then (-1, 16) else
  if 6 < s.tasks.length then (-1, 11) else if s.tasks = [] then (-1, 14) else firstE s 0 s.tasks
def okSet (s : SetL) : Prop := (checkE s).2 = 0

section
variable {mp : FuncId → Option MDef} {H0 H : MH}
/-! ### is there one -/
theorem ixG_loop {g : FuncId} {caps : Array Value} {P : Int → Prop} [DecidablePred P] {a : Option Addr} {c : Nat} {l : List Int} (hr : RowG 1 H0 a l intC) (hl : l.length ≤ 1000000)
    (hg : ∀ (H : MH) (y : Int), Ext H0 H → y ∈ l → GR mp g (.int .i64 y :: caps.toList) H (.bool (decide (P y)))) :
    ∀ (k i : Nat) (H : MH), i + k = l.length → Ext H0 H →
    ((∃ y ∈ l.drop i, P y) ∧ ∃ q : Nat, GL mp (.loop cIxI_0) [(0, .slice a l.length c), (1, .func (.func g) #[] caps), (7, .int .i64 (l.length : Int)), (8, .int .i64 (i : Int))] H .ret [(4, .int .i64 (q : Int))]) ∨
    ((¬ ∃ y ∈ l.drop i, P y) ∧ GL mp (.loop cIxI_0) [(0, .slice a l.length c), (1, .func (.func g) #[] caps), (7, .int .i64 (l.length : Int)), (8, .int .i64 (i : Int))] H (.exit 0) [(0, .slice a l.length c), (1, .func (.func g) #[] caps), (7, .int .i64 (l.length : Int)), (8, .int .i64 (l.length : Int)), (9, .bool false)]) := by
  intro k
  induction k with
  | zero =>
    intro i H hk e
    have : i = l.length := by omega
    subst this
    refine .inr ⟨by simp, ?_⟩
    unfold GL
    rw [Rc_loop]
    simp (maxDischargeDepth := 12) [cIxI_0]
  | succ k ih =>
    intro i H hk e
    have hin : i < l.length := by omega
    obtain ⟨y, hy⟩ : ∃ y, l[i]? = some y := ⟨_, List.getElem?_eq_getElem hin⟩
    have hd : l.drop i = y :: l.drop (i + 1) := by rw [List.drop_eq_getElem_cons hin]; congr 1; exact (List.getElem?_eq_some_iff.1 hy).2
    have hX := (hg H y e (List.mem_of_getElem? hy)).eq
    have w : IntKind.i64.wrap ((i : Int) + 1) = (i : Int) + 1 := wrap_i64 (by omega) (by omega)
    rw [hd]
    by_cases hp : P y
    · refine .inl ⟨⟨y, by simp, hp⟩, i, ?_⟩
      rw [decide_eq_true hp] at hX
      unfold GL
      rw [Rc_loop]
      simp (maxDischargeDepth := 12) [cIxI_0, hin, hr.ia, hr.rd1 hy, e, intC, hX]
    · rw [decide_eq_false hp] at hX
      rcases ih (i + 1) (aft mp g (.int .i64 y :: caps.toList) H) (by omega) (by simp [e]) with ⟨h1, q, h2⟩ | ⟨h1, h2⟩
      · refine .inl ⟨by simpa [hp] using h1, q, ?_⟩
        unfold GL
        rw [Rc_loop]
        simp (maxDischargeDepth := 12) [cIxI_0, hin, hr.ia, hr.rd1 hy, e, intC, hX, w]
        exact h2.next (by simp)
      · refine .inr ⟨by simpa [hp] using h1, ?_⟩
        unfold GL
        rw [Rc_loop]
        simp (maxDischargeDepth := 12) [cIxI_0, hin, hr.ia, hr.rd1 hy, e, intC, hX, w]
        exact h2.next (by simp)
theorem G_anyI {f fi g : FuncId} (hf : mp f = some (.code (cAnyI fi))) (hfi : mp fi = some (.code cIxI)) {caps : Array Value} {P : Int → Prop} [DecidablePred P] {a : Option Addr} {c : Nat} {l : List Int} (hr : RowG 1 H0 a l intC) (hl : l.length ≤ 1000000)
    (hg : ∀ (H : MH) (y : Int), Ext H0 H → y ∈ l → GR mp g (.int .i64 y :: caps.toList) H (.bool (decide (P y)))) (e : Ext H0 H) :
    GR mp f [.slice a l.length c, .func (.func g) #[] caps] H (.bool (decide (∃ y ∈ l, P y))) := by
  rcases ixG_loop (mp := mp) (c := c) hr hl hg l.length 0 H (by omega) e with ⟨h1, q, h2⟩ | ⟨h1, h2⟩
  · rw [List.drop_zero] at h1
    rw [decide_eq_true h1]
    have h3 : GR mp fi [.slice a l.length c, .func (.func g) #[] caps] H (.int .i64 (q : Int)) := by
      have h2 := h2.eq
      simp at h2
      unfold GR
      rw [R_code hfi]
      simp (maxDischargeDepth := 12) [cIxI, h2]
    have h0 : (0 : Int) ≤ (q : Int) := by omega
    unfold GR
    rw [R_code hf]
    simp (maxDischargeDepth := 12) [cAnyI, h3.eq]
  · rw [List.drop_zero] at h1
    rw [decide_eq_false h1]
    have h3 : GR mp fi [.slice a l.length c, .func (.func g) #[] caps] H (.int .i64 (-1)) := by
      have h2 := h2.eq
      simp at h2
      unfold GR
      rw [R_code hfi]
      simp (maxDischargeDepth := 12) [cIxI, h2]
    unfold GR
    rw [R_code hf]
    simp (maxDischargeDepth := 12) [cAnyI, h3.eq]
theorem G_between {fb : FuncId} (hf : mp fb = some (.code cBetween)) {a lo hi : Int} : R mp fb [.int .i64 a, .int .i64 lo, .int .i64 hi] H = some (.bool (decide (lo ≤ a ∧ a ≤ hi)), H) := R_between hf
/-- The program's functions over sets, by their numbers. -/
structure ChkP (mp : FuncId → Option MDef) (fb fc fh fa fi fq fn ft fx fy fp fo f : FuncId) : Prop where
  b : mp fb = some (.code cBetween)
  c : mp fc = some (.code (cCoreBad fb))
  h : mp fh = some (.code (cHomeBad fb))
  a : mp fa = some (.code (cAnyI fi))
  i : mp fi = some (.code cIxI)
  q : mp fq = some (.code (cPlaced fb fc fh fa))
  n : mp fn = some (.code cNameP)
  t : mp ft = some (.code cTwice)
  x : mp fx = some (.code (cAnyT fy))
  y : mp fy = some (.code cIxT)
  p : mp fp = some (.code (cParted fb))
  o : mp fo = some (.code (cOne fb fn ft fx fp))
  k : mp f = some (.code (cCheckP fb fq fo))
variable {fb fc fh fa fi fq fn ft fx fy fp fo f : FuncId}
open Classical in
theorem G_placedP (hc : ChkP mp fb fc fh fa fi fq fn ft fx fy fp fo f) {s : SetL} (hs : SetAt H0 s) (e : Ext H0 H) : GR mp fq [.agg s.cells.toArray] H (.bool (decide (placesB s.cores s.homes))) := by
  obtain ⟨n1, n2, n3, _⟩ := hs.few
  have e1 : Ext H (H ++ [.cells ⟨0, true, false⟩ s.cells]) := ⟨_, rfl⟩
  have hx : (H ++ [MObj.cells ⟨0, true, false⟩ s.cells])[H.length]? = some (.cells ⟨0, true, false⟩ s.cells) := by simp
  have c1 := fun (H' : MH) (e' : Ext (H ++ [.cells ⟨0, true, false⟩ s.cells]) H') => (G_anyI (mp := mp) (H := H') (c := s.cc) hc.a hc.i (g := fc) (caps := #[]) (P := fun y => ¬ (1 ≤ y ∧ y ≤ 3)) (hs.cores.ext (e.trans e1)) n1 (fun H' y _ _ => GR.of0 (R_coreBad hc.c hc.b)) e').eq
  have c2 := fun (H' : MH) (e' : Ext (H ++ [.cells ⟨0, true, false⟩ s.cells]) H') => (G_anyI (mp := mp) (H := H') (c := s.hc) hc.a hc.i (g := fh) (caps := #[.pointer (some ⟨H.length, 0, none⟩)]) (P := fun y => ¬ (0 ≤ y ∧ y < (s.cores.length : Int))) (hs.homes.ext (e.trans e1)) n2 (fun H' y x _ => GR.of0 (R_homeBad hc.h hc.b (x.get hx) n1)) e').eq
  have hb := fun (H' : MH) => G_between (mp := mp) (H := H') hc.b (a := (s.cores.length : Int)) (lo := 1) (hi := 3)
  have hd := ldb hx
  simp only [SetL.cells] at c1 c2 hd
  have key : decide (placesB s.cores s.homes) = (decide (1 ≤ (s.cores.length : Int) ∧ (s.cores.length : Int) ≤ 3) && decide ((s.homes.length : Int) ≤ 4) && !decide (∃ y ∈ s.cores, ¬ (1 ≤ y ∧ y ≤ 3)) && !decide (∃ y ∈ s.homes, ¬ (0 ≤ y ∧ y < (s.cores.length : Int)))) := by
    rw [Bool.eq_iff_iff, decide_eq_true_iff]
    simp only [decide_eq_true_eq, Bool.and_eq_true, Bool.not_eq_true', decide_eq_false_iff_not, not_exists, not_and, Classical.not_not, placesB]
    constructor
    · rintro ⟨⟨h1, h2, h3⟩, h4, h5⟩; exact ⟨⟨⟨by omega, by omega⟩, fun y hy => by have := h4 y hy; omega⟩, fun y hy => by have := h5 y hy; omega⟩
    · rintro ⟨⟨⟨h1, h2⟩, h4⟩, h5⟩; exact ⟨⟨by omega, by omega, by omega⟩, fun y hy => by have := h4 y hy; omega, fun y hy => by have := h5 y hy; omega⟩
  rw [key]
  unfold GR
  rw [R_code hc.q]
  generalize decide (∃ y ∈ s.cores, ¬ (1 ≤ y ∧ y ≤ 3)) = x1 at c1 ⊢
  generalize decide (∃ y ∈ s.homes, ¬ (0 ≤ y ∧ y < (s.cores.length : Int))) = x2 at c2 ⊢
  generalize decide (1 ≤ (s.cores.length : Int) ∧ (s.cores.length : Int) ≤ 3) = x3 at hb ⊢
  by_cases h4 : (s.homes.length : Int) ≤ 4
  · cases x3 <;> cases x1 <;> simp (maxDischargeDepth := 12) [cPlaced, SetL.cells, hd, hb, h4, c1, c2]
  · cases x3 <;> simp (maxDischargeDepth := 12) [cPlaced, SetL.cells, hd, hb, h4, c1, c2]

/-! ### one of the others -/
theorem G_twice (hc : ChkP mp fb fc fh fa fi fq fn ft fx fy fp fo f) {t y : TaskL} {bx : Nat} {ix : Info} (hx : H0[bx]? = some (.cells ix (taskC t))) (e : Ext H0 H) :
    GR mp ft (.agg (taskC y).toArray :: (#[.pointer (some ⟨bx, 0, none⟩)] : Array Value).toList) H (.bool (decide (y.name = t.name ∨ y.prio = t.prio))) := by
  have hd := ldb hx
  have hg := hd (H ++ [.cells ⟨0, true, false⟩ (taskC y)])
  simp only [taskC] at hd hg
  unfold GR
  rw [R_code hc.t]
  by_cases h1 : y.name = t.name
  · simp (maxDischargeDepth := 12) [cTwice, taskC, ldx, hd, e, ba_eq_iff, h1]
  · by_cases h2 : y.prio = t.prio
    · simp (maxDischargeDepth := 12) [cTwice, taskC, ldx, hd, e, ba_eq_iff, h1, h2]
    · simp (maxDischargeDepth := 12) [cTwice, taskC, ldx, hd, e, ba_eq_iff, h1, h2]
theorem ixT_loop {g : FuncId} {caps : Array Value} {P : TaskL → Prop} [DecidablePred P] {a : Option Addr} {c : Nat} {l : List TaskL} (hr : RowG 6 H0 a l taskC) (hl : l.length ≤ 1000000)
    (hg : ∀ (H : MH) (y : TaskL), Ext H0 H → y ∈ l → GR mp g (.agg (taskC y).toArray :: caps.toList) H (.bool (decide (P y)))) :
    ∀ (k i : Nat) (H : MH), i + k = l.length → Ext H0 H →
    ((∃ y ∈ l.drop i, P y) ∧ ∃ q : Nat, GL mp (.loop cIxT_0) [(0, .slice a l.length c), (1, .func (.func g) #[] caps), (7, .int .i64 (l.length : Int)), (8, .int .i64 (i : Int))] H .ret [(4, .int .i64 (q : Int))]) ∨
    ((¬ ∃ y ∈ l.drop i, P y) ∧ GL mp (.loop cIxT_0) [(0, .slice a l.length c), (1, .func (.func g) #[] caps), (7, .int .i64 (l.length : Int)), (8, .int .i64 (i : Int))] H (.exit 0) [(0, .slice a l.length c), (1, .func (.func g) #[] caps), (7, .int .i64 (l.length : Int)), (8, .int .i64 (l.length : Int)), (9, .bool false)]) := by
  intro k
  induction k with
  | zero =>
    intro i H hk e
    have : i = l.length := by omega
    subst this
    refine .inr ⟨by simp, ?_⟩
    unfold GL
    rw [Rc_loop]
    simp (maxDischargeDepth := 12) [cIxT_0]
  | succ k ih =>
    intro i H hk e
    have hin : i < l.length := by omega
    obtain ⟨y, hy⟩ : ∃ y, l[i]? = some y := ⟨_, List.getElem?_eq_getElem hin⟩
    have hd : l.drop i = y :: l.drop (i + 1) := by rw [List.drop_eq_getElem_cons hin]; congr 1; exact (List.getElem?_eq_some_iff.1 hy).2
    have hX := (hg H y e (List.mem_of_getElem? hy)).eq
    have w : IntKind.i64.wrap ((i : Int) + 1) = (i : Int) + 1 := wrap_i64 (by omega) (by omega)
    rw [hd]
    by_cases hp : P y
    · refine .inl ⟨⟨y, by simp, hp⟩, i, ?_⟩
      rw [decide_eq_true hp] at hX
      unfold GL
      rw [Rc_loop]
      simp (maxDischargeDepth := 12) [cIxT_0, hin, hr.ia, hr.rdn hy, e, hX]
    · rw [decide_eq_false hp] at hX
      rcases ih (i + 1) (aft mp g (.agg (taskC y).toArray :: caps.toList) H) (by omega) (by simp [e]) with ⟨h1, q, h2⟩ | ⟨h1, h2⟩
      · refine .inl ⟨by simpa [hp] using h1, q, ?_⟩
        unfold GL
        rw [Rc_loop]
        simp (maxDischargeDepth := 12) [cIxT_0, hin, hr.ia, hr.rdn hy, e, hX, w]
        exact h2.next (by simp)
      · refine .inr ⟨by simpa [hp] using h1, ?_⟩
        unfold GL
        rw [Rc_loop]
        simp (maxDischargeDepth := 12) [cIxT_0, hin, hr.ia, hr.rdn hy, e, hX, w]
        exact h2.next (by simp)
theorem G_anyT {f fi g : FuncId} (hf : mp f = some (.code (cAnyT fi))) (hfi : mp fi = some (.code cIxT)) {caps : Array Value} {P : TaskL → Prop} [DecidablePred P] {a : Option Addr} {c : Nat} {l : List TaskL} (hr : RowG 6 H0 a l taskC) (hl : l.length ≤ 1000000)
    (hg : ∀ (H : MH) (y : TaskL), Ext H0 H → y ∈ l → GR mp g (.agg (taskC y).toArray :: caps.toList) H (.bool (decide (P y)))) (e : Ext H0 H) :
    GR mp f [.slice a l.length c, .func (.func g) #[] caps] H (.bool (decide (∃ y ∈ l, P y))) := by
  rcases ixT_loop (mp := mp) (c := c) hr hl hg l.length 0 H (by omega) e with ⟨h1, q, h2⟩ | ⟨h1, h2⟩
  · rw [List.drop_zero] at h1
    rw [decide_eq_true h1]
    have h3 : GR mp fi [.slice a l.length c, .func (.func g) #[] caps] H (.int .i64 (q : Int)) := by
      have h2 := h2.eq
      simp at h2
      unfold GR
      rw [R_code hfi]
      simp (maxDischargeDepth := 12) [cIxT, h2]
    have h0 : (0 : Int) ≤ (q : Int) := by omega
    unfold GR
    rw [R_code hf]
    simp (maxDischargeDepth := 12) [cAnyT, h3.eq]
  · rw [List.drop_zero] at h1
    rw [decide_eq_false h1]
    have h3 : GR mp fi [.slice a l.length c, .func (.func g) #[] caps] H (.int .i64 (-1)) := by
      have h2 := h2.eq
      simp at h2
      unfold GR
      rw [R_code hfi]
      simp (maxDischargeDepth := 12) [cIxT, h2]
    unfold GR
    rw [R_code hf]
    simp (maxDischargeDepth := 12) [cAnyT, h3.eq]

/-! ### parts -/
theorem parted_loop (hc : ChkP mp fb fc fh fa fi fq fn ft fx fy fp fo f) {a : Option Addr} {c nh ch bx : Nat} {ah : Option Addr} {l : List PartL} {ix : Info} {v0 v1 v3 : Value} (hr : RowG 3 H0 a l partC) (hl : l.length ≤ 1000000) (hnh : nh ≤ 1000000) (hx : H0[bx]? = some (.cells ix [v0, v1, .slice ah nh ch, v3])) :
    ∀ (k i : Nat) (H : MH), i + k = l.length → Ext H0 H →
    ((∀ p ∈ l.drop i, partOk nh p) ∧ GL mp (.loop (cParted_0 fb)) [(1, .slice a l.length c), (2, .pointer (some ⟨bx, 0, none⟩)), (7, .slice a l.length c), (8, .int .i64 (l.length : Int)), (9, .int .i64 (i : Int))] H (.exit 0) [(1, .slice a l.length c), (2, .pointer (some ⟨bx, 0, none⟩)), (7, .slice a l.length c), (8, .int .i64 (l.length : Int)), (9, .int .i64 (l.length : Int)), (10, .bool false)]) ∨
    ((¬ ∀ p ∈ l.drop i, partOk nh p) ∧ GL mp (.loop (cParted_0 fb)) [(1, .slice a l.length c), (2, .pointer (some ⟨bx, 0, none⟩)), (7, .slice a l.length c), (8, .int .i64 (l.length : Int)), (9, .int .i64 (i : Int))] H .ret [(4, .bool false)]) := by
  intro k
  induction k with
  | zero =>
    intro i H hk e
    have : i = l.length := by omega
    subst this
    refine .inl ⟨by simp, ?_⟩
    unfold GL
    rw [Rc_loop]
    simp (maxDischargeDepth := 12) [cParted_0]
  | succ k ih =>
    intro i H hk e
    have hin : i < l.length := by omega
    obtain ⟨p, hp⟩ : ∃ p, l[i]? = some p := ⟨_, List.getElem?_eq_getElem hin⟩
    have hd : l.drop i = p :: l.drop (i + 1) := by rw [List.drop_eq_getElem_cons hin]; congr 1; exact (List.getElem?_eq_some_iff.1 hp).2
    have w : IntKind.i64.wrap ((i : Int) + 1) = (i : Int) + 1 := wrap_i64 (by omega) (by omega)
    have w2 : IntKind.i64.wrap ((nh : Int) - 1) = (nh : Int) - 1 := wrap_i64 (by omega) (by omega)
    have b1 := fun (H' : MH) => G_between (mp := mp) (H := H') hc.b (a := p.kind) (lo := 1) (hi := 3)
    have b2 := fun (H' : MH) => G_between (mp := mp) (H := H') hc.b (a := p.len) (lo := 1) (hi := 60)
    have b3 := fun (H' : MH) => G_between (mp := mp) (H := H') hc.b (a := p.res) (lo := 0) (hi := (nh : Int) - 1)
    have hdx := ldb hx
    rw [hd]
    have key : partOk nh p ↔ (decide (1 ≤ p.kind ∧ p.kind ≤ 3) = true ∧ decide (1 ≤ p.len ∧ p.len ≤ 60) = true ∧ ((p.kind = 3 ∧ decide (0 ≤ p.res ∧ p.res ≤ (nh : Int) - 1) = true) ∨ (p.kind ≠ 3 ∧ p.res = 0))) := by
      simp only [partOk, decide_eq_true_eq]; omega
    generalize decide (1 ≤ p.kind ∧ p.kind ≤ 3) = x1 at b1 key
    generalize decide (1 ≤ p.len ∧ p.len ≤ 60) = x2 at b2 key
    generalize decide (0 ≤ p.res ∧ p.res ≤ (nh : Int) - 1) = x3 at b3 key
    have hrd := hr.rdn hp
    simp only [partC] at hrd
    by_cases hok : partOk nh p
    · obtain ⟨rfl, rfl, hor⟩ := key.1 hok
      have ih' := fun (H' : MH) (e' : Ext H0 H') => ih (i + 1) H' (by omega) e'
      rcases ih (i + 1) (H ++ [.cells ⟨0, true, false⟩ [.int .i64 p.kind, .int .i64 p.len, .int .i64 p.res]]) (by omega) (by simp [e]) with ⟨h1, h2⟩ | ⟨h1, h2⟩
      · refine .inl ⟨by simpa [hok] using h1, ?_⟩
        unfold GL
        rw [Rc_loop]
        rcases hor with ⟨k3, rfl⟩ | ⟨k3, z⟩
        · rw [k3] at hrd b1 h2
          simp (maxDischargeDepth := 12) [cParted_0, hin, hr.ia, hrd, e, stx, ldx, b1, b2, b3, w, w2, hdx]
          exact h2.next (by simp)
        · rw [z] at hrd h2
          simp (maxDischargeDepth := 12) [cParted_0, hin, hr.ia, hrd, e, stx, ldx, b1, b2, k3, w, w2, hdx]
          exact h2.next (by simp)
      · refine .inr ⟨by simpa [hok] using h1, ?_⟩
        unfold GL
        rw [Rc_loop]
        rcases hor with ⟨k3, rfl⟩ | ⟨k3, z⟩
        · rw [k3] at hrd b1 h2
          simp (maxDischargeDepth := 12) [cParted_0, hin, hr.ia, hrd, e, stx, ldx, b1, b2, b3, w, w2, hdx]
          exact h2.next (by simp)
        · rw [z] at hrd h2
          simp (maxDischargeDepth := 12) [cParted_0, hin, hr.ia, hrd, e, stx, ldx, b1, b2, k3, w, w2, hdx]
          exact h2.next (by simp)
    · refine .inr ⟨by simp [hok], ?_⟩
      unfold GL
      rw [Rc_loop]
      cases x1 with
      | false => simp (maxDischargeDepth := 12) [cParted_0, hin, hr.ia, hrd, e, stx, ldx, b1, w, w2, hdx]
      | true =>
        cases x2 with
        | false => simp (maxDischargeDepth := 12) [cParted_0, hin, hr.ia, hrd, e, stx, ldx, b1, b2, w, w2, hdx]
        | true =>
          by_cases k3 : p.kind = 3
          · have : x3 = false := by
              cases x3 with
              | false => rfl
              | true => exact absurd (key.2 ⟨rfl, rfl, .inl ⟨k3, rfl⟩⟩) hok
            subst this
            rw [k3] at hrd b1
            simp (maxDischargeDepth := 12) [cParted_0, hin, hr.ia, hrd, e, stx, ldx, b1, b2, b3, w, w2, hdx]
          · have z : ¬ p.res = 0 := fun z => hok (key.2 ⟨rfl, rfl, .inr ⟨k3, z⟩⟩)
            simp (maxDischargeDepth := 12) [cParted_0, hin, hr.ia, hrd, e, stx, ldx, b1, b2, k3, z, w, w2, hdx]
open Classical in
theorem G_parted (hc : ChkP mp fb fc fh fa fi fq fn ft fx fy fp fo f) {a : Option Addr} {c nh ch : Nat} {ah : Option Addr} {l : List PartL} {v0 v1 v3 : Value} (o0 : one v0 = true) (o1 : one v1 = true) (o3 : one v3 = true) (hr : RowG 3 H0 a l partC) (hl : l.length ≤ 1000000) (hnh : nh ≤ 1000000) (e : Ext H0 H) :
    GR mp fp [.agg #[v0, v1, .slice ah nh ch, v3], .slice a l.length c] H (.bool (decide (partsOk nh l))) := by
  have e1 : Ext H (H ++ [.cells ⟨0, true, false⟩ [v0, v1, .slice ah nh ch, v3]]) := ⟨_, rfl⟩
  have hb := fun (H' : MH) => G_between (mp := mp) (H := H') hc.b (a := (l.length : Int)) (lo := 1) (hi := 6)
  rcases parted_loop hc (c := c) (hr.ext (e.trans e1)) hl hnh (bx := H.length) (ix := ⟨0, true, false⟩) (v0 := v0) (v1 := v1) (v3 := v3) (ah := ah) (ch := ch) (by simp) l.length 0 _ (by omega) (Ext.refl _) with ⟨h1, h2⟩ | ⟨h1, h2⟩
  · have h2 := h2.eq
    rw [List.drop_zero] at h1
    have : decide (partsOk nh l) = decide (1 ≤ (l.length : Int) ∧ (l.length : Int) ≤ 6) := by
      rw [decide_eq_decide]
      simp only [partsOk]
      exact ⟨fun h => by omega, fun h => ⟨h1, by omega⟩⟩
    rw [this]
    generalize decide (1 ≤ (l.length : Int) ∧ (l.length : Int) ≤ 6) = x at hb ⊢
    simp at h2
    unfold GR
    rw [R_code hc.p]
    simp (maxDischargeDepth := 12) [cParted, h2, hb]
  · have h2 := h2.eq
    rw [List.drop_zero] at h1
    have : decide (partsOk nh l) = false := decide_eq_false fun h => h1 h.1
    rw [this]
    simp at h2
    unfold GR
    rw [R_code hc.p]
    simp (maxDischargeDepth := 12) [cParted, h2]

/-! ### a task -/
theorem RowG.norm {α : Type} {w : Nat} {a : Option Addr} {l : List α} {g : α → List Value} (h : RowG w H0 a l g) : RowG w H0 (some ⟨adB a, adO a, none⟩) l g := ⟨.inr rfl, h.rec_, h.wid⟩
open Classical in
theorem G_one (hc : ChkP mp fb fc fh fa fi fq fn ft fx fy fp fo f) {s : SetL} (hs : SetAt H0 s) (e : Ext H0 H) {i : Nat} {t : TaskL} (ht : s.tasks[i]? = some t) :
    GR mp fo [.agg s.cells.toArray, .int .i64 (i : Int)] H (.int .i64 (taskE s i t)) := by
  obtain ⟨n1, n2, n3, n4, n5⟩ := hs.few
  obtain ⟨n6, n7⟩ := n5 t (List.mem_of_getElem? ht)
  have hi := hs.tasks.lt ht
  have hne : s.tasks ≠ [] := fun h => by rw [h] at ht; simp at ht
  have hg1 : (H ++ [MObj.cells ⟨0, true, false⟩ s.cells, .cells ⟨0, true, false⟩ (taskC t)])[H.length + 1]? = some (.cells ⟨0, true, false⟩ (taskC t)) := by simp
  have e1 : Ext H (H ++ [MObj.cells ⟨0, true, false⟩ s.cells, .cells ⟨0, true, false⟩ (taskC t)]) := ⟨_, rfl⟩
  have hg0 : (H ++ [MObj.cells ⟨0, true, false⟩ s.cells, .cells ⟨0, true, false⟩ (taskC t)])[H.length]? = some (.cells ⟨0, true, false⟩ s.cells) := by simp
  have hdA : ∀ o, mread (.ld none) [.pointer (some ⟨H.length, o, none⟩)] (H ++ [MObj.cells ⟨0, true, false⟩ s.cells]) = knownO s.cells[o]? := fun o => ldb (H0 := H ++ [MObj.cells ⟨0, true, false⟩ s.cells]) (b := H.length) (i := ⟨0, true, false⟩) (by simp) _ o (Ext.refl _)
  have hd0 := ldb hg0
  have hd1 := ldb hg1
  have hdn := ldbn hg0
  have hrd := hs.tasks.rdn ht
  have hsl := hs.tasks.sl hne
  have cx := fun (H' : MH) (e' : Ext (H ++ [MObj.cells ⟨0, true, false⟩ s.cells, .cells ⟨0, true, false⟩ (taskC t)]) H') => (G_anyT (mp := mp) (H := H') (c := s.tc) hc.x hc.y (g := ft) (caps := #[.pointer (some ⟨H.length + 1, 0, none⟩)]) (P := fun o => o.name = t.name ∨ o.prio = t.prio) ((hs.tasks.ext (e.trans e1)).norm.take i) (by rw [List.length_take]; omega) (fun H' y x _ => G_twice hc hg1 x) e').eq
  have cp := fun (H' : MH) (e' : Ext H0 H') => (G_parted (mp := mp) (H := H') (c := t.pc) (nh := s.homes.length) (ch := s.hc) (ah := s.ha) (v0 := .int .i64 s.proto) (v1 := .slice s.ca s.cores.length s.cc) (v3 := .slice s.ta s.tasks.length s.tc) hc rfl rfl rfl (hs.parts t (List.mem_of_getElem? ht)) n7 n2 e').eq
  obtain ⟨r, _, hr2⟩ := R_nameP (mp := mp) (H := H) hc.n (s := t.name) n6
  have cn : ∀ H' : MH, R mp fn [.string t.name] H' = some (.bool r, H') := fun H' => by
    obtain ⟨r', a1, a2⟩ := R_nameP (mp := mp) (H := H') hc.n (s := t.name) n6
    rw [a1]
    have : r' = r := by rw [Bool.eq_iff_iff, a2, hr2]
    rw [this]
  have b1 := fun (H' : MH) => G_between (mp := mp) (H := H') hc.b (a := t.period) (lo := 1) (hi := 3000)
  have b2 := fun (H' : MH) => G_between (mp := mp) (H := H') hc.b (a := t.deadline) (lo := 1) (hi := t.period)
  have b3 := fun (H' : MH) => G_between (mp := mp) (H := H') hc.b (a := t.prio) (lo := 1) (hi := 1000)
  have b4 := fun (H' : MH) => G_between (mp := mp) (H := H') hc.b (a := t.cluster) (lo := 0) (hi := (s.cores.length : Int) - 1)
  have w2 : IntKind.i64.wrap ((s.cores.length : Int) - 1) = (s.cores.length : Int) - 1 := wrap_i64 (by omega) (by omega)
  have key : formOk t ↔ (r = true ∧ decide (1 ≤ t.period ∧ t.period ≤ 3000) = true ∧ decide (1 ≤ t.deadline ∧ t.deadline ≤ t.period) = true ∧ decide (1 ≤ t.prio ∧ t.prio ≤ 1000) = true) := by
    simp only [formOk, hr2, decide_eq_true_eq]
  have key4 : (0 ≤ t.cluster ∧ t.cluster < (s.cores.length : Int)) ↔ decide (0 ≤ t.cluster ∧ t.cluster ≤ (s.cores.length : Int) - 1) = true := by
    simp only [decide_eq_true_eq]; omega
  have hlt : (s.tasks.take i).length = i := by rw [List.length_take]; omega
  rw [hlt] at cx
  generalize decide (1 ≤ t.period ∧ t.period ≤ 3000) = x1 at b1 key
  generalize decide (1 ≤ t.deadline ∧ t.deadline ≤ t.period) = x2 at b2 key
  generalize decide (1 ≤ t.prio ∧ t.prio ≤ 1000) = x3 at b3 key
  generalize decide (0 ≤ t.cluster ∧ t.cluster ≤ (s.cores.length : Int) - 1) = x4 at b4 key4
  have hic : (i : Int) ≤ (s.tc : Int) := by omega
  simp only [SetL.cells, taskC] at hdA hd0 hd1 hdn hrd cx
  unfold GR
  rw [R_code hc.o]
  unfold taskE
  by_cases hf : formOk t
  · obtain ⟨rfl, rfl, rfl, rfl⟩ := key.1 hf
    rw [if_neg (by simp [hf])]
    by_cases h4 : (0 ≤ t.cluster ∧ t.cluster < (s.cores.length : Int))
    · have := key4.1 h4
      subst this
      rw [if_neg (by simp [h4])]
      by_cases h5 : ∃ o ∈ s.tasks.take i, o.name = t.name ∨ o.prio = t.prio
      · rw [if_pos h5]
        rw [decide_eq_true h5] at cx
        simp (maxDischargeDepth := 12) [cOne, SetL.cells, hi, hs.tasks.ia, hrd, e, stx, hdA, hd0, hd1, cn, b1, b2, b3, b4, w2, hsl, hic, cx]
      · rw [if_neg h5]
        rw [decide_eq_false h5] at cx
        by_cases h6 : partsOk s.homes.length t.parts
        · rw [if_neg (by simp [h6])]
          rw [decide_eq_true h6] at cp
          simp (maxDischargeDepth := 12) [cOne, SetL.cells, hi, hs.tasks.ia, hrd, e, stx, hdA, hd0, hd1, hdn, cn, b1, b2, b3, b4, w2, hsl, hic, cx, cp]
        · rw [if_pos h6]
          rw [decide_eq_false h6] at cp
          simp (maxDischargeDepth := 12) [cOne, SetL.cells, hi, hs.tasks.ia, hrd, e, stx, hdA, hd0, hd1, hdn, cn, b1, b2, b3, b4, w2, hsl, hic, cx, cp]
    · have : x4 = false := by
        cases x4 with
        | false => rfl
        | true => exact absurd (key4.2 rfl) h4
      subst this
      rw [if_pos h4]
      simp (maxDischargeDepth := 12) [cOne, SetL.cells, hi, hs.tasks.ia, hrd, e, stx, hdA, hd0, hd1, cn, b1, b2, b3, b4, w2]
  · rw [if_pos hf]
    cases r <;> cases x1 <;> cases x2 <;> cases x3 <;> first
      | (exfalso; exact hf (key.2 ⟨rfl, rfl, rfl, rfl⟩))
      | simp (maxDischargeDepth := 12) [cOne, SetL.cells, hi, hs.tasks.ia, hrd, e, stx, hdA, hd0, hd1, cn, b1, b2, b3]

/-! ### a set -/
theorem checkP_loop (hc : ChkP mp fb fc fh fa fi fq fn ft fx fy fp fo f) {s : SetL} (hs : SetAt H0 s) {bx : Nat} {ix : Info} (hx : H0[bx]? = some (.cells ix s.cells)) : ∀ (k i : Nat) (H : MH), i + k = s.tasks.length → Ext H0 H →
    ((firstE s i (s.tasks.drop i)).2 = 0 ∧ firstE s i (s.tasks.drop i) = (-1, 0) ∧ GL mp (.loop (cCheckP_0 fb fq fo)) [(1, .pointer (some ⟨bx, 0, none⟩)), (27, .int .i64 (s.tasks.length : Int)), (28, .int .i64 (i : Int))] H (.exit 1) [(1, .pointer (some ⟨bx, 0, none⟩)), (27, .int .i64 (s.tasks.length : Int)), (28, .int .i64 (s.tasks.length : Int)), (29, .bool false)]) ∨
    ((firstE s i (s.tasks.drop i)).2 ≠ 0 ∧ GL mp (.loop (cCheckP_0 fb fq fo)) [(1, .pointer (some ⟨bx, 0, none⟩)), (27, .int .i64 (s.tasks.length : Int)), (28, .int .i64 (i : Int))] H .ret [(2, .int .i64 (firstE s i (s.tasks.drop i)).1), (3, .int .i64 (firstE s i (s.tasks.drop i)).2)]) := by
  intro k
  induction k with
  | zero =>
    intro i H hk e
    have : i = s.tasks.length := by omega
    subst this
    refine .inl ⟨by simp [firstE], by simp [firstE], ?_⟩
    unfold GL
    rw [Rc_loop]
    simp (maxDischargeDepth := 12) [cCheckP_0]
  | succ k ih =>
    intro i H hk e
    obtain ⟨n1, n2, n3, n4, n5⟩ := hs.few
    have hin : i < s.tasks.length := by omega
    obtain ⟨t, ht⟩ : ∃ p, s.tasks[i]? = some p := ⟨_, List.getElem?_eq_getElem hin⟩
    have hd : s.tasks.drop i = t :: s.tasks.drop (i + 1) := by rw [List.drop_eq_getElem_cons hin]; congr 1; exact (List.getElem?_eq_some_iff.1 ht).2
    have w : IntKind.i64.wrap ((i : Int) + 1) = (i : Int) + 1 := wrap_i64 (by omega) (by omega)
    have ho := fun (H' : MH) (e' : Ext H0 H') => (G_one (H := H') hc hs e' ht).eq
    have hdn := ldbn hx
    simp only [SetL.cells] at hdn ho
    rw [hd]
    by_cases h0 : taskE s i t = 0
    · rw [h0] at ho
      have hfe : firstE s i (t :: s.tasks.drop (i + 1)) = firstE s (i + 1) (s.tasks.drop (i + 1)) := by simp only [firstE]; rw [if_pos h0]
      rw [hfe]
      rcases ih (i + 1) (aft mp fo [.agg s.cells.toArray, .int .i64 (i : Int)] H) (by omega) (by simp [e]) with ⟨h1, h2, h3⟩ | ⟨h1, h3⟩
      · refine .inl ⟨h1, h2, ?_⟩
        unfold GL
        rw [Rc_loop]
        simp (maxDischargeDepth := 12) [cCheckP_0, hin, hdn, e, ho, w]
        exact h3.next (by simp)
      · refine .inr ⟨h1, ?_⟩
        unfold GL
        rw [Rc_loop]
        simp (maxDischargeDepth := 12) [cCheckP_0, hin, hdn, e, ho, w]
        exact h3.next (by simp)
    · have hfe : firstE s i (t :: s.tasks.drop (i + 1)) = ((i : Int), taskE s i t) := by simp only [firstE]; rw [if_neg h0]
      rw [hfe]
      refine .inr ⟨h0, ?_⟩
      unfold GL
      rw [Rc_loop]
      simp (maxDischargeDepth := 12) [cCheckP_0, hin, hdn, e, ho, w, h0]
open Classical in
theorem G_checkP (hc : ChkP mp fb fc fh fa fi fq fn ft fx fy fp fo f) {s : SetL} (hs : SetAt H0 s) (e : Ext H0 H) : GR mp f [.agg s.cells.toArray] H (.tuple #[.int .i64 (checkE s).1, .int .i64 (checkE s).2]) := by
  have e1 : Ext H (H ++ [.cells ⟨0, true, false⟩ s.cells]) := ⟨_, rfl⟩
  have hx : (H ++ [MObj.cells ⟨0, true, false⟩ s.cells])[H.length]? = some (.cells ⟨0, true, false⟩ s.cells) := by simp
  have hq := fun (H' : MH) (e' : Ext H0 H') => (G_placedP (H := H') hc hs e').eq
  have hb := fun (H' : MH) => G_between (mp := mp) (H := H') hc.b (a := s.proto) (lo := 1) (hi := 3)
  have hd := ldb hx
  have hdn := ldbn hx
  simp only [SetL.cells] at hd hdn hq
  unfold GR
  rw [R_code hc.k]
  unfold checkE
  by_cases h1 : 1 ≤ s.proto ∧ s.proto ≤ 3
  · rw [if_neg (by simp [h1])]
    rw [decide_eq_true h1] at hb
    by_cases h2 : placesB s.cores s.homes
    · rw [if_neg (by simp [h2])]
      rw [decide_eq_true h2] at hq
      by_cases h3 : 6 < s.tasks.length
      · rw [if_pos h3]
        have h3' : (6 : Int) < (s.tasks.length : Int) := by omega
        simp (maxDischargeDepth := 12) [cCheckP, SetL.cells, hd, hdn, hb, e, hq, h3']
      · rw [if_neg h3]
        have h3' : ¬ (6 : Int) < (s.tasks.length : Int) := by omega
        by_cases h4 : s.tasks = []
        · rw [if_pos h4]
          have hl : s.tasks.length = 0 := by rw [h4]; rfl
          rw [hl] at hq hd hdn
          simp (maxDischargeDepth := 12) [cCheckP, SetL.cells, hd, hdn, hb, e, hq, hl]
        · rw [if_neg h4]
          have h4' : ¬ s.tasks.length = 0 := fun h => h4 (List.eq_nil_of_length_eq_zero h)
          rcases checkP_loop (mp := mp) hc (hs.ext (e.trans e1)) hx s.tasks.length 0 (aft mp fq [.agg s.cells.toArray] (H ++ [.cells ⟨0, true, false⟩ s.cells])) (by omega) (by simp) with ⟨g1, g2, g3⟩ | ⟨g1, g3⟩
          · rw [List.drop_zero] at g2
            have g3 := g3.eq
            rw [g2]
            simp [SetL.cells] at g3
            simp (maxDischargeDepth := 12) [cCheckP, SetL.cells, hd, hdn, hb, e, hq, h3', h4', h4, g3]
          · rw [List.drop_zero] at g3
            have g3 := g3.eq
            simp [SetL.cells] at g3
            simp (maxDischargeDepth := 12) [cCheckP, SetL.cells, hd, hdn, hb, e, hq, h3', h4', h4, g3]
    · rw [if_pos h2]
      rw [decide_eq_false h2] at hq
      simp (maxDischargeDepth := 12) [cCheckP, SetL.cells, hd, hdn, hb, e, hq]
  · rw [if_pos h1]
    rw [decide_eq_false h1] at hb
    simp (maxDischargeDepth := 12) [cCheckP, SetL.cells, hd, hb]
end
end Go.Mod

/- slices.Insert of one element: in a model that knows the capacity. -/
import Derived.Test.YtpdkmcnoidbjoaaLib3
import Derived.Test.YtpdkmcnoidbjoaaFwZa
set_option linter.unusedVariables false
set_option linter.unusedSimpArgs false
namespace Go.Mod

variable {mp : FuncId → Option MDef}

def cInsert (es bytes : Nat) (z : List Value) (fo fr : FuncId) : MFn := ⟨[.tmp 6], .seq (.ops [⟨(some 6), .mov, [.k (.slice none 0 0)], none, [6]⟩]) <|
.seq (.ops [⟨(some 10), .mov, [.r 0], none, []⟩,
  ⟨(some 11), .mov, [.r 1], none, []⟩,
  ⟨(some 12), .sl es true false false, [.r 10, .r 11], none, [10, 11, 12]⟩]) <|
.seq (.ops [⟨(some 13), .mov, [.r 2], none, []⟩,
  ⟨(some 14), .len, [.r 13], none, [13]⟩,
  ⟨(some 7), .mov, [.r 14], none, [14]⟩]) <|
.seq (.seq (.ops [⟨(some 15), .mov, [.r 7], none, []⟩,
  ⟨(some 16), .bin .eql, [.r 15, .k (.int .i64 0)], none, [15]⟩]) <|
.cond (.r 16)
  (.seq (.ops [⟨(some 17), .mov, [.r 0], none, [0, 1, 2, 7, 16]⟩,
    ⟨(some 6), .mov, [.r 17], none, [17]⟩]) <|
  .ret)
  (.skip)) <|
.seq (.ops [⟨(some 18), .mov, [.r 0], none, [16]⟩,
  ⟨(some 19), .len, [.r 18], none, [18]⟩,
  ⟨(some 8), .mov, [.r 19], none, [19]⟩]) <|
.seq (.seq (.ops [⟨(some 20), .mov, [.r 1], none, []⟩,
  ⟨(some 21), .mov, [.r 8], none, []⟩,
  ⟨(some 22), .bin .eql, [.r 20, .r 21], none, [20, 21]⟩]) <|
.cond (.r 22)
  (.seq (.ops [⟨(some 23), .mov, [.r 0], none, [0, 1, 7, 8, 22]⟩,
    ⟨(some 24), .mov, [.r 2], none, [2]⟩,
    ⟨(some 25), .app es bytes, [.r 23, .r 24], none, [23, 24]⟩,
    ⟨(some 6), .mov, [.r 25], none, [25]⟩]) <|
  .ret)
  (.skip)) <|
.seq (.seq (.ops [⟨(some 26), .mov, [.r 8], none, [22]⟩,
  ⟨(some 27), .mov, [.r 7], none, []⟩,
  ⟨(some 28), .bin .add, [.r 26, .r 27], none, [26, 27]⟩,
  ⟨(some 29), .mov, [.r 0], none, []⟩,
  ⟨(some 30), .cap, [.r 29], none, [29]⟩,
  ⟨(some 31), .bin .gtr, [.r 28, .r 30], none, [28, 30]⟩]) <|
.cond (.r 31)
  (.seq (.ops [⟨(some 32), .mov, [.r 0], none, [31]⟩,
    ⟨(some 33), .mov, [.r 1], none, []⟩,
    ⟨(some 34), .sl es false true false, [.r 32, .r 33], none, [32, 33]⟩,
    ⟨(some 35), .mov, [.r 8], none, [8]⟩,
    ⟨(some 36), .mov, [.r 7], none, []⟩,
    ⟨(some 37), .bin .add, [.r 35, .r 36], none, [35, 36]⟩,
    ⟨(some 38), .mov, [.r 1], none, []⟩,
    ⟨(some 39), .bin .sub, [.r 37, .r 38], none, [37, 38]⟩,
    ⟨(some 40), .appz es bytes z, [.r 34, .r 39], none, [34, 39]⟩,
    ⟨(some 9), .mov, [.r 40], none, [40]⟩]) <|
  .seq (.ops [⟨(some 41), .mov, [.r 9], none, []⟩,
    ⟨(some 42), .mov, [.r 1], none, []⟩,
    ⟨(some 43), .sl es true false false, [.r 41, .r 42], none, [41, 42]⟩,
    ⟨(some 44), .mov, [.r 2], none, [2]⟩,
    ⟨(some 45), .copy es, [.r 43, .r 44], none, [43, 44, 45]⟩]) <|
  .seq (.draw [⟨(some 46), .mov, [.r 9], none, []⟩,
    ⟨(some 47), .mov, [.r 1], none, []⟩,
    ⟨(some 48), .mov, [.r 7], none, [7]⟩,
    ⟨(some 49), .bin .add, [.r 47, .r 48], none, [47, 48]⟩,
    ⟨(some 50), .sl es true false false, [.r 46, .r 49], none, [46, 49]⟩,
    ⟨(some 51), .mov, [.r 0], none, [0]⟩,
    ⟨(some 52), .mov, [.r 1], none, [1]⟩,
    ⟨(some 53), .sl es true false false, [.r 51, .r 52], none, [51, 52]⟩,
    ⟨(some 54), .copy es, [.r 50, .r 53], none, [50, 53, 54]⟩] []) <|
  .seq (.ops [⟨(some 55), .mov, [.r 9], none, [9]⟩,
    ⟨(some 6), .mov, [.r 55], none, [55]⟩]) <|
  .ret)
  (.skip)) <|
.seq (.ops [⟨(some 56), .mov, [.r 0], none, [0, 31]⟩,
  ⟨(some 57), .mov, [.r 8], none, []⟩,
  ⟨(some 58), .mov, [.r 7], none, []⟩,
  ⟨(some 59), .bin .add, [.r 57, .r 58], none, [57, 58]⟩,
  ⟨(some 60), .sl es false true false, [.r 56, .r 59], none, [56, 59]⟩,
  ⟨(some 0), .mov, [.r 60], none, [60]⟩]) <|
.seq (.seq (.ops [⟨(some 61), .mov, [.r 2], none, []⟩,
  ⟨(some 62), .mov, [.r 0], none, []⟩,
  ⟨(some 63), .mov, [.r 1], none, []⟩,
  ⟨(some 64), .mov, [.r 7], none, []⟩,
  ⟨(some 65), .bin .add, [.r 63, .r 64], none, [63, 64]⟩,
  ⟨(some 66), .sl es true false false, [.r 62, .r 65], none, [62, 65]⟩,
  ⟨(some 67), .call fo, [.r 61, .r 66], none, [61, 66]⟩,
  ⟨(some 68), .un .not, [.r 67], none, [67]⟩]) <|
.cond (.r 68)
  (.seq (.draw [⟨(some 69), .mov, [.r 0], none, [8, 68]⟩,
    ⟨(some 70), .mov, [.r 1], none, []⟩,
    ⟨(some 71), .mov, [.r 7], none, [7]⟩,
    ⟨(some 72), .bin .add, [.r 70, .r 71], none, [70, 71]⟩,
    ⟨(some 73), .sl es true false false, [.r 69, .r 72], none, [69, 72]⟩,
    ⟨(some 74), .mov, [.r 0], none, []⟩,
    ⟨(some 75), .mov, [.r 1], none, []⟩,
    ⟨(some 76), .sl es true false false, [.r 74, .r 75], none, [74, 75]⟩,
    ⟨(some 77), .copy es, [.r 73, .r 76], none, [73, 76, 77]⟩] []) <|
  .seq (.ops [⟨(some 78), .mov, [.r 0], none, []⟩,
    ⟨(some 79), .mov, [.r 1], none, [1]⟩,
    ⟨(some 80), .sl es true false false, [.r 78, .r 79], none, [78, 79]⟩,
    ⟨(some 81), .mov, [.r 2], none, [2]⟩,
    ⟨(some 82), .copy es, [.r 80, .r 81], none, [80, 81, 82]⟩]) <|
  .seq (.ops [⟨(some 83), .mov, [.r 0], none, [0]⟩,
    ⟨(some 6), .mov, [.r 83], none, [83]⟩]) <|
  .ret)
  (.skip)) <|
.seq (.ops [⟨(some 84), .mov, [.r 0], none, [68]⟩,
  ⟨(some 85), .mov, [.r 8], none, [8]⟩,
  ⟨(some 86), .sl es true false false, [.r 84, .r 85], none, [84, 85]⟩,
  ⟨(some 87), .mov, [.r 2], none, [2]⟩,
  ⟨(some 88), .copy es, [.r 86, .r 87], none, [86, 87, 88]⟩]) <|
.seq (.ops [⟨(some 89), .mov, [.r 0], none, []⟩,
  ⟨(some 90), .mov, [.r 1], none, [1]⟩,
  ⟨(some 91), .sl es true false false, [.r 89, .r 90], none, [89, 90]⟩,
  ⟨(some 92), .mov, [.r 7], none, [7]⟩,
  ⟨(some 93), .call fr, [.r 91, .r 92], none, [91, 92, 93]⟩]) <|
.seq (.ops [⟨(some 94), .mov, [.r 0], none, [0]⟩,
  ⟨(some 6), .mov, [.r 94], none, [94]⟩]) <|
.ret⟩

/-! ### rows that are written into -/
theorem fillAt_get {c ys : List Value} {o : Nat} (h : o + ys.length ≤ c.length) (k : Nat) : (fillAt c o ys)[k]? = if k < o then c[k]? else if k < o + ys.length then ys[k - o]? else c[k]? := by
  unfold fillAt
  by_cases h1 : k < o
  · rw [if_pos h1, List.append_assoc, List.getElem?_append_left (by simp; omega), List.getElem?_take_of_lt h1]
  · rw [if_neg h1]
    by_cases h2 : k < o + ys.length
    · rw [if_pos h2, List.append_assoc, List.getElem?_append_right (by simp; omega), List.getElem?_append_left (by simp; omega)]
      congr 1; simp; omega
    · rw [if_neg h2, List.getElem?_append_right (by simp; omega), List.getElem?_drop]
      congr 1; simp; omega
theorem fillAt_len {c ys : List Value} {o : Nat} (h : o + ys.length ≤ c.length) : (fillAt c o ys).length = c.length := by
  simp [fillAt]; omega
/-- A row with one more in it. -/
def insAt (l : List Value) (A : Nat) (xs : List Value) : List Value := l.take A ++ xs ++ l.drop A
theorem insAt_get {l xs : List Value} {A : Nat} (h : A ≤ l.length) (k : Nat) : (insAt l A xs)[k]? = if k < A then l[k]? else if k < A + xs.length then xs[k - A]? else l[k - xs.length]? := by
  unfold insAt
  by_cases h1 : k < A
  · rw [if_pos h1, List.append_assoc, List.getElem?_append_left (by simp; omega), List.getElem?_take_of_lt h1]
  · rw [if_neg h1]
    by_cases h2 : k < A + xs.length
    · rw [if_pos h2, List.append_assoc, List.getElem?_append_right (by simp; omega), List.getElem?_append_left (by simp; omega)]
      congr 1; simp; omega
    · rw [if_neg h2, List.getElem?_append_right (by simp; omega), List.getElem?_drop]
      congr 1; simp; omega
theorem insAt_len {l xs : List Value} {A : Nat} (h : A ≤ l.length) : (insAt l A xs).length = l.length + xs.length := by
  simp [insAt]; omega
theorem take_get {c l : List Value} {N : Nat} (h : c.take N = l) {k : Nat} (hk : k < N) : c[k]? = l[k]? := by
  rw [← h, List.getElem?_take_of_lt hk]
theorem copy_at {H : MH} {b es sn dl dc o : Nat} {i : Info} {c sc : List Value} {y : Value} (hB : H[b]? = some (.cells i c)) (hrw : i.rw = true) (hs : srcCells es H y = some (sn, sc)) (hn : min sn dl ≠ 0) (ho : o + min sn dl * es ≤ c.length) (hk : (sc.take (min sn dl * es)).all one = true) :
    meff (.copy es) [.slice (some ⟨b, o, none⟩) dl dc, y] H = some (.int .i64 ((min sn dl : Nat) : Int), H.set b (.cells i (fillAt c o (sc.take (min sn dl * es))))) := by
  simp only [meff, hs, if_neg hn, hB]
  rw [if_pos ⟨hrw, ho, by rw [okc_one]; exact hk⟩]
theorem appz_at {H : MH} {b es bytes o len cap m : Nat} {i : Info} {c z : List Value} (hB : H[b]? = some (.cells i c)) (hes : i.es = es) (hex : i.ex = true) (hlc : len ≤ cap) (hg : cap < len + m) (hsm : len + m ≤ 4294967296) (hby : bytes ≤ 4096) (hfit : o + len * es ≤ c.length) (hz : z.length = es) {k : IntKind} :
    meff (.appz es bytes z) [.slice (some ⟨b, o, none⟩) len cap, .int k (m : Int)] H = some (.slice (some ⟨H.length, 0, none⟩) (len + m) (len + m), H ++ [.cells ⟨es, true, false⟩ ((c.drop o).take (len * es) ++ (List.replicate m z).flatten)]) := by
  simp only [meff, hB, Int.toNat_natCast]
  rw [if_pos ⟨by omega, hes, hex, hlc, hg, hsm, hby, hfit, hz⟩]

theorem R_over {fo : FuncId} (ho : mp fo = some (.intr overS)) {H : MH} {a b oa ob la ca lb cb : Nat} {i j : Info} {cs ds : List Value} (hA : H[a]? = some (.cells i cs)) (hB : H[b]? = some (.cells j ds)) (hne : a ≠ b) (hi : i.rw = true) (hj : j.rw = true) (h1 : 0 < la) (h2 : 0 < lb) (h3 : lb ≤ cb) (h4 : 0 < j.es) :
    R mp fo [.slice (some ⟨a, oa, none⟩) la ca, .slice (some ⟨b, ob, none⟩) lb cb] H = some (.bool false, H) := by
  rw [R_intr ho]
  simp only [overS, hA, hB]
  rw [if_pos ⟨hne, hi, hj, h1, h2, h3, h4⟩]

theorem R_insertX {f fo fr : FuncId} {es bytes : Nat} {z : List Value} (hf : mp f = some (.code (cInsert es bytes z fo fr))) (ho : mp fo = some (.intr overS)) {H : MH} {b n c bv cv i : Nat} {cs l xs : List Value} {iv : Info}
    (hB : H[b]? = some (.cells ⟨es, true, true⟩ cs)) (hcs : cs.length = c * es) (htk : cs.take (n * es) = l) (hl : l.all one = true) (hnc : n ≤ c) (hi : i ≤ n) (hV : H[bv]? = some (.cells iv xs)) (hvw : iv.rw = true) (hve : iv.es = es) (hxl : xs.length = es) (hx : xs.all one = true) (hcv : 1 ≤ cv)
    (hne : bv ≠ b) (hes : 0 < es) (hn : n ≤ 1000000) (hby : bytes ≤ 4096) (hzl : z.length = es) (hz : z.all one = true) :
    ∃ H' b' c' ex cs', R mp f [.slice (some ⟨b, 0, none⟩) n c, .int .i64 (i : Int), .slice (some ⟨bv, 0, none⟩) 1 cv] H = some (.slice (some ⟨b', 0, none⟩) (n + 1) c', H') ∧ n + 1 ≤ c' ∧ H'[b']? = some (.cells ⟨es, true, ex⟩ cs') ∧ cs'.length = c' * es ∧
      cs'.take ((n + 1) * es) = insAt l (i * es) xs ∧ ((b' = b ∧ H'.length = H.length) ∨ (b' = H.length ∧ H'.length = H.length + 1)) ∧ ∀ id, id < H.length → id ≠ b → H'[id]? = H[id]? := by
  have hlt := (List.getElem?_eq_some_iff.1 hB).1
  have hltv := (List.getElem?_eq_some_iff.1 hV).1
  have hmul : i * es ≤ n * es := Nat.mul_le_mul_right _ hi
  have hmul2 : n * es ≤ c * es := Nat.mul_le_mul_right _ hnc
  have hll : l.length = n * es := by rw [← htk]; simp; omega
  have hsrcv : ∀ H1 : MH, H1[bv]? = some (.cells iv xs) → srcCells es H1 (.slice (some ⟨bv, 0, none⟩) 1 cv) = some (1, xs) := fun H1 h => by
    simp only [srcCells, h]
    rw [if_pos (by omega)]
    simp [hxl]
    rw [← hxl]; simp
  have e1 : (n + 1) * es = n * es + es := by rw [Nat.add_mul]; omega
  have e2 : (i + 1) * es = i * es + es := by rw [Nat.add_mul]; omega
  have c0 : (0 : Int) ≤ (i : Int) := by omega
  have cin : (i : Int) ≤ (n : Int) := by omega
  have w1 : IntKind.i64.wrap ((n : Int) + 1) = (n : Int) + 1 := wrap_i64 (by omega) (by omega)
  have w2 : IntKind.i64.wrap ((i : Int) + 1) = (i : Int) + 1 := wrap_i64 (by omega) (by omega)
  by_cases hin : i = n
  · subst hin
    by_cases hroom : i + 1 ≤ c
    · have happ := app_in (bytes := bytes) (o := 0) (len := i) (cap := c) hB (hsrcv H hV) (by omega) rfl hroom rfl (by rw [hcs, Nat.zero_add]; exact Nat.mul_le_mul_right _ hroom) hx
      have hmul3 := Nat.mul_le_mul_right es hroom
      have hfl : 0 + i * es + xs.length ≤ cs.length := by omega
      refine ⟨_, b, c, true, fillAt cs (0 + i * es) xs, ?_, hroom, List.getElem?_set_self hlt, by rw [fillAt_len hfl, hcs], ?_, .inl ⟨rfl, by simp⟩, fun id h1 h2 => List.getElem?_set_ne (Ne.symm h2)⟩
      · rw [R_code hf]
        simp at happ
        simp [cInsert, sl_at hB, happ]
      · apply List.ext_getElem?
        intro k
        rw [insAt_get (by omega)]
        by_cases hk : k < (i + 1) * es
        · rw [List.getElem?_take_of_lt hk, fillAt_get hfl]
          by_cases h1 : k < i * es
          · rw [if_pos (by omega), if_pos h1, take_get htk h1]
          · rw [if_neg (by omega), if_neg h1, if_pos (by omega), if_pos (by omega)]
            congr 1; omega
        · rw [List.getElem?_eq_none (by simp; omega), if_neg (by omega), if_neg (by omega), List.getElem?_eq_none (by omega)]
    · have hic : i = c := by omega
      have happ := app_ex (bytes := bytes) (o := 0) (len := i) (cap := c) hB (hsrcv H hV) (by omega) rfl hnc hroom (by omega) hby rfl (by omega) hx
      refine ⟨H ++ [.cells ⟨es, true, false⟩ ((cs.drop 0).take (i * es) ++ xs)], H.length, i + 1, false, (cs.drop 0).take (i * es) ++ xs, ?_, Nat.le_refl _, by simp, ?_, ?_, .inr ⟨rfl, by simp⟩, fun id h1 h2 => List.getElem?_append_left h1⟩
      · rw [R_code hf]
        simp at happ
        simp [cInsert, sl_at hB, happ]
      · simp; omega
      · rw [List.drop_zero, htk]
        rw [List.take_of_length_le (by simp; omega)]
        unfold insAt
        rw [List.take_of_length_le (by omega), List.drop_of_length_le (by omega), List.append_nil]
  · have hltn : i < n := by omega
    have hmul4 := Nat.mul_le_mul_right es (show i + 1 ≤ n by omega)
    have hine : ¬ (i : Int) = (n : Int) := by omega
    have s1 : srcCells es H (.slice (some ⟨b, 0 + i * es, none⟩) (n - i) (c - i)) = some (n - i, l.drop (i * es)) := by
      simp only [srcCells, hB]
      have : (n - i) * es = n * es - i * es := Nat.sub_mul ..
      rw [if_pos (by omega)]
      congr 2
      rw [Nat.zero_add, this, ← htk, List.drop_take]
    by_cases hroom : n + 1 ≤ c
    · -- in place
      have hmul3 := Nat.mul_le_mul_right es hroom
      have hsub : (n - i) * es = n * es - i * es := Nat.sub_mul ..
      have hsub2 : (n + 1 - i) * es = n * es + es - i * es := by rw [Nat.sub_mul, e1]
      have ov := R_over (mp := mp) ho (oa := 0) (ob := 0 + (i + 1) * es) (la := 1) (ca := cv) (lb := n + 1 - (i + 1)) (cb := c - (i + 1)) hV hB hne hvw rfl (by omega) (by omega) (by omega) hes
      have s2 : srcCells es H (.slice (some ⟨b, 0 + i * es, none⟩) (n + 1 - i) (c - i)) = some (n + 1 - i, (cs.drop (0 + i * es)).take ((n + 1 - i) * es)) := by
        simp only [srcCells, hB]
        rw [if_pos (by omega)]
      have hmin : min (n + 1 - i) (n + 1 - (i + 1)) = n - i := by omega
      have htt : ((cs.drop (0 + i * es)).take ((n + 1 - i) * es)).take ((n - i) * es) = l.drop (i * es) := by
        rw [List.take_take, Nat.min_eq_left (by omega), Nat.zero_add, hsub, ← htk, List.drop_take]
      have cp1 := copy_at (o := 0 + (i + 1) * es) (dl := n + 1 - (i + 1)) (dc := c - (i + 1)) hB rfl s2 (by omega) (by rw [hmin]; omega) (by rw [hmin, htt]; exact all_drop hl _)
      rw [hmin, htt] at cp1
      have hB1 : (H.set b (.cells ⟨es, true, true⟩ (fillAt cs (0 + (i + 1) * es) (l.drop (i * es)))))[b]? = some (.cells ⟨es, true, true⟩ (fillAt cs (0 + (i + 1) * es) (l.drop (i * es)))) := List.getElem?_set_self hlt
      have hV1 : (H.set b (.cells ⟨es, true, true⟩ (fillAt cs (0 + (i + 1) * es) (l.drop (i * es)))))[bv]? = some (.cells iv xs) := by rw [List.getElem?_set_ne (Ne.symm hne)]; exact hV
      have hf1 : 0 + (i + 1) * es + (l.drop (i * es)).length ≤ cs.length := by simp; omega
      have hmin2 : min 1 (n + 1 - i) = 1 := by omega
      have cp2 := copy_at (o := 0 + i * es) (dl := n + 1 - i) (dc := c - i) hB1 rfl (hsrcv _ hV1) (by omega) (by rw [hmin2, fillAt_len hf1]; omega) (by rw [hmin2, Nat.one_mul, List.take_of_length_le (by omega)]; exact hx)
      rw [hmin2, Nat.one_mul, List.take_of_length_le (by omega)] at cp2
      have hf2 : 0 + i * es + xs.length ≤ (fillAt cs (0 + (i + 1) * es) (l.drop (i * es))).length := by rw [fillAt_len hf1]; omega
      have hgt : ¬ (c : Int) < (n : Int) + 1 := by omega
      have r1 : (n : Int) + 1 ≤ (c : Int) := by omega
      have r2 : (0 : Int) ≤ (n : Int) + 1 := by omega
      have r3 : ((n : Int) + 1).toNat = n + 1 := by omega
      have r4 : (0 : Int) ≤ (i : Int) + 1 := by omega
      have r5 : (i : Int) + 1 ≤ (n : Int) + 1 := by omega
      have r6 : ((i : Int) + 1).toNat = i + 1 := by omega
      have r7 : (i : Int) ≤ (n : Int) + 1 := by omega
      refine ⟨_, b, c, true, fillAt (fillAt cs (0 + (i + 1) * es) (l.drop (i * es))) (0 + i * es) xs, ?_, hroom, List.getElem?_set_self (by simpa using hlt), by rw [fillAt_len hf2, fillAt_len hf1, hcs], ?_, .inl ⟨rfl, by simp⟩, fun id h1 h2 => by simp [List.getElem?_set_ne (Ne.symm h2)]⟩
      · rw [R_code hf]
        simp at cp1 cp2 ov hB1
        simp [cInsert, sl_at hB, hi, hin, hine, w1, w2, cap_at hB rfl, hgt, r1, r2, r3, r4, r5, r6, r7, ov, mdraw_plain, cp1, sl_at hB1, cp2]
      · apply List.ext_getElem?
        intro k
        rw [insAt_get (by omega)]
        by_cases hk : k < (n + 1) * es
        · rw [List.getElem?_take_of_lt hk, fillAt_get hf2]
          by_cases h1 : k < i * es
          · rw [if_pos (by omega), if_pos h1, fillAt_get hf1, if_pos (by omega), take_get htk (by omega)]
          · rw [if_neg (by omega), if_neg h1]
            by_cases h2 : k < i * es + xs.length
            · rw [if_pos (by omega), if_pos h2]
              congr 1; omega
            · rw [if_neg (by omega), if_neg h2, fillAt_get hf1, if_neg (by omega), if_pos (by simp; omega), List.getElem?_drop]
              congr 1; omega
        · rw [List.getElem?_eq_none (by simp; omega), if_neg (by omega), if_neg (by omega), List.getElem?_eq_none (by omega)]
    · -- a new row
      have hnc' : n = c := by omega
      subst hnc'
      have hsub : (n - i) * es = n * es - i * es := Nat.sub_mul ..
      have az := appz_at (bytes := bytes) (o := 0) (len := i) (cap := n) (m := n + 1 - i) (z := z) (k := .i64) (es := es) hB rfl rfl hi (by omega) (by omega) hby (by omega) hzl
      have hfz : ∀ m, ((List.replicate m z).flatten).length = m * es := fun m => by rw [List.length_flatten]; simp [hzl]
      have hN : i + (n + 1 - i) = n + 1 := by omega
      rw [hN] at az
      generalize hC : (cs.drop 0).take (i * es) ++ (List.replicate (n + 1 - i) z).flatten = C at az
      have hCl : C.length = (n + 1) * es := by
        rw [← hC, List.length_append, hfz, List.drop_zero, List.length_take, Nat.sub_mul]; omega
      have hC0 : ∀ k, k < i * es → C[k]? = l[k]? := fun k hk => by
        rw [← hC, List.getElem?_append_left (by simp; omega), List.drop_zero, List.getElem?_take_of_lt hk, take_get htk (by omega)]
      have hB1 : (H ++ [MObj.cells ⟨es, true, false⟩ C])[H.length]? = some (.cells ⟨es, true, false⟩ C) := by simp
      have hV1 : (H ++ [MObj.cells ⟨es, true, false⟩ C])[bv]? = some (.cells iv xs) := get_app hV
      have hmin2 : min 1 (n + 1 - i) = 1 := by omega
      have e5' : i * es + es ≤ (n + 1) * es := by rw [← e2]; exact Nat.mul_le_mul_right es (by omega)
      have e4 : i * es ≤ n * es := Nat.mul_le_mul_right es hi
      have cp1 := copy_at (o := 0 + i * es) (dl := n + 1 - i) (dc := n + 1 - i) hB1 rfl (hsrcv _ hV1) (by omega) (by rw [hmin2, hCl]; omega) (by rw [hmin2, Nat.one_mul, List.take_of_length_le (by omega)]; exact hx)
      rw [hmin2, Nat.one_mul, List.take_of_length_le (by omega)] at cp1
      have e5 : i * es + es ≤ (n + 1) * es := by rw [← e2]; exact Nat.mul_le_mul_right es (by omega)
      have hf1 : 0 + i * es + xs.length ≤ C.length := by omega
      have hset : ∀ o, (H ++ [MObj.cells ⟨es, true, false⟩ C]).set H.length o = H ++ [o] := fun o => by rw [List.set_append_right _ _ (Nat.le_refl _)]; simp
      rw [hset] at cp1
      have hB2 : (H ++ [MObj.cells ⟨es, true, false⟩ (fillAt C (0 + i * es) xs)])[H.length]? = some (.cells ⟨es, true, false⟩ (fillAt C (0 + i * es) xs)) := by simp
      have hBo : (H ++ [MObj.cells ⟨es, true, false⟩ (fillAt C (0 + i * es) xs)])[b]? = some (.cells ⟨es, true, true⟩ cs) := get_app hB
      have s3 : srcCells es (H ++ [MObj.cells ⟨es, true, false⟩ (fillAt C (0 + i * es) xs)]) (.slice (some ⟨b, 0 + i * es, none⟩) (n - i) (n - i)) = some (n - i, l.drop (i * es)) := by
        simp only [srcCells, hBo]
        rw [if_pos (by omega)]
        congr 2
        rw [Nat.zero_add, hsub, ← htk, List.drop_take]
      have hmin3 : min (n - i) (n + 1 - (i + 1)) = n - i := by omega
      have hdl : (l.drop (i * es)).length = (n - i) * es := by simp; omega
      have cp2 := copy_at (o := 0 + (i + 1) * es) (dl := n + 1 - (i + 1)) (dc := n + 1 - (i + 1)) hB2 rfl s3 (by omega) (by rw [hmin3, fillAt_len hf1]; omega) (by rw [hmin3, List.take_of_length_le (by omega)]; exact all_drop hl _)
      rw [hmin3, List.take_of_length_le (by omega)] at cp2
      have hset2 : ∀ o, (H ++ [MObj.cells ⟨es, true, false⟩ (fillAt C (0 + i * es) xs)]).set H.length o = H ++ [o] := fun o => by rw [List.set_append_right _ _ (Nat.le_refl _)]; simp
      rw [hset2] at cp2
      have hf2 : 0 + (i + 1) * es + (l.drop (i * es)).length ≤ (fillAt C (0 + i * es) xs).length := by rw [fillAt_len hf1]; omega
      have hgt : (n : Int) < (n : Int) + 1 := by omega
      have w3 : IntKind.i64.wrap ((n : Int) + 1 - (i : Int)) = ((n + 1 - i : Nat) : Int) := by rw [wrap_i64 (by omega) (by omega)]; omega
      have r4 : (0 : Int) ≤ (i : Int) + 1 := by omega
      have r5 : (i : Int) + 1 ≤ ((n + 1 : Nat) : Int) := by omega
      have r6 : ((i : Int) + 1).toNat = i + 1 := by omega
      have r7 : (i : Int) ≤ ((n + 1 : Nat) : Int) := by omega
      have r8 : (i : Int) + 1 ≤ (n : Int) + 1 := by omega
      have r9 : (i : Int) ≤ (n : Int) + 1 := by omega
      have hin' : ¬ n = i := fun e => hin e.symm
      refine ⟨H ++ [.cells ⟨es, true, false⟩ (fillAt (fillAt C (0 + i * es) xs) (0 + (i + 1) * es) (l.drop (i * es)))], H.length, n + 1, false, fillAt (fillAt C (0 + i * es) xs) (0 + (i + 1) * es) (l.drop (i * es)), ?_, Nat.le_refl _, by simp, by rw [fillAt_len hf2, fillAt_len hf1, hCl], ?_, .inr ⟨rfl, by simp⟩, fun id h1 h2 => List.getElem?_append_left h1⟩
      · rw [R_code hf]
        generalize fillAt C (0 + i * es) xs = C2 at *
        generalize hH1 : H ++ [MObj.cells ⟨es, true, false⟩ C] = H1 at *
        generalize hH2 : H ++ [MObj.cells ⟨es, true, false⟩ C2] = H2 at *
        generalize hH3 : H ++ [MObj.cells ⟨es, true, false⟩ (fillAt C2 (0 + (i + 1) * es) (List.drop (i * es) l))] = H3 at *
        simp at az cp1 cp2
        simp [cInsert, sl_at hB, hi, hin, hine, w1, w2, w3, cap_at hB rfl, hgt, az, sl_at hB1, sl_at hB2, sl_at hBo, r4, r5, r6, r7, r8, r9, cp1, mdraw_plain, cp2]
      · apply List.ext_getElem?
        intro k
        rw [insAt_get (by omega)]
        by_cases hk : k < (n + 1) * es
        · rw [List.getElem?_take_of_lt hk, fillAt_get hf2]
          by_cases h1 : k < i * es
          · rw [if_pos (by omega), if_pos h1, fillAt_get hf1, if_pos (by omega), hC0 k h1]
          · by_cases h2 : k < i * es + xs.length
            · rw [if_pos (by omega), if_neg h1, if_pos h2, fillAt_get hf1, if_neg (by omega), if_pos (by omega)]
              congr 1; omega
            · rw [if_neg (by omega), if_neg h1, if_neg h2, if_pos (by omega), List.getElem?_drop]
              congr 1; omega
        · rw [List.getElem?_eq_none (by simp; omega), if_neg (by omega), if_neg (by omega), List.getElem?_eq_none (by omega)]
end Go.Mod

/- slices.Insert of one element: in a model that knows the capacity. -/
import Derived.Test.YthpeamllfledkaaGreatDoorGrD
import Derived.Test.YthpeamllfledkaaGreatDoorGrC
set_option linter.unusedVariables false
set_option linter.unusedSimpArgs false
namespace Go.Mod

variable {mp : FuncId → Option MDef}

def cInsert (es bytes : Nat) (z : List Value) (fo fr : FuncId) : MFn := ⟨[.tmp 6], .seq (.ops [⟨(some 6), .mov, [.k (.slice none 0 0)], none, [6]⟩]) <|
.seq (.ops [⟨(some 10), .mov, [.r 0], none, []⟩,
  ⟨(some 11), .mov, [.r 1], none, []⟩,
  ⟨(some 12), .sl es true false false, [.r 10, .r 11], none, [10, 11, 12]⟩]) <|
.seq (.ops [⟨(some 13), .mov, [.r 2], none, []⟩,
  ⟨(some 14), .len, [.r 13], none, [13]⟩,
  ⟨(some 7), .mov, [.r 14], none, [14]⟩]) <|
.seq (.seq (.ops [⟨(some 15), .mov, [.r 7], none, []⟩,
  ⟨(some 16), .bin .eql, [.r 15, .k (.int .i64 0)], none, [15]⟩]) <|
.cond (.r 16)
  (.seq (.ops [⟨(some 17), .mov, [.r 0], none, [0, 1, 2, 7, 16]⟩,
    ⟨(some 6), .mov, [.r 17], none, [17]⟩]) <|
  .ret)
  (.skip)) <|
.seq (.ops [⟨(some 18), .mov, [.r 0], none, [16]⟩,
  ⟨(some 19), .len, [.r 18], none, [18]⟩,
  ⟨(some 8), .mov, [.r 19], none, [19]⟩]) <|
.seq (.seq (.ops [⟨(some 20), .mov, [.r 1], none, []⟩,
  ⟨(some 21), .mov, [.r 8], none, []⟩,
  ⟨(some 22), .bin .eql, [.r 20, .r 21], none, [20, 21]⟩]) <|
.cond (.r 22)
  (.seq (.ops [⟨(some 23), .mov, [.r 0], none, [0, 1, 7, 8, 22]⟩,
    ⟨(some 24), .mov, [.r 2], none, [2]⟩,
    ⟨(some 25), .app es bytes, [.r 23, .r 24], none, [23, 24]⟩,
    ⟨(some 6), .mov, [.r 25], none, [25]⟩]) <|
  .ret)
  (.skip)) <|
.seq (.seq (.ops [⟨(some 26), .mov, [.r 8], none, [22]⟩,
  ⟨(some 27), .mov, [.r 7], none, []⟩,
  ⟨(some 28), .bin .add, [.r 26, .r 27], none, [26, 27]⟩,
  ⟨(some 29), .mov, [.r 0], none, []⟩,
  ⟨(some 30), .cap, [.r 29], none, [29]⟩,
  ⟨(some 31), .bin .gtr, [.r 28, .r 30], none, [28, 30]⟩]) <|
.cond (.r 31)
  (.seq (.ops [⟨(some 32), .mov, [.r 0], none, [31]⟩,
    ⟨(some 33), .mov, [.r 1], none, []⟩,
    ⟨(some 34), .sl es false true false, [.r 32, .r 33], none, [32, 33]⟩,
    ⟨(some 35), .mov, [.r 8], none, [8]⟩,
    ⟨(some 36), .mov, [.r 7], none, []⟩,
    ⟨(some 37), .bin .add, [.r 35, .r 36], none, [35, 36]⟩,
    ⟨(some 38), .mov, [.r 1], none, []⟩,
    ⟨(some 39), .bin .sub, [.r 37, .r 38], none, [37, 38]⟩,
    ⟨(some 40), .appz es bytes z, [.r 34, .r 39], none, [34, 39]⟩,
    ⟨(some 9), .mov, [.r 40], none, [40]⟩]) <|
  .seq (.ops [⟨(some 41), .mov, [.r 9], none, []⟩,
    ⟨(some 42), .mov, [.r 1], none, []⟩,
    ⟨(some 43), .sl es true false false, [.r 41, .r 42], none, [41, 42]⟩,
    ⟨(some 44), .mov, [.r 2], none, [2]⟩,
    ⟨(some 45), .copy es, [.r 43, .r 44], none, [43, 44, 45]⟩]) <|
  .seq (.draw [⟨(some 46), .mov, [.r 9], none, []⟩,
    ⟨(some 47), .mov, [.r 1], none, []⟩,
    ⟨(some 48), .mov, [.r 7], none, [7]⟩,
    ⟨(some 49), .bin .add, [.r 47, .r 48], none, [47, 48]⟩,
    ⟨(some 50), .sl es true false false, [.r 46, .r 49], none, [46, 49]⟩,
    ⟨(some 51), .mov, [.r 0], none, [0]⟩,
    ⟨(some 52), .mov, [.r 1], none, [1]⟩,
    ⟨(some 53), .sl es true false false, [.r 51, .r 52], none, [51, 52]⟩,
    ⟨(some 54), .copy es, [.r 50, .r 53], none, [50, 53, 54]⟩] []) <|
  .seq (.ops [⟨(some 55), .mov, [.r 9], none, [9]⟩,
    ⟨(some 6), .mov, [.r 55], none, [55]⟩]) <|
  .ret)
  (.skip)) <|
.seq (.ops [⟨(some 56), .mov, [.r 0], none, [0, 31]⟩,
  ⟨(some 57), .mov, [.r 8], none, []⟩,
  ⟨(some 58), .mov, [.r 7], none, []⟩,
  ⟨(some 59), .bin .add, [.r 57, .r 58], none, [57, 58]⟩,
  ⟨(some 60), .sl es false true false, [.r 56, .r 59], none, [56, 59]⟩,
  ⟨(some 0), .mov, [.r 60], none, [60]⟩]) <|
.seq (.seq (.ops [⟨(some 61), .mov, [.r 2], none, []⟩,
  ⟨(some 62), .mov, [.r 0], none, []⟩,
  ⟨(some 63), .mov, [.r 1], none, []⟩,
  ⟨(some 64), .mov, [.r 7], none, []⟩,
  ⟨(some 65), .bin .add, [.r 63, .r 64], none, [63, 64]⟩,
  ⟨(some 66), .sl es true false false, [.r 62, .r 65], none, [62, 65]⟩,
  ⟨(some 67), .call fo, [.r 61, .r 66], none, [61, 66]⟩,
  ⟨(some 68), .un .not, [.r 67], none, [67]⟩]) <|
.cond (.r 68)
  (.seq (.draw [⟨(some 69), .mov, [.r 0], none, [8, 68]⟩,
    ⟨(some 70), .mov, [.r 1], none, []⟩,
    ⟨(some 71), .mov, [.r 7], none, [7]⟩,
    ⟨(some 72), .bin .add, [.r 70, .r 71], none, [70, 71]⟩,
    ⟨(some 73), .sl es true false false, [.r 69, .r 72], none, [69, 72]⟩,
    ⟨(some 74), .mov, [.r 0], none, []⟩,
    ⟨(some 75), .mov, [.r 1], none, []⟩,
    ⟨(some 76), .sl es true false false, [.r 74, .r 75], none, [74, 75]⟩,
    ⟨(some 77), .copy es, [.r 73, .r 76], none, [73, 76, 77]⟩] []) <|
  .seq (.ops [⟨(some 78), .mov, [.r 0], none, []⟩,
    ⟨(some 79), .mov, [.r 1], none, [1]⟩,
    ⟨(some 80), .sl es true false false, [.r 78, .r 79], none, [78, 79]⟩,
    ⟨(some 81), .mov, [.r 2], none, [2]⟩,
    ⟨(some 82), .copy es, [.r 80, .r 81], none, [80, 81, 82]⟩]) <|
  .seq (.ops [⟨(some 83), .mov, [.r 0], none, [0]⟩,
    ⟨(some 6), .mov, [.r 83], none, [83]⟩]) <|
  .ret)
  (.skip)) <|
.seq (.ops [⟨(some 84), .mov, [.r 0], none, [68]⟩,
  ⟨(some 85), .mov, [.r 8], none, [8]⟩,
  ⟨(some 86), .sl es true false false, [.r 84, .r 85], none, [84, 85]⟩,
  ⟨(some 87), .mov, [.r 2], none, [2]⟩,
  ⟨(some 88), .copy es, [.r 86, .r 87], none, [86, 87, 88]⟩]) <|
.seq (.ops [⟨(some 89), .mov, [.r 0], none, []⟩,
  ⟨(some 90), .mov, [.r 1], none, [1]⟩,
  ⟨(some 91), .sl es true false false, [.r 89, .r 90], none, [89, 90]⟩,
  ⟨(some 92), .mov, [.r 7], none, [7]⟩,
  ⟨(some 93), .call fr, [.r 91, .r 92], none, [91, 92, 93]⟩]) <|
.seq (.ops [⟨(some 94), .mov, [.r 0], none, [0]⟩,
  ⟨(some 6), .mov, [.r 94], none, [94]⟩]) <|
.ret⟩

/-! ### rows that are written into -/
theorem fillAt_get {c ys : List Value} {o : Nat} (h : o + ys.length ≤ c.length) (k : Nat) : (fillAt c o ys)[k]? = if k < o then c[k]? else if k < o + ys.length then ys[k - o]? else c[k]? := by
  unfold fillAt
  by_cases h1 : k < o
  · rw [if_pos h1, List.append_assoc, List.getElem?_append_left (by simp; omega), List.getElem?_take_of_lt h1]
  · rw [if_neg h1]
    by_cases h2 : k < o + ys.length
    · rw [if_pos h2, List.append_assoc, List.getElem?_append_right (by simp; omega), List.getElem?_append_left (by simp; omega)]
      congr 1; simp; omega
    · rw [if_neg h2, List.getElem?_append_right (by simp; omega), List.getElem?_drop]
      congr 1; simp; omega
theorem fillAt_len {c ys : List Value} {o : Nat} (h : o + ys.length ≤ c.length) : (fillAt c o ys).length = c.length := by
  simp [fillAt]; omega
/-- A row with one more in it. -/
def insAt (l : List Value) (A : Nat) (xs : List Value) : List Value := l.take A ++ xs ++ l.drop A
theorem insAt_get {l xs : List Value} {A : Nat} (h : A ≤ l.length) (k : Nat) : (insAt l A xs)[k]? = if k < A then l[k]? else if k < A + xs.length then xs[k - A]? else l[k - xs.length]? := by
  unfold insAt
  by_cases h1 : k < A
  · rw [if_pos h1, List.append_assoc, List.getElem?_append_left (by simp; omega), List.getElem?_take_of_lt h1]
  · rw [if_neg h1]
    by_cases h2 : k < A + xs.length
    · rw [if_pos h2, List.append_assoc, List.getElem?_append_right (by simp; omega), List.getElem?_append_left (by simp; omega)]
      congr 1; simp; omega
    · rw [if_neg h2, List.getElem?_append_right (by simp; omega), List.getElem?_drop]
      congr 1; simp; omega
theorem insAt_len {l xs : List Value} {A : Nat} (h : A ≤ l.length) : (insAt l A xs).length = l.length + xs.length := by
  simp [insAt]; omega
theorem take_get {c l : List Value} {N : Nat} (h : c.take N = l) {k : Nat} (hk : k < N) : c[k]? = l[k]? := by
  rw [← h, List.getElem?_take_of_lt hk]
theorem copy_at {H : MH} {b es sn dl dc o : Nat} {i : Info} {c sc : List Value} {y : Value} (hB : H[b]? = some (.cells i c)) (hrw : i.rw = true) (hs : srcCells es H y = some (sn, sc)) (hn : min sn dl ≠ 0) (ho : o + min sn dl * es ≤ c.length) (hk : (sc.take (min sn dl * es)).all one = true) :
    meff (.copy es) [.slice (some ⟨b, o, none⟩) dl dc, y] H = some (.int .i64 ((min sn dl : Nat) : Int), H.set b (.cells i (fillAt c o (sc.take (min sn dl * es))))) := by
  simp only [meff, hs, if_neg hn, hB]
  rw [if_pos ⟨hrw, ho, by rw [okc_one]; exact hk⟩]
theorem appz_at {H : MH} {b es bytes o len cap m : Nat} {i : Info} {c z : List Value} (hB : H[b]? = some (.cells i c)) (hes : i.es = es) (hex : i.ex = true) (hlc : len ≤ cap) (hg : cap < len + m) (hsm : len + m ≤ 4294967296) (hby : bytes ≤ 4096) (hfit : o + len * es ≤ c.length) (hz : z.length = es) {k : IntKind} :
    meff (.appz es bytes z) [.slice (some ⟨b, o, none⟩) len cap, .int k (m : Int)] H = some (.slice (some ⟨H.length, 0, none⟩) (len + m) (len + m), H ++ [.cells ⟨es, true, false⟩ ((c.drop o).take (len * es) ++ (List.replicate m z).flatten)]) := by
  simp only [meff, hB, Int.toNat_natCast]
  rw [if_pos ⟨by omega, hes, hex, hlc, hg, hsm, hby, hfit, hz⟩]

theorem R_over {fo : FuncId} (ho : mp fo = some (.intr overS)) {H : MH} {a b oa ob la ca lb cb : Nat} {i j : Info} {cs ds : List Value} (hA : H[a]? = some (.cells i cs)) (hB : H[b]? = some (.cells j ds)) (hne : a ≠ b) (hi : i.rw = true) (hj : j.rw = true) (h1 : 0 < la) (h2 : 0 < lb) (h3 : lb ≤ cb) (h4 : 0 < j.es) (h5 : 1 < i.es) :
    R mp fo [.slice (some ⟨a, oa, none⟩) la ca, .slice (some ⟨b, ob, none⟩) lb cb] H = some (.bool false, H) := by
  rw [R_intr ho]
  simp only [overS, hA, hB]
  rw [if_pos ⟨hne, hi, hj, h1, h2, h3, h4, h5⟩]

theorem R_insertX {f fo fr : FuncId} {es bytes : Nat} {z : List Value} (hf : mp f = some (.code (cInsert es bytes z fo fr))) (ho : mp fo = some (.intr overS)) {H : MH} {b n c bv cv i : Nat} {cs l xs : List Value} {iv : Info}
    (hB : H[b]? = some (.cells ⟨es, true, true⟩ cs)) (hcs : cs.length = c * es) (htk : cs.take (n * es) = l) (hl : l.all one = true) (hnc : n ≤ c) (hi : i ≤ n) (hV : H[bv]? = some (.cells iv xs)) (hvw : iv.rw = true) (hve : iv.es = es) (hxl : xs.length = es) (hx : xs.all one = true) (hcv : 1 ≤ cv)
    (hne : bv ≠ b) (hes1 : 1 < es) (hn : n ≤ 1000000) (hby : bytes ≤ 4096) (hzl : z.length = es) (hz : z.all one = true) :
    ∃ H' b' c' ex cs', R mp f [.slice (some ⟨b, 0, none⟩) n c, .int .i64 (i : Int), .slice (some ⟨bv, 0, none⟩) 1 cv] H = some (.slice (some ⟨b', 0, none⟩) (n + 1) c', H') ∧ n + 1 ≤ c' ∧ H'[b']? = some (.cells ⟨es, true, ex⟩ cs') ∧ cs'.length = c' * es ∧
      cs'.take ((n + 1) * es) = insAt l (i * es) xs ∧ ((b' = b ∧ H'.length = H.length) ∨ (b' = H.length ∧ H'.length = H.length + 1)) ∧ ∀ id, id < H.length → id ≠ b → H'[id]? = H[id]? := by
  have hes : 0 < es := by omega
  have hlt := (List.getElem?_eq_some_iff.1 hB).1
  have hltv := (List.getElem?_eq_some_iff.1 hV).1
  have hmul : i * es ≤ n * es := Nat.mul_le_mul_right _ hi
  have hmul2 : n * es ≤ c * es := Nat.mul_le_mul_right _ hnc
  have hll : l.length = n * es := by rw [← htk]; simp; omega
  have hsrcv : ∀ H1 : MH, H1[bv]? = some (.cells iv xs) → srcCells es H1 (.slice (some ⟨bv, 0, none⟩) 1 cv) = some (1, xs) := fun H1 h => by
    simp only [srcCells, h]
    rw [if_pos (by omega)]
    simp [hxl]
    rw [← hxl]; simp
  have e1 : (n + 1) * es = n * es + es := by rw [Nat.add_mul]; omega
  have e2 : (i + 1) * es = i * es + es := by rw [Nat.add_mul]; omega
  have c0 : (0 : Int) ≤ (i : Int) := by omega
  have cin : (i : Int) ≤ (n : Int) := by omega
  have w1 : IntKind.i64.wrap ((n : Int) + 1) = (n : Int) + 1 := wrap_i64 (by omega) (by omega)
  have w2 : IntKind.i64.wrap ((i : Int) + 1) = (i : Int) + 1 := wrap_i64 (by omega) (by omega)
  by_cases hin : i = n
  · subst hin
    by_cases hroom : i + 1 ≤ c
    · have happ := app_in (bytes := bytes) (o := 0) (len := i) (cap := c) hB (hsrcv H hV) (by omega) rfl hroom rfl (by rw [hcs, Nat.zero_add]; exact Nat.mul_le_mul_right _ hroom) hx
      have hmul3 := Nat.mul_le_mul_right es hroom
      have hfl : 0 + i * es + xs.length ≤ cs.length := by omega
      refine ⟨_, b, c, true, fillAt cs (0 + i * es) xs, ?_, hroom, List.getElem?_set_self hlt, by rw [fillAt_len hfl, hcs], ?_, .inl ⟨rfl, by simp⟩, fun id h1 h2 => List.getElem?_set_ne (Ne.symm h2)⟩
      · rw [R_code hf]
        simp at happ
        simp [cInsert, sl_at hB, happ]
      · apply List.ext_getElem?
        intro k
        rw [insAt_get (by omega)]
        by_cases hk : k < (i + 1) * es
        · rw [List.getElem?_take_of_lt hk, fillAt_get hfl]
          by_cases h1 : k < i * es
          · rw [if_pos (by omega), if_pos h1, take_get htk h1]
          · rw [if_neg (by omega), if_neg h1, if_pos (by omega), if_pos (by omega)]
            congr 1; omega
        · rw [List.getElem?_eq_none (by simp; omega), if_neg (by omega), if_neg (by omega), List.getElem?_eq_none (by omega)]
    · have hic : i = c := by omega
      have happ := app_ex (bytes := bytes) (o := 0) (len := i) (cap := c) hB (hsrcv H hV) (by omega) rfl hnc hroom (by omega) hby rfl (by omega) hx
      refine ⟨H ++ [.cells ⟨es, true, false⟩ ((cs.drop 0).take (i * es) ++ xs)], H.length, i + 1, false, (cs.drop 0).take (i * es) ++ xs, ?_, Nat.le_refl _, by simp, ?_, ?_, .inr ⟨rfl, by simp⟩, fun id h1 h2 => List.getElem?_append_left h1⟩
      · rw [R_code hf]
        simp at happ
        simp [cInsert, sl_at hB, happ]
      · simp; omega
      · rw [List.drop_zero, htk]
        rw [List.take_of_length_le (by simp; omega)]
        unfold insAt
        rw [List.take_of_length_le (by omega), List.drop_of_length_le (by omega), List.append_nil]
  · have hltn : i < n := by omega
    have hmul4 := Nat.mul_le_mul_right es (show i + 1 ≤ n by omega)
    have hine : ¬ (i : Int) = (n : Int) := by omega
    have s1 : srcCells es H (.slice (some ⟨b, 0 + i * es, none⟩) (n - i) (c - i)) = some (n - i, l.drop (i * es)) := by
      simp only [srcCells, hB]
      have : (n - i) * es = n * es - i * es := Nat.sub_mul ..
      rw [if_pos (by omega)]
      congr 2
      rw [Nat.zero_add, this, ← htk, List.drop_take]
    by_cases hroom : n + 1 ≤ c
    · -- in place
      have hmul3 := Nat.mul_le_mul_right es hroom
      have hsub : (n - i) * es = n * es - i * es := Nat.sub_mul ..
      have hsub2 : (n + 1 - i) * es = n * es + es - i * es := by rw [Nat.sub_mul, e1]
      have ov := R_over (mp := mp) ho (oa := 0) (ob := 0 + (i + 1) * es) (la := 1) (ca := cv) (lb := n + 1 - (i + 1)) (cb := c - (i + 1)) hV hB hne hvw rfl (by omega) (by omega) (by omega) hes (by omega)
      have s2 : srcCells es H (.slice (some ⟨b, 0 + i * es, none⟩) (n + 1 - i) (c - i)) = some (n + 1 - i, (cs.drop (0 + i * es)).take ((n + 1 - i) * es)) := by
        simp only [srcCells, hB]
        rw [if_pos (by omega)]
      have hmin : min (n + 1 - i) (n + 1 - (i + 1)) = n - i := by omega
      have htt : ((cs.drop (0 + i * es)).take ((n + 1 - i) * es)).take ((n - i) * es) = l.drop (i * es) := by
        rw [List.take_take, Nat.min_eq_left (by omega), Nat.zero_add, hsub, ← htk, List.drop_take]
      have cp1 := copy_at (o := 0 + (i + 1) * es) (dl := n + 1 - (i + 1)) (dc := c - (i + 1)) hB rfl s2 (by omega) (by rw [hmin]; omega) (by rw [hmin, htt]; exact all_drop hl _)
      rw [hmin, htt] at cp1
      have hB1 : (H.set b (.cells ⟨es, true, true⟩ (fillAt cs (0 + (i + 1) * es) (l.drop (i * es)))))[b]? = some (.cells ⟨es, true, true⟩ (fillAt cs (0 + (i + 1) * es) (l.drop (i * es)))) := List.getElem?_set_self hlt
      have hV1 : (H.set b (.cells ⟨es, true, true⟩ (fillAt cs (0 + (i + 1) * es) (l.drop (i * es)))))[bv]? = some (.cells iv xs) := by rw [List.getElem?_set_ne (Ne.symm hne)]; exact hV
      have hf1 : 0 + (i + 1) * es + (l.drop (i * es)).length ≤ cs.length := by simp; omega
      have hmin2 : min 1 (n + 1 - i) = 1 := by omega
      have cp2 := copy_at (o := 0 + i * es) (dl := n + 1 - i) (dc := c - i) hB1 rfl (hsrcv _ hV1) (by omega) (by rw [hmin2, fillAt_len hf1]; omega) (by rw [hmin2, Nat.one_mul, List.take_of_length_le (by omega)]; exact hx)
      rw [hmin2, Nat.one_mul, List.take_of_length_le (by omega)] at cp2
      have hf2 : 0 + i * es + xs.length ≤ (fillAt cs (0 + (i + 1) * es) (l.drop (i * es))).length := by rw [fillAt_len hf1]; omega
      have hgt : ¬ (c : Int) < (n : Int) + 1 := by omega
      have r1 : (n : Int) + 1 ≤ (c : Int) := by omega
      have r2 : (0 : Int) ≤ (n : Int) + 1 := by omega
      have r3 : ((n : Int) + 1).toNat = n + 1 := by omega
      have r4 : (0 : Int) ≤ (i : Int) + 1 := by omega
      have r5 : (i : Int) + 1 ≤ (n : Int) + 1 := by omega
      have r6 : ((i : Int) + 1).toNat = i + 1 := by omega
      have r7 : (i : Int) ≤ (n : Int) + 1 := by omega
      refine ⟨_, b, c, true, fillAt (fillAt cs (0 + (i + 1) * es) (l.drop (i * es))) (0 + i * es) xs, ?_, hroom, List.getElem?_set_self (by simpa using hlt), by rw [fillAt_len hf2, fillAt_len hf1, hcs], ?_, .inl ⟨rfl, by simp⟩, fun id h1 h2 => by simp [List.getElem?_set_ne (Ne.symm h2)]⟩
      · rw [R_code hf]
        simp at cp1 cp2 ov hB1
        simp [cInsert, sl_at hB, hi, hin, hine, w1, w2, cap_at hB rfl, hgt, r1, r2, r3, r4, r5, r6, r7, ov, mdraw_plain, cp1, sl_at hB1, cp2]
      · apply List.ext_getElem?
        intro k
        rw [insAt_get (by omega)]
        by_cases hk : k < (n + 1) * es
        · rw [List.getElem?_take_of_lt hk, fillAt_get hf2]
          by_cases h1 : k < i * es
          · rw [if_pos (by omega), if_pos h1, fillAt_get hf1, if_pos (by omega), take_get htk (by omega)]
          · rw [if_neg (by omega), if_neg h1]
            by_cases h2 : k < i * es + xs.length
            · rw [if_pos (by omega), if_pos h2]
              congr 1; omega
            · rw [if_neg (by omega), if_neg h2, fillAt_get hf1, if_neg (by omega), if_pos (by simp; omega), List.getElem?_drop]
              congr 1; omega
        · rw [List.getElem?_eq_none (by simp; omega), if_neg (by omega), if_neg (by omega), List.getElem?_eq_none (by omega)]
    · -- a new row
      have hnc' : n = c := by omega
      subst hnc'
      have hsub : (n - i) * es = n * es - i * es := Nat.sub_mul ..
      have az := appz_at (bytes := bytes) (o := 0) (len := i) (cap := n) (m := n + 1 - i) (z := z) (k := .i64) (es := es) hB rfl rfl hi (by omega) (by omega) hby (by omega) hzl
      have hfz : ∀ m, ((List.replicate m z).flatten).length = m * es := fun m => by rw [List.length_flatten]; simp [hzl]
      have hN : i + (n + 1 - i) = n + 1 := by omega
      rw [hN] at az
      generalize hC : (cs.drop 0).take (i * es) ++ (List.replicate (n + 1 - i) z).flatten = C at az
      have hCl : C.length = (n + 1) * es := by
        rw [← hC, List.length_append, hfz, List.drop_zero, List.length_take, Nat.sub_mul]; omega
      have hC0 : ∀ k, k < i * es → C[k]? = l[k]? := fun k hk => by
        rw [← hC, List.getElem?_append_left (by simp; omega), List.drop_zero, List.getElem?_take_of_lt hk, take_get htk (by omega)]
      have hB1 : (H ++ [MObj.cells ⟨es, true, false⟩ C])[H.length]? = some (.cells ⟨es, true, false⟩ C) := by simp
      have hV1 : (H ++ [MObj.cells ⟨es, true, false⟩ C])[bv]? = some (.cells iv xs) := get_app hV
      have hmin2 : min 1 (n + 1 - i) = 1 := by omega
      have e5' : i * es + es ≤ (n + 1) * es := by rw [← e2]; exact Nat.mul_le_mul_right es (by omega)
      have e4 : i * es ≤ n * es := Nat.mul_le_mul_right es hi
      have cp1 := copy_at (o := 0 + i * es) (dl := n + 1 - i) (dc := n + 1 - i) hB1 rfl (hsrcv _ hV1) (by omega) (by rw [hmin2, hCl]; omega) (by rw [hmin2, Nat.one_mul, List.take_of_length_le (by omega)]; exact hx)
      rw [hmin2, Nat.one_mul, List.take_of_length_le (by omega)] at cp1
      have e5 : i * es + es ≤ (n + 1) * es := by rw [← e2]; exact Nat.mul_le_mul_right es (by omega)
      have hf1 : 0 + i * es + xs.length ≤ C.length := by omega
      have hset : ∀ o, (H ++ [MObj.cells ⟨es, true, false⟩ C]).set H.length o = H ++ [o] := fun o => by rw [List.set_append_right _ _ (Nat.le_refl _)]; simp
      rw [hset] at cp1
      have hB2 : (H ++ [MObj.cells ⟨es, true, false⟩ (fillAt C (0 + i * es) xs)])[H.length]? = some (.cells ⟨es, true, false⟩ (fillAt C (0 + i * es) xs)) := by simp
      have hBo : (H ++ [MObj.cells ⟨es, true, false⟩ (fillAt C (0 + i * es) xs)])[b]? = some (.cells ⟨es, true, true⟩ cs) := get_app hB
      have s3 : srcCells es (H ++ [MObj.cells ⟨es, true, false⟩ (fillAt C (0 + i * es) xs)]) (.slice (some ⟨b, 0 + i * es, none⟩) (n - i) (n - i)) = some (n - i, l.drop (i * es)) := by
        simp only [srcCells, hBo]
        rw [if_pos (by omega)]
        congr 2
        rw [Nat.zero_add, hsub, ← htk, List.drop_take]
      have hmin3 : min (n - i) (n + 1 - (i + 1)) = n - i := by omega
      have hdl : (l.drop (i * es)).length = (n - i) * es := by simp; omega
      have cp2 := copy_at (o := 0 + (i + 1) * es) (dl := n + 1 - (i + 1)) (dc := n + 1 - (i + 1)) hB2 rfl s3 (by omega) (by rw [hmin3, fillAt_len hf1]; omega) (by rw [hmin3, List.take_of_length_le (by omega)]; exact all_drop hl _)
      rw [hmin3, List.take_of_length_le (by omega)] at cp2
      have hset2 : ∀ o, (H ++ [MObj.cells ⟨es, true, false⟩ (fillAt C (0 + i * es) xs)]).set H.length o = H ++ [o] := fun o => by rw [List.set_append_right _ _ (Nat.le_refl _)]; simp
      rw [hset2] at cp2
      have hf2 : 0 + (i + 1) * es + (l.drop (i * es)).length ≤ (fillAt C (0 + i * es) xs).length := by rw [fillAt_len hf1]; omega
      have hgt : (n : Int) < (n : Int) + 1 := by omega
      have w3 : IntKind.i64.wrap ((n : Int) + 1 - (i : Int)) = ((n + 1 - i : Nat) : Int) := by rw [wrap_i64 (by omega) (by omega)]; omega
      have r4 : (0 : Int) ≤ (i : Int) + 1 := by omega
      have r5 : (i : Int) + 1 ≤ ((n + 1 : Nat) : Int) := by omega
      have r6 : ((i : Int) + 1).toNat = i + 1 := by omega
      have r7 : (i : Int) ≤ ((n + 1 : Nat) : Int) := by omega
      have r8 : (i : Int) + 1 ≤ (n : Int) + 1 := by omega
      have r9 : (i : Int) ≤ (n : Int) + 1 := by omega
      have hin' : ¬ n = i := fun e => hin e.symm
      refine ⟨H ++ [.cells ⟨es, true, false⟩ (fillAt (fillAt C (0 + i * es) xs) (0 + (i + 1) * es) (l.drop (i * es)))], H.length, n + 1, false, fillAt (fillAt C (0 + i * es) xs) (0 + (i + 1) * es) (l.drop (i * es)), ?_, Nat.le_refl _, by simp, by rw [fillAt_len hf2, fillAt_len hf1, hCl], ?_, .inr ⟨rfl, by simp⟩, fun id h1 h2 => List.getElem?_append_left h1⟩
      · rw [R_code hf]
        generalize fillAt C (0 + i * es) xs = C2 at *
        generalize hH1 : H ++ [MObj.cells ⟨es, true, false⟩ C] = H1 at *
        generalize hH2 : H ++ [MObj.cells ⟨es, true, false⟩ C2] = H2 at *
        generalize hH3 : H ++ [MObj.cells ⟨es, true, false⟩ (fillAt C2 (0 + (i + 1) * es) (List.drop (i * es) l))] = H3 at *
        simp at az cp1 cp2
        simp [cInsert, sl_at hB, hi, hin, hine, w1, w2, w3, cap_at hB rfl, hgt, az, sl_at hB1, sl_at hB2, sl_at hBo, r4, r5, r6, r7, r8, r9, cp1, mdraw_plain, cp2]
      · apply List.ext_getElem?
        intro k
        rw [insAt_get (by omega)]
        by_cases hk : k < (n + 1) * es
        · rw [List.getElem?_take_of_lt hk, fillAt_get hf2]
          by_cases h1 : k < i * es
          · rw [if_pos (by omega), if_pos h1, fillAt_get hf1, if_pos (by omega), hC0 k h1]
          · by_cases h2 : k < i * es + xs.length
            · rw [if_pos (by omega), if_neg h1, if_pos h2, fillAt_get hf1, if_neg (by omega), if_pos (by omega)]
              congr 1; omega
            · rw [if_neg (by omega), if_neg h1, if_neg h2, if_pos (by omega), List.getElem?_drop]
              congr 1; omega
        · rw [List.getElem?_eq_none (by simp; omega), if_neg (by omega), if_neg (by omega), List.getElem?_eq_none (by omega)]
end Go.Mod
/- slices.Insert of one element into a row of one's own, as one operation. -/
set_option linter.unusedVariables false
set_option linter.unusedSimpArgs false
namespace Go.Mod
variable [Glob]
set_option linter.unusedSectionVars false

theorem Invokes.mono {P : Program} {f : FuncId} {args : Array Value} {w : World} {R S : Value → World → Prop} (h : Invokes P f args w R) (g : ∀ v w', R v w' → S v w') : Invokes P f args w S := by
  rcases h with ⟨hc, h⟩ | ⟨v, w', h1, h2⟩
  · exact .inl ⟨hc, h.mono fun e w' ⟨v, he, hv⟩ => ⟨v, he, g v w' hv⟩⟩
  · exact .inr ⟨v, w', h1, g v w' h2⟩

/-- One element more: a row that nobody else has comes back at a new place. -/
def insertS (es : Nat) : List Value → MH → Option (Value × MH)
  | [.slice none 0 0, .int .i64 i, .slice (some ⟨bv, 0, none⟩) 1 cv], H =>
    match H[bv]? with
    | some (.cells iv xs) => if i = 0 ∧ iv.rw = true ∧ iv.es = es ∧ xs.length = es ∧ xs.all one = true ∧ 1 ≤ cv then
        some (.slice (some ⟨H.length, 0, none⟩) 1 1, H ++ [.cells ⟨es, true, false⟩ xs]) else none
    | _ => none
  | [.slice (some ⟨b, 0, none⟩) n c, .int .i64 i, .slice (some ⟨bv, 0, none⟩) 1 cv], H =>
    match H[b]?, H[bv]? with
    | some (.cells ib cs), some (.cells iv xs) =>
      if ib = ⟨es, true, false⟩ ∧ cs.length = c * es ∧ n ≤ c ∧ 1 ≤ c ∧ (cs.take (n * es)).all one = true ∧ 0 ≤ i ∧ i.toNat ≤ n ∧ iv.rw = true ∧ iv.es = es ∧ xs.length = es ∧ xs.all one = true ∧ 1 ≤ cv ∧ bv ≠ b ∧ n ≤ 1000000 then
        some (.slice (some ⟨H.length + 2, 0, none⟩) (n + 1) (n + 1), H.set b .dead ++ [.dead, .dead, .cells ⟨es, true, false⟩ (insAt (cs.take (n * es)) (i.toNat * es) xs)])
      else none
    | _, _ => none
  | _, _ => none

theorem insertS_keeps {es : Nat} {vs : List Value} {H : MH} {r : Value} {H' : MH} (hm : insertS es vs H = some (r, H')) : Keeps H H' := by
  unfold insertS at hm
  split at hm <;> first | contradiction | skip
  · split at hm <;> first | contradiction | skip
    split at hm <;> first | contradiction | skip
    cases hm
    exact ⟨by simp, fun id h => get_app h⟩
  · split at hm <;> first | contradiction | skip
    split at hm <;> first | contradiction | skip
    cases hm
    refine ⟨by simp, fun id h => ?_⟩
    have hlt := (List.getElem?_eq_some_iff.1 h).1
    rw [List.getElem?_append_left (by simpa using hlt), List.getElem?_set]
    split
    · rename_i e
      rw [if_pos (by rw [e]; exact hlt)]
    · exact h

theorem insertS_ok {P : Program} {mp : FuncId → Option MDef} (hM : MapOk P mp) {f fo fr : FuncId} {es bytes : Nat} {z : List Value} (hf : mp f = some (.code (cInsert es bytes z fo fr))) (ho : mp fo = some (.intr overS))
    (hes1 : 1 < es) (hby : bytes ≤ 4096) (hzl : z.length = es) (hz : z.all one = true) : IntrOk P f (insertS es) := by
  have hes : 0 < es := by omega
  refine ⟨fun vs H r H' hm φ w args hh hr => ?_, fun vs H r H' hm => insertS_keeps hm⟩
  unfold insertS at hm
  split at hm <;> first | contradiction | skip
  · rename_i i bv cv
    split at hm <;> first | contradiction | skip
    rename_i iv xs hV
    split at hm <;> first | contradiction | skip
    rename_i hc
    obtain ⟨rfl, h1, h2, h3, h4, h5⟩ := hc
    cases hm
    refine R_ok hM f _ H _ _ ?_ φ w args hh hr
    have hs : srcCells es H (.slice (some ⟨bv, 0, none⟩) 1 cv) = some (1, xs) := by
      simp only [srcCells, hV]
      rw [if_pos (by omega)]
      simp [h3]
      rw [← h3]; simp
    have happ := app_nil (es := es) (bytes := bytes) hs (by omega) (by omega) hby
    rw [R_code hf]
    simp [cInsert, happ]
  · rename_i b n c i bv cv
    split at hm <;> first | contradiction | skip
    rename_i ib cs iv xs hB hV
    split at hm <;> first | contradiction | skip
    rename_i hc
    obtain ⟨rfl, hcs, hnc, hc0, hl, hi0, hin, hvw, hve, hxl, hx, hcv, hne, hnm⟩ := hc
    cases hm
    obtain ⟨j, rfl⟩ : ∃ j : Nat, i = (j : Int) := ⟨i.toNat, by omega⟩
    simp only [Int.toNat_natCast] at hin ⊢
    obtain ⟨x, y, u, rfl, hx1, hy1, hu1⟩ := rels3' hr
    cases hx1 with
    | slicee => omega
    | slice hφ hn1 hc1 hex1 hroom1 ha1 =>
    rename_i c' b' pl
    obtain ⟨q1, q2, rc, elem, lo, hi, q3, q4, q5, q6, q7⟩ := hh.cells hφ hB
    have hlt := (List.getElem?_eq_some_iff.1 hB).1
    have hltv := (List.getElem?_eq_some_iff.1 hV).1
    replace q1 : es = pl.es := q1
    replace q2 : false = pl.ex := q2
    have hmulc : c * es ≤ c' * es := Nat.mul_le_mul_right _ hc1
    have hmuln : n * es ≤ c * es := Nat.mul_le_mul_right _ hnc
    rw [← q1] at hroom1
    -- the object under a new number, with all the room that it has
    generalize hcs' : cs ++ List.replicate (c' * es - cs.length) unk = cs'
    have hcl : cs'.length = c' * es := by rw [← hcs']; simp; omega
    have hO1 : ORel φ w ⟨pl.block, pl.base, c' * es, es, true⟩ (.cells ⟨es, true, true⟩ cs') := by
      refine ⟨rfl, rfl, rc, elem, lo, hi, q3, by show cs'.length ≤ c' * es; omega, by show pl.base + c' * es ≤ _; omega, fun k v hk => ?_, fun _ => (q7.1 rfl).imp id fun h => absurd (show es = 1 from h.2) (by omega), fun t h => by cases h⟩
      have hkl := (List.getElem?_eq_some_iff.1 hk).1
      rw [hcl] at hkl
      rw [← hcs'] at hk
      by_cases hk2 : k < cs.length
      · rw [List.getElem?_append_left hk2] at hk
        exact q6 k v hk
      · rw [List.getElem?_append_right (by omega)] at hk
        have : v = unk := by
          have := List.mem_of_getElem? hk
          simpa using (List.mem_replicate.1 this).2
        subst this
        have hb2 : pl.base + k < rc.size := by omega
        exact ⟨rc[pl.base + k], Array.getElem?_eq_getElem hb2, .inl rfl⟩
    have st1 := Step.move (w' := w) hh hφ hB (show (MObj.cells ⟨es, true, false⟩ cs).mut = true from rfl) (pl' := ⟨pl.block, pl.base, c' * es, es, true⟩) rfl rfl rfl rfl rfl (fun _ _ => rfl) hO1
    generalize hH1 : H.set b .dead ++ [MObj.cells ⟨es, true, true⟩ cs'] = H1 at st1
    have hl1 : H1.length = H.length + 1 := by rw [← hH1]; simp
    have hB1 : H1[H.length]? = some (.cells ⟨es, true, true⟩ cs') := by
      rw [← hH1, List.getElem?_append_right (by simp)]; simp
    have hold : ∀ id, id < H.length → id ≠ b → H1[id]? = H[id]? := fun id h1 h2 => by
      rw [← hH1, List.getElem?_append_left (by simpa using h1), List.getElem?_set_ne (Ne.symm h2)]
    have hbd : H1[b]? = some .dead := by
      rw [← hH1, List.getElem?_append_left (by simpa using hlt), List.getElem?_set_self hlt]
    have hV1 : H1[bv]? = some (.cells iv xs) := by rw [hold bv hltv hne]; exact hV
    have htk : cs'.take (n * es) = cs.take (n * es) := by
      rw [← hcs', List.take_append_of_le_length (by omega)]
    obtain ⟨H2, b2, c2, ex, cs2, hR, hn2, hB2, hcl2, htk2, hwh, hfr⟩ := R_insertX (mp := mp) hf ho (H := H1) (b := H.length) (n := n) (c := c') (bv := bv) (cv := cv) (i := j) hB1 hcl htk hl (by omega) hin hV1 hvw hve hxl hx hcv (by omega) hes1 hnm hby hzl hz
    have hinv := R_ok hM f _ H1 _ _ hR (φ.set H.length ⟨pl.block, pl.base, c' * es, es, true⟩) w [.slice (some ⟨pl.block, b', none⟩) n c', y, u] st1.rel
      (.cons (VRel.slice (pl := ⟨pl.block, pl.base, c' * es, es, true⟩) (Ren.set_self ..) (by omega) (Nat.le_refl _) (fun _ => rfl) (by simp) (fun h => ha1 h)) (.cons (hy1.mono st1.le) (.cons (hu1.mono st1.le) .nil)))
    refine hinv.mono fun v w' ⟨φ2, hv, st2⟩ => ?_
    cases hv with
    | slice hφ2 hn3 hc3 hex3 hroom3 ha3 =>
    rename_i c2' b'' p2 _
    obtain ⟨p1, p3, rc2, elem2, lo2, hi2, g3, g4, g5, g6, g7⟩ := st2.rel.cells hφ2 hB2
    replace p1 : es = p2.es := p1
    generalize hL : insAt (cs.take (n * es)) (j * es) xs = L at htk2 ⊢
    have hmul2 : (n + 1) * es ≤ c2 * es := Nat.mul_le_mul_right _ hn2
    have hLl : L.length = (n + 1) * es := by rw [← htk2]; simp; omega
    have hl2 : H2.length = H.length + 1 ∨ H2.length = H.length + 2 := by omega
    have hb2 : b2 = H.length ∨ b2 = H.length + 1 := by omega
    -- pad
    obtain ⟨H3, st3, hl3, hB3, hfr3⟩ : ∃ H3 : MH, Step H1.length (φ.set H.length ⟨pl.block, pl.base, c' * es, es, true⟩) (hp H1) w φ2 (hp H3) w' ∧ H3.length = H.length + 2 ∧ H3[b2]? = some (.cells ⟨es, true, ex⟩ cs2) ∧
        ∀ id, id < H.length → H3[id]? = H1[id]? := by
      rcases hl2 with hl2 | hl2
      · refine ⟨H2 ++ [.dead], st2.congr fun id pq hq => ?_, by simp; omega, get_app hB2, fun id h => ?_⟩
        · obtain ⟨o, h1, _⟩ := st2.rel.obj id pq hq
          unfold hp at h1 ⊢
          rw [h1]; exact get_app h1
        · rw [List.getElem?_append_left (by omega)]
          exact hfr id (by omega) (by omega)
      · exact ⟨H2, st2, hl2, hB2, fun id h => hfr id (by omega) (by omega)⟩
    have hO2 : ORel φ2 w' ⟨p2.block, p2.base, p2.room, es, false⟩ (.cells ⟨es, true, false⟩ L) := by
      refine ⟨rfl, rfl, rc2, elem2, lo2, hi2, g3, by show L.length ≤ p2.room; omega, g5, fun k v hk => ?_, fun _ => g7.1 rfl, fun t h => by cases h⟩
      have hkl := (List.getElem?_eq_some_iff.1 hk).1
      rw [← htk2, List.getElem?_take_of_lt (by omega)] at hk
      exact g6 k v hk
    have st4 := Step.move (w' := w') st3.rel hφ2 hB3 (show (MObj.cells ⟨es, true, ex⟩ cs2).mut = true from rfl) (pl' := ⟨p2.block, p2.base, p2.room, es, false⟩) rfl rfl rfl rfl rfl (fun _ _ => rfl) hO2
    rw [hl3] at st4
    have st5 := Step.kill (n := H.length + 2) st4.rel H.length
    have st6 := Step.kill (n := H.length + 2) st5.rel (H.length + 1)
    have heq : ((H3.set b2 .dead ++ [MObj.cells ⟨es, true, false⟩ L]).set H.length .dead).set (H.length + 1) .dead = H.set b .dead ++ [.dead, .dead, .cells ⟨es, true, false⟩ L] := by
      apply List.ext_getElem?
      intro k
      by_cases h1 : k < H.length
      · rw [List.getElem?_set_ne (by omega), List.getElem?_set_ne (by omega), List.getElem?_append_left (by simp; omega), List.getElem?_set_ne (by omega), List.getElem?_append_left (by simpa using h1), hfr3 k h1]
        by_cases h2 : k = b
        · subst h2
          rw [hbd, List.getElem?_set_self hlt]
        · rw [hold k h1 h2, List.getElem?_set_ne (Ne.symm h2)]
      · rw [List.getElem?_append_right (l₁ := H.set b .dead) (by simp; omega)]
        simp only [List.length_set]
        by_cases h2 : k = H.length
        · subst h2
          rw [List.getElem?_set_ne (by omega), List.getElem?_set_self (by simp; omega)]; simp
        · by_cases h3 : k = H.length + 1
          · subst h3
            rw [List.getElem?_set_self (by simp; omega)]; simp
          · rw [List.getElem?_set_ne (by omega), List.getElem?_set_ne (by omega), List.getElem?_append_right (by simp; omega)]
            simp only [List.length_set, hl3]
            obtain ⟨d, rfl⟩ : ∃ d, k = H.length + 2 + d := ⟨k - (H.length + 2), by omega⟩
            rw [show H.length + 2 + d - (H.length + 2) = d from by omega, show H.length + 2 + d - H.length = d + 2 from by omega]
            rfl
    rw [heq] at st6
    refine ⟨_, ?_, (st1.trans (st3.trans (st4.trans (st5.trans st6 (Nat.le_refl _)) (by omega)) (by omega)) (by omega) : Step H.length φ (hp H) w (φ2.set (H.length + 2) ⟨p2.block, p2.base, p2.room, es, false⟩) _ w')⟩
    rw [← p1] at hroom3
    exact VRel.slice (pl := ⟨p2.block, p2.base, p2.room, es, false⟩) (Ren.set_self ..) (Nat.le_refl _) (by omega) (fun h => by cases h) hroom3 ha3
end Go.Mod
/- Slices of one's own with room: one element put in, some taken out; rows of pairs. -/
set_option linter.unusedVariables false
set_option linter.unusedSimpArgs false
namespace Go.Mod

/-- A slice of one's own; where it is not nil it has room. -/
def OwnP (es : Nat) (v : Value) (l : List Value) : HP := fun H F => OwnA es v l H F ∧ ∀ a n, v ≠ .slice (some a) n 0
theorem OwnP.good {es : Nat} {v : Value} {l : List Value} : Good (OwnP es v l) := OwnA.good.and
section
variable {mp : FuncId → Option MDef} {H H1 : MH} {F : List Nat}
theorem OwnP.row {es : Nat} {v : Value} {l : List Value} (h : OwnP es v l H F) : Row es H v l := Own.row h.1
theorem OwnP.one {es : Nat} {v : Value} {l : List Value} (h : OwnP es v l H F) : one v = true := by
  rcases h.1 with ⟨rfl, _⟩ | ⟨b, n, c, cs, rfl, _⟩ <;> rfl
theorem OwnP.nil {es : Nat} : OwnP es (.slice none 0 0) [] H [] := ⟨.inl ⟨rfl, rfl, rfl⟩, by simp⟩
theorem OwnP.cases {es : Nat} {v : Value} {l : List Value} (h : OwnP es v l H F) :
    (v = .slice none 0 0 ∧ l = [] ∧ F = []) ∨ ∃ b n c cs, v = .slice (some ⟨b, 0, none⟩) n c ∧ n ≤ c ∧ 1 ≤ c ∧ H[b]? = some (.cells ⟨es, true, false⟩ cs) ∧ cs.length = c * es ∧ cs.take (n * es) = l ∧ l.length = n * es ∧ F = [b] := by
  obtain ⟨h, hp⟩ := h
  rcases h with h | ⟨b, n, c, cs, rfl, h2, h3, h4, h5, h6⟩
  · exact .inl h
  · refine .inr ⟨b, n, c, cs, rfl, h2, ?_, h3, h4, h5, ?_, h6⟩
    · rcases Nat.eq_zero_or_pos c with h | h
      · subst h; exact absurd rfl (hp _ _)
      · exact h
    · have := Nat.mul_le_mul_right es h2
      rw [← h5, List.length_take]; omega

/-- One element put in. -/
theorem R_insert {f : FuncId} {es : Nat} (hf : mp f = some (.intr (insertS es))) {v : Value} {l : List Value} (h : OwnP es v l H F) (hl : l.all one = true) {n i bv cv : Nat} (hn : l.length = n * es) (hi : i ≤ n) (hes : 0 < es) (hb : n ≤ 1000000) {iv : Info} {xs : List Value} (hV : H[bv]? = some (.cells iv xs))
    (hbv : bv ∉ F) (hvw : iv.rw = true) (hve : iv.es = es) (hxl : xs.length = es) (hx : xs.all one = true) (hcv : 1 ≤ cv) :
    ∃ v' H' F', R mp f [v, .int .i64 (i : Int), .slice (some ⟨bv, 0, none⟩) 1 cv] H = some (v', H') ∧ OwnP es v' (insAt l (i * es) xs) H' F' ∧ Upd H F H' F' := by
  rcases h.cases with ⟨rfl, rfl, rfl⟩ | ⟨b, m, c, cs, rfl, h2, h3, h4, h5, h6, h7, rfl⟩
  · have hn0 : n = 0 := by
      rcases Nat.eq_zero_or_pos n with h | h
      · exact h
      · have := Nat.mul_le_mul h hes; simp at hn; omega
    have hi0 : i = 0 := by omega
    subst hi0
    refine ⟨.slice (some ⟨H.length, 0, none⟩) 1 1, H ++ [.cells ⟨es, true, false⟩ xs], [H.length], ?_, ⟨.inr ⟨H.length, 1, 1, xs, rfl, Nat.le_refl _, by simp, by omega, by simp [insAt, ← hxl], rfl⟩, by simp⟩, Upd.push fun id hid => .inr (by simp at hid; omega)⟩
    rw [R_intr hf]
    simp only [insertS, hV]
    rw [if_pos ⟨by simp, hvw, hve, hxl, hx, hcv⟩]
  · have hmn : m = n := Nat.eq_of_mul_eq_mul_right hes (h7.symm.trans hn)
    subst hmn
    have hlt := (List.getElem?_eq_some_iff.1 h4).1
    simp at hbv
    have hil : (insAt l (i * es) xs).length = (m + 1) * es := by
      rw [insAt_len (by rw [hn]; exact Nat.mul_le_mul_right _ hi), Nat.add_mul]; omega
    refine ⟨.slice (some ⟨H.length + 2, 0, none⟩) (m + 1) (m + 1), H.set b .dead ++ [.dead, .dead, .cells ⟨es, true, false⟩ (insAt l (i * es) xs)], [H.length + 2], ?_, ⟨.inr ⟨H.length + 2, m + 1, m + 1, _, rfl, Nat.le_refl _, ?_, hil, by rw [← hil, List.take_length], rfl⟩, by simp⟩, ⟨by simp, fun id h1 h2 => ?_, fun id hid => .inr (by simp at hid; omega)⟩⟩
    · rw [R_intr hf]
      simp only [insertS, h4, hV]
      rw [if_pos ⟨by trivial, h5, h2, h3, by rw [h6]; exact hl, by omega, by omega, hvw, hve, hxl, hx, hcv, hbv, hb⟩, h6, Int.toNat_natCast]
    · rw [List.getElem?_append_right (by simp)]; simp
    · simp at h2
      rw [List.getElem?_append_left (by simpa using h1), List.getElem?_set_ne (Ne.symm h2)]

/-- Elements taken out. -/
theorem R_delete {f : FuncId} {es bytes : Nat} {z : List Value} (hf : mp f = some (.code (cDelete es bytes z))) (hz : z.length = es) (hz1 : z.all one = true) (hes : 0 < es) {v : Value} {l : List Value} (h : OwnP es v l H F) (hl : l.all one = true) {n i j : Nat} (hn : l.length = n * es) (hb : n ≤ 1000000) (hbytes : bytes ≤ 4096)
    (hij : i ≤ j) (hjn : j ≤ n) : ∃ v' H', R mp f [v, .int .i64 (i : Int), .int .i64 (j : Int)] H = some (v', H') ∧ OwnP es v' (l.take (i * es) ++ l.drop (j * es)) H' F ∧ Fp (fun id => id ∈ F) H H' := by
  rcases h.cases with ⟨rfl, rfl, rfl⟩ | ⟨b, m, c, cs, rfl, h2, h3, h4, h5, h6, h7, rfl⟩
  · have hn0 : n = 0 := by
      rcases Nat.eq_zero_or_pos n with h | h
      · exact h
      · have := Nat.mul_le_mul h hes; simp at hn; omega
    have hj0 : j = 0 := by omega
    have hi0 : i = 0 := by omega
    subst hi0; subst hj0
    refine ⟨_, H, ?_, by simpa using h, Fp.refl _ _⟩
    rw [R_code hf]
    simp [cDelete]
  · have hmn : m = n := Nat.eq_of_mul_eq_mul_right hes (h7.symm.trans hn)
    subst hmn
    have hlt := (List.getElem?_eq_some_iff.1 h4).1
    have a1 : (i : Int) ≤ (j : Int) := by omega
    have a2 : (j : Int) ≤ (m : Int) := by omega
    have a4 : (m : Int) ≤ (c : Int) := by omega
    have a6 : (i : Int) ≤ (c : Int) := by omega
    by_cases hd : i = j
    · subst hd
      refine ⟨_, H, ?_, by rw [List.take_append_drop]; exact h, Fp.refl _ _⟩
      rw [R_code hf]
      simp [cDelete, sl_at h4, a1, a2, a4, a6, hij, hjn, h2]
    · have a7 : ¬ (i : Int) = (j : Int) := by omega
      have hie := Nat.mul_le_mul_right es hij
      have hje := Nat.mul_le_mul_right es hjn
      have hme := Nat.mul_le_mul_right es h2
      have s1 : (m - j) * es = m * es - j * es := Nat.sub_mul ..
      have s2 : (j - i) * es = j * es - i * es := Nat.sub_mul ..
      have s3 : (m - (j - i)) * es = m * es - (j - i) * es := Nat.sub_mul ..
      have hle : (j - i) * es ≤ m * es := Nat.mul_le_mul_right es (by omega)
      have hsrc : srcCells es H (.slice (some ⟨b, 0 + j * es, none⟩) (m - j) (c - j)) = some (m - j, l.drop (j * es)) := by
        simp only [srcCells, h4]
        rw [if_pos (by omega), Nat.zero_add, ← h6, List.drop_take, s1]
      obtain ⟨cs1, happ, hl1, ht1⟩ : ∃ cs1, meff (.app es bytes) [.slice (some ⟨b, 0, none⟩) i c, .slice (some ⟨b, 0 + j * es, none⟩) (m - j) (c - j)] H = some (.slice (some ⟨b, 0, none⟩) (m - (j - i)) c, H.set b (.cells ⟨es, true, false⟩ cs1)) ∧ cs1.length = cs.length ∧ cs1.take ((m - (j - i)) * es) = l.take (i * es) ++ l.drop (j * es) := by
        by_cases hlast : m - j = 0
        · have happ := app_zero (es := es) (bytes := bytes) (H := H) (a := some ⟨b, 0, none⟩) (len := i) (cap := c) (y := .slice (some ⟨b, 0 + j * es, none⟩) (m - j) (c - j)) (ys := l.drop (j * es)) (by simp) (by rintro x hx; cases hx; exact ⟨_, _, rfl, h4⟩) (by rw [hsrc, hlast])
          have hjm : j = m := by omega
          subst hjm
          refine ⟨cs, by rw [happ, set_self h4, show j - (j - i) = i by omega], rfl, ?_⟩
          rw [List.drop_of_length_le (by omega), List.append_nil, show j - (j - i) = i by omega, ← h6, List.take_take, Nat.min_eq_left hie]
        · have e1 : (i + (m - j)) * es = i * es + (m - j) * es := Nat.add_mul ..
          have happ := app_in (bytes := bytes) (o := 0) (len := i) (cap := c) h4 hsrc hlast rfl (by omega) rfl (by omega) (all_drop hl _)
          refine ⟨_, by rw [happ, show i + (m - j) = m - (j - i) by omega], ?_, ?_⟩
          · rw [fillAt_len (by simp; omega)]
          · have hf : (0 + i * es) + (l.drop (j * es)).length ≤ cs.length := by simp; omega
            apply List.ext_getElem?
            intro k
            by_cases hk : k < (m - (j - i)) * es
            · rw [List.getElem?_take_of_lt hk, fillAt_get hf]
              by_cases h1 : k < i * es
              · rw [if_pos (by omega), List.getElem?_append_left (by simp; omega), List.getElem?_take_of_lt h1, take_get h6 (by omega)]
              · rw [if_neg (by omega), if_pos (by simp; omega), List.getElem?_append_right (by simp; omega)]
                congr 1; simp; omega
            · rw [List.getElem?_eq_none (by simp; omega), List.getElem?_eq_none (by simp; omega)]
      have hB1 : (H.set b (.cells ⟨es, true, false⟩ cs1))[b]? = some (.cells ⟨es, true, false⟩ cs1) := List.getElem?_set_self hlt
      have e2 : m - (m - (j - i)) = j - i := by omega
      have hcl := clear_at (es := es) (z := z) hB1 rfl hz hz1 (0 + (m - (j - i)) * es) (m - (m - (j - i))) (c - (m - (j - i))) (by omega) (by rw [e2]; omega)
      have hrl : ((List.replicate (m - (m - (j - i))) z).flatten).length = (j - i) * es := by rw [List.length_flatten]; simp [hz, e2]
      have hff : 0 + (m - (j - i)) * es + ((List.replicate (m - (m - (j - i))) z).flatten).length ≤ cs1.length := by rw [hrl]; omega
      refine ⟨.slice (some ⟨b, 0, none⟩) (m - (j - i)) c, _, ?_, ⟨.inr ⟨b, m - (j - i), c, _, rfl, by omega, List.getElem?_set_self hlt, ?_, ?_, rfl⟩, by intro a n e; cases e; omega⟩, Fp.set b (.cells ⟨es, true, false⟩ (fillAt cs1 (0 + (m - (j - i)) * es) (List.replicate (m - (m - (j - i))) z).flatten)) (by simp)⟩
      · rw [R_code hf]
        simp at happ hcl hB1
        have a8 : ((m - (j - i) : Nat) : Int) ≤ (m : Int) := by omega
        have a9 : (0 : Int) ≤ ((m - (j - i) : Nat) : Int) := by omega
        simp [cDelete, sl_at h4, sl_at hB1, a1, a2, a4, a6, a7, a8, a9, mdraw_plain, happ, hcl, hij, hjn, h2, hd]
      · rw [fillAt_len hff, hl1, h5]
      · rw [← ht1]
        apply List.ext_getElem?
        intro k
        by_cases hk : k < (m - (j - i)) * es
        · rw [List.getElem?_take_of_lt hk, List.getElem?_take_of_lt hk, fillAt_get hff, if_pos (by omega)]
        · rw [List.getElem?_eq_none (by rw [List.length_take]; omega), List.getElem?_eq_none (by rw [List.length_take]; omega)]
end
end Go.Mod
/- Rows of pairs: fields that hold them, the first one of an id. -/
set_option linter.unusedVariables false
set_option linter.unusedSimpArgs false
namespace Go.Mod

/-! ### rows of pairs -/
def prs (ps : List (Int × Int)) : List (List Int) := ps.map fun p => [p.1, p.2]
def prv (ps : List (Int × Int)) : List Value := recs (prs ps)
theorem prs_w (ps : List (Int × Int)) : ∀ p ∈ prs ps, p.length = 2 := by
  intro p hp
  obtain ⟨q, _, rfl⟩ := List.mem_map.1 hp
  rfl
theorem prs_get {ps : List (Int × Int)} {k : Nat} {p : Int × Int} (h : ps[k]? = some p) : (prs ps)[k]? = some [p.1, p.2] := by simp [prs, h]
theorem prv_len (ps : List (Int × Int)) : (prv ps).length = ps.length * 2 := by rw [prv, recs_len (prs_w ps)]; simp [prs]
theorem prv_one (ps : List (Int × Int)) : (prv ps).all one = true := recs_one _
theorem prv_nil : prv [] = [] := rfl
theorem prv_cons (p : Int × Int) (ps : List (Int × Int)) : prv (p :: ps) = [.int .i64 p.1, .int .i64 p.2] ++ prv ps := by simp [prv, prs, recs, i64s]
theorem prv_app (ps qs : List (Int × Int)) : prv (ps ++ qs) = prv ps ++ prv qs := by simp [prv, prs, recs]
theorem prv_take : ∀ (ps : List (Int × Int)) (k : Nat), (prv ps).take (k * 2) = prv (ps.take k)
  | [], k => by simp [prv_nil]
  | p :: ps, 0 => by simp [prv_nil]
  | p :: ps, k + 1 => by
    rw [prv_cons, List.take_succ_cons, prv_cons, show (k + 1) * 2 = [Value.int .i64 p.1, Value.int .i64 p.2].length + k * 2 by simp; omega, List.take_length_add_append, prv_take ps k]
theorem prv_drop : ∀ (ps : List (Int × Int)) (k : Nat), (prv ps).drop (k * 2) = prv (ps.drop k)
  | [], k => by simp [prv_nil]
  | p :: ps, 0 => by simp
  | p :: ps, k + 1 => by
    rw [prv_cons, List.drop_succ_cons, show (k + 1) * 2 = [Value.int .i64 p.1, .int .i64 p.2].length + k * 2 by simp; omega, ← List.drop_drop, List.drop_left', prv_drop ps k]
    rfl
/-- One more, in its place. -/
def putAt (ps : List (Int × Int)) (j : Nat) (p : Int × Int) : List (Int × Int) := ps.take j ++ p :: ps.drop j
theorem putAt_len {ps : List (Int × Int)} {j : Nat} (h : j ≤ ps.length) (p : Int × Int) : (putAt ps j p).length = ps.length + 1 := by simp [putAt]; omega
theorem prv_ins (ps : List (Int × Int)) (j : Nat) (p : Int × Int) : insAt (prv ps) (j * 2) [.int .i64 p.1, .int .i64 p.2] = prv (putAt ps j p) := by
  rw [putAt, prv_app, prv_cons, insAt, prv_take, prv_drop, List.append_assoc]
theorem prv_cut (ps : List (Int × Int)) (i j : Nat) : (prv ps).take (i * 2) ++ (prv ps).drop (j * 2) = prv (ps.take i ++ ps.drop j) := by rw [prv_app, prv_take, prv_drop]

section
variable {mp : FuncId → Option MDef} {H H1 : MH} {F : List Nat} {t k : Nat} {i : Info} {cs : List Value} {v : Value} {l : List Value}
/-- A pair of a row. -/
theorem Row.pr {a : Option Addr} {n c k : Nat} {ps : List (Int × Int)} {p : Int × Int} (h : Row 2 H (.slice a n c) (prv ps)) (hk : ps[k]? = some p) :
    n = ps.length ∧ ∃ b o j cs, a = some ⟨b, o, none⟩ ∧ H[b]? = some (.cells j cs) ∧ cs[o + k * 2]? = some (.int .i64 p.1) ∧ cs[o + k * 2 + 1]? = some (.int .i64 p.2) ∧ mread (.ld (some 2)) [.pointer (some ⟨b, o + k * 2, none⟩)] H = some (.agg #[.int .i64 p.1, .int .i64 p.2]) := by
  obtain ⟨hn, b, o, j, cs, rfl, hB, _, hlen, htk, hx⟩ := h.rec_ (prs_w ps) (by omega) (prs_get hk)
  have hld := ldn_at hB (o + k * 2) 2 hlen (by rw [htk]; exact i64s_one _)
  rw [htk] at hld
  exact ⟨by simpa [prs] using hn, b, o, j, cs, rfl, hB, hx 0 _ rfl, hx 1 _ rfl, hld⟩
theorem Row.prn {a : Option Addr} {n c : Nat} {ps : List (Int × Int)} (h : Row 2 H (.slice a n c) (prv ps)) : n = ps.length := by
  have := h.recn (prs_w ps) (by omega)
  simpa [prs] using this

/-! ### a field's slice -/
theorem ins_fld {f : FuncId} (hf : mp f = some (.intr (insertS 2))) {ps : List (Int × Int)} {S : HP} (s : Good S) (h : ((Pt t i cs * OwnP 2 v (prv ps)) * S) H F) (hrw : i.rw = true) (hk : k < cs.length) {j : Nat} (hj : j ≤ ps.length) (hb : ps.length ≤ 1000000) (p : Int × Int) :
    ∃ v' H1 H' F', R mp f [v, .int .i64 (j : Int), .slice (some ⟨H.length, 0, none⟩) 1 1] (H ++ [.cells ⟨2, true, true⟩ [.int .i64 p.1, .int .i64 p.2]]) = some (v', H1) ∧ meff (.st 1) [.pointer (some ⟨t, k, none⟩), v'] H1 = some (.tuple #[], H') ∧
      ((Pt t i (cs.set k v') * OwnP 2 v' (prv (putAt ps j p))) * S) H' F' ∧ Upd H F H' F' := by
  have g1 := Pt.good (t := t) (i := i) (cs := cs)
  have g2 := OwnP.good (es := 2) (v := v) (l := prv ps)
  have h1 := ((g1.star g2).star s).ext h (H1 := H ++ [.cells ⟨2, true, true⟩ [.int .i64 p.1, .int .i64 p.2]]) ⟨_, rfl⟩
  have hlt := ((g1.star g2).star s).lt h
  have hV : (H ++ [MObj.cells ⟨2, true, true⟩ [.int .i64 p.1, .int .i64 p.2]])[H.length]? = some (.cells ⟨2, true, true⟩ [.int .i64 p.1, .int .i64 p.2]) := by simp
  obtain ⟨v', H1, F1, q, u, ha⟩ := star_upd (P' := fun v' => OwnP 2 v' (prv (putAt ps j p))) (C := fun v' H' => R mp f [v, .int .i64 (j : Int), .slice (some ⟨H.length, 0, none⟩) 1 1] (H ++ [.cells ⟨2, true, true⟩ [.int .i64 p.1, .int .i64 p.2]]) = some (v', H')) (s.star g1) (fun _ => OwnP.good) (star_assoc (star_comm (star_assoc h1))) (fun A hA hAF => by
    obtain ⟨v', H', F', a1, a2, a3⟩ := R_insert (mp := mp) hf hA (prv_one ps) (prv_len ps) hj (by omega) hb (bv := H.length) (cv := 1) (iv := ⟨2, true, true⟩) (xs := [.int .i64 p.1, .int .i64 p.2]) hV (fun hh => by have := hlt _ (hAF _ hh); omega) rfl rfl rfl rfl (by omega)
    rw [prv_ins] at a2
    exact ⟨v', H', F', a2, a3, a1⟩)
  have q' : ((Pt t i cs * OwnP 2 v' (prv (putAt ps j p))) * S) H1 F1 := star_assoc' (star_comm (star_assoc' q))
  obtain ⟨B, hB, _⟩ := star_l q
  obtain ⟨H', e, q2, u2⟩ := fld_put2 (v := v') OwnP.good s q' hrw hk hB.one
  exact ⟨v', H1, H', F1, ha, e, q2, ((Upd.push (G := F) fun _ h => .inl h).trans u).trans u2⟩
theorem del_fldp {f : FuncId} (hf : mp f = some (.code (cDelete 2 16 [.int .i64 0, .int .i64 0]))) {ps : List (Int × Int)} {S : HP} (s : Good S) (h : ((Pt t i cs * OwnP 2 v (prv ps)) * S) H F) (hrw : i.rw = true) (hk : k < cs.length) {x y : Nat} (hxy : x ≤ y) (hy : y ≤ ps.length) (hb : ps.length ≤ 1000000) :
    ∃ v' H1 H' F', R mp f [v, .int .i64 (x : Int), .int .i64 (y : Int)] H = some (v', H1) ∧ meff (.st 1) [.pointer (some ⟨t, k, none⟩), v'] H1 = some (.tuple #[], H') ∧
      ((Pt t i (cs.set k v') * OwnP 2 v' (prv (ps.take x ++ ps.drop y))) * S) H' F' ∧ Upd H F H' F' := by
  have g1 := Pt.good (t := t) (i := i) (cs := cs)
  obtain ⟨v', H1, F1, q, u, ha⟩ := star_upd (P' := fun v' => OwnP 2 v' (prv (ps.take x ++ ps.drop y))) (C := fun v' H' => R mp f [v, .int .i64 (x : Int), .int .i64 (y : Int)] H = some (v', H')) (s.star g1) (fun _ => OwnP.good) (star_assoc (star_comm (star_assoc h))) (fun A hA _ => by
    obtain ⟨v', H', a1, a2, a3⟩ := R_delete (mp := mp) hf rfl rfl (by omega) hA (prv_one ps) (prv_len ps) hb (by omega) hxy hy
    rw [prv_cut] at a2
    exact ⟨v', H', A, a2, Upd.of_fp a3 (fun _ _ h => h) fun _ h => .inl h, a1⟩)
  have q' : ((Pt t i cs * OwnP 2 v' (prv (ps.take x ++ ps.drop y))) * S) H1 F1 := star_assoc' (star_comm (star_assoc' q))
  obtain ⟨B, hB, _⟩ := star_l q
  obtain ⟨H', e, q2, u2⟩ := fld_put2 (v := v') OwnP.good s q' hrw hk hB.one
  exact ⟨v', H1, H', F1, ha, e, q2, u.trans u2⟩
end

theorem own_push1 {H : MH} {F : List Nat} {v : Value} {l : List Value} {es bytes : Nat} (h : OwnA es v l H F) (hl : l.all one = true) {xs : List Value} (hx : xs.all one = true) (hxl : xs.length = es) (hes : 0 < es) (hb : l.length + es ≤ 1000000) (hbytes : bytes ≤ 4096) :
    ∃ a n c H' F', meff (.app es bytes) [v, .slice (some ⟨H.length, 0, none⟩) 1 1] (H ++ [.cells ⟨es, true, true⟩ xs]) = some (.slice a n c, H') ∧ OwnA es (.slice a n c) (l ++ xs) H' F' ∧ Upd H F H' F' := by
  have e : Ext H (H ++ [.cells ⟨es, true, true⟩ xs]) := ⟨_, rfl⟩
  have h1 := OwnA.good.ext h e
  obtain ⟨v', H', F', a1, a2, a3⟩ := own_appU (bytes := bytes) h1 hl (row_new (n := 1) (by omega)) hx hes (by omega) hbytes
  obtain ⟨a, n, c, rfl, _⟩ := (Own.row a2).slice
  exact ⟨a, n, c, H', F', a1, a2, (Upd.ext e).trans a3⟩
theorem Upd.toExt {H H' : MH} {G : List Nat} (u : Upd H [] H' G) : Ext H H' ∧ ∀ id ∈ G, H.length ≤ id :=
  ⟨Ext.of_fp (S := fun _ => False) (Ext.refl H) ⟨u.len, fun id h1 _ => u.same id h1 (by simp)⟩ fun _ h => h.elim, fun id h => (u.new id h).resolve_left (by simp)⟩

/-! ### the first one of an id -/
def cIxf_0 : MCode := .seq (.ops [⟨(some 9), .bin .lss, [.r 8, .r 7], none, []⟩]) <|
    .seq (.cond (.r 9)
      (.skip)
      (.exit 0)) <|
    .seq (.block 1 (.seq (.ops [⟨(some 10), .mov, [.r 8], none, [9]⟩,
        ⟨(some 5), .mov, [.r 10], none, [10]⟩]) <|
      .seq (.ops [⟨(some 11), .mov, [.r 1], none, []⟩,
        ⟨(some 12), .mov, [.r 0], none, []⟩,
        ⟨(some 13), .mov, [.r 5], none, []⟩,
        ⟨(some 14), .ia 2, [.r 12, .r 13], none, [12, 13]⟩,
        ⟨(some 15), .ld (some 2), [.r 14], none, [14]⟩,
        ⟨(some 16), .callv, [.r 11, .r 15], none, [11, 15]⟩]) <|
      .cond (.r 16)
        (.seq (.ops [⟨(some 17), .mov, [.r 5], none, [0, 1, 5, 7, 8, 16]⟩,
          ⟨(some 4), .mov, [.r 17], none, [17]⟩]) <|
        .ret)
        (.skip))) <|
    .ops [⟨(some 18), .bin .add, [.r 8, .k (.int .i64 1)], none, [5, 8, 16]⟩,
      ⟨(some 8), .mov, [.r 18], none, [18]⟩]
def cIxf : MFn := ⟨[.tmp 4], .seq (.ops [⟨(some 4), .mov, [.k (.int .i64 0)], none, [4]⟩]) <|
.seq (.seq (.ops [⟨(some 6), .mov, [.r 0], none, []⟩,
  ⟨(some 7), .len, [.r 6], none, [6]⟩,
  ⟨(some 8), .mov, [.k (.int .i64 0)], none, []⟩]) <|
.block 0 (.loop cIxf_0)) <|
.seq (.ops [⟨(some 4), .mov, [.k (.int .i64 (-1))], none, [0, 1, 7, 8, 9]⟩]) <|
.ret⟩
def cIsID : MFn := ⟨[.tmp 3], .seq (.ops [⟨(some 2), .box, [.r 0], none, [0]⟩,
  ⟨(some 3), .mov, [.k (.bool false)], none, [3]⟩]) <|
.seq (.ops [⟨(some 4), .fa 1, [.r 2], none, [2]⟩,
  ⟨(some 5), .ld none, [.r 4], none, [4]⟩,
  ⟨(some 6), .ld none, [.r 1], none, []⟩,
  ⟨(some 7), .bin .eql, [.r 5, .r 6], none, [5, 6]⟩,
  ⟨(some 3), .mov, [.r 7], none, [7]⟩]) <|
.ret⟩
theorem ids_get {ps : List (Int × Int)} {k : Nat} {p : Int × Int} (h : ps[k]? = some p) : (ps.map (·.2))[k]? = some p.2 := by simp [h]
section
variable {mp : FuncId → Option MDef} {f g : FuncId} {x : Int} {a : Option Addr} {n c bx : Nat} {ps : List (Int × Int)} {ix : Info}
theorem ixf_loop (hg : mp g = some (.code cIsID)) (hl : ps.length ≤ 1000000) : ∀ (k i : Nat) (H : MH), ps.length - i = k → i ≤ ps.length → Row 2 H (.slice a n c) (prv ps) → H[bx]? = some (.cells ix [.int .i64 x]) → (∀ j, j < i → (ps.map (·.2))[j]? ≠ some x) →
    (∃ (q : Nat) (X : MH), (ps.map (·.2))[q]? = some x ∧ (∀ j, j < q → (ps.map (·.2))[j]? ≠ some x) ∧ Rc mp (.loop cIxf_0) [(0, .slice a n c), (1, .func (.func g) #[] #[.pointer (some ⟨bx, 0, none⟩)]), (7, .int .i64 (n : Int)), (8, .int .i64 (i : Int))] H = some (.ret, [(4, .int .i64 (q : Int))], H ++ X)) ∨
    ((∀ j : Nat, (ps.map (·.2))[j]? ≠ some x) ∧ ∃ X : MH, Rc mp (.loop cIxf_0) [(0, .slice a n c), (1, .func (.func g) #[] #[.pointer (some ⟨bx, 0, none⟩)]), (7, .int .i64 (n : Int)), (8, .int .i64 (i : Int))] H = some (.exit 0, [(0, .slice a n c), (1, .func (.func g) #[] #[.pointer (some ⟨bx, 0, none⟩)]), (7, .int .i64 (n : Int)), (8, .int .i64 (n : Int)), (9, .bool false)], H ++ X)) := by
  intro k
  induction k with
  | zero =>
    intro i H hk hi hr hx hb
    have hn := hr.prn
    have hin : i = n := by omega
    subst hin
    refine .inr ⟨fun j => ?_, [], ?_⟩
    · rcases Nat.lt_or_ge j ps.length with h | h
      · exact hb j (by omega)
      · rw [List.getElem?_eq_none (by simpa using h)]; simp
    · rw [Rc_loop]
      simp [cIxf_0]
  | succ k ih =>
    intro i H hk hi hr hx hb
    have hn := hr.prn
    have hil : i < n := by omega
    obtain ⟨p, hp⟩ : ∃ p, ps[i]? = some p := ⟨_, List.getElem?_eq_getElem (by omega)⟩
    obtain ⟨_, b, o, j, cs, rfl, hB, h1, h2, h3⟩ := hr.pr hp
    have hbx := (List.getElem?_eq_some_iff.1 hx).1
    have hx1 : (H ++ [MObj.cells ⟨0, true, false⟩ [.int .i64 p.1, .int .i64 p.2]])[bx]? = some (.cells ix [.int .i64 x]) := get_app hx
    have hcall : R mp g [.agg #[.int .i64 p.1, .int .i64 p.2], .pointer (some ⟨bx, 0, none⟩)] H = some (.bool (p.2 == x), H ++ [.cells ⟨0, true, false⟩ [.int .i64 p.1, .int .i64 p.2]]) := by
      rw [R_code hg]
      simp [cIsID, ldx, hx1, hx]
    by_cases hxy : p.2 = x
    · refine .inl ⟨i, [.cells ⟨0, true, false⟩ [.int .i64 p.1, .int .i64 p.2]], by rw [ids_get hp, hxy], hb, ?_⟩
      have e : (p.2 == x) = true := by simpa using hxy
      rw [e] at hcall
      rw [Rc_loop]
      simp [cIxf_0, hil, h3, hcall]
    · have w : IntKind.i64.wrap ((i : Int) + 1) = (i : Int) + 1 := wrap_i64 (by omega) (by omega)
      have step : Rc mp (.loop cIxf_0) [(0, .slice (some ⟨b, o, none⟩) n c), (1, .func (.func g) #[] #[.pointer (some ⟨bx, 0, none⟩)]), (7, .int .i64 (n : Int)), (8, .int .i64 (i : Int))] H = Rc mp (.loop cIxf_0) [(0, .slice (some ⟨b, o, none⟩) n c), (1, .func (.func g) #[] #[.pointer (some ⟨bx, 0, none⟩)]), (7, .int .i64 (n : Int)), (8, .int .i64 ((i + 1 : Nat) : Int))] (H ++ [.cells ⟨0, true, false⟩ [.int .i64 p.1, .int .i64 p.2]]) := by
        have e : (p.2 == x) = false := by simpa using hxy
        rw [e] at hcall
        rw [Rc_loop]
        simp [cIxf_0, hil, h3, hcall, w]
      rw [step]
      rcases ih (i + 1) _ (by omega) (by omega) (Ext.row ⟨_, rfl⟩ hr) hx1 (fun j hj => by
        rcases Nat.lt_or_ge j i with h | h
        · exact hb j h
        · have : j = i := by omega
          subst this
          rw [ids_get hp]; simp; exact hxy) with ⟨q, X, e1, e2, e3⟩ | ⟨e1, X, e2⟩
      · exact .inl ⟨q, [.cells ⟨0, true, false⟩ [.int .i64 p.1, .int .i64 p.2]] ++ X, e1, e2, by rw [e3, List.append_assoc]⟩
      · exact .inr ⟨e1, [.cells ⟨0, true, false⟩ [.int .i64 p.1, .int .i64 p.2]] ++ X, by rw [e2, List.append_assoc]⟩
theorem R_ixf {H : MH} (hf : mp f = some (.code cIxf)) (hg : mp g = some (.code cIsID)) (hr : Row 2 H (.slice a n c) (prv ps)) (hl : ps.length ≤ 1000000) (hx : H[bx]? = some (.cells ix [.int .i64 x])) :
    ∃ X, R mp f [.slice a n c, .func (.func g) #[] #[.pointer (some ⟨bx, 0, none⟩)]] H = some (.int .i64 (ixOf x (ps.map (·.2))), H ++ X) := by
  rcases ixf_loop (mp := mp) hg hl ps.length 0 H rfl (Nat.zero_le _) hr hx (fun j hj => by omega) with ⟨q, X, h1, h2, h3⟩ | ⟨h1, X, h2⟩
  · refine ⟨X, ?_⟩
    rw [R_code hf, ixOf_some h1 h2]
    simp at h3
    simp [cIxf, h3]
  · refine ⟨X, ?_⟩
    rw [R_code hf, ixOf_none h1]
    simp at h2
    simp [cIxf, h2]
end
end Go.Mod
/- Places in order, rows of pairs: pure facts; channels that nobody else has. -/
set_option linter.unusedVariables false
set_option linter.unusedSimpArgs false
namespace Go.Mod

/-- Where one of this key goes: behind all whose key isn't greater. -/
def posR (k : Int) (ps : List (Int × Int)) : Nat := ps.findIdx fun p => decide (k < p.1)
theorem posR_le (k : Int) (ps : List (Int × Int)) : posR k ps ≤ ps.length := List.findIdx_le_length
theorem posR_of {k : Int} {ps : List (Int × Int)} {q : Nat} (h1 : q ≤ ps.length) (h2 : ∀ j p, j < q → ps[j]? = some p → p.1 ≤ k) (h3 : ∀ p, ps[q]? = some p → k < p.1) : posR k ps = q := by
  unfold posR
  rcases Nat.lt_or_ge q ps.length with h | h
  · rw [List.findIdx_eq h]
    refine ⟨by simpa using h3 _ (List.getElem?_eq_getElem h), fun j hj => ?_⟩
    have := h2 j _ hj (List.getElem?_eq_getElem (by omega))
    simp; omega
  · have : q = ps.length := by omega
    subst this
    rw [List.findIdx_eq_length]
    intro p hp
    obtain ⟨j, hj⟩ := List.mem_iff_getElem?.1 hp
    have := h2 j p (List.getElem?_eq_some_iff.1 hj).1 hj
    simp; omega
/-- The ids. -/
def idsR (ps : List (Int × Int)) : List Int := ps.map (·.2)
theorem idsR_len (ps : List (Int × Int)) : (idsR ps).length = ps.length := by simp [idsR]
def u8s (xs : List Int) : List Value := xs.map fun n => .int .u8 n
theorem u8s_len (xs : List Int) : (u8s xs).length = xs.length := by simp [u8s]
/-- A row of bytes. -/
theorem Row.u8 {H : MH} {a : Option Addr} {n c : Nat} {xs : List Int} (h : Row 1 H (.slice a n c) (u8s xs)) (h0 : 0 < xs.length) :
    ∃ b o j cs, a = some ⟨b, o, none⟩ ∧ H[b]? = some (.cells j cs) ∧ ∀ k x, xs[k]? = some x → cs[o + k]? = some (.int .u8 x) := by
  rcases h with ⟨_, h2⟩ | ⟨b, o, m, d, j, cs, h1, h2, h3, h4, h5, h6⟩
  · rw [← u8s_len, h2] at h0; simp at h0
  · cases h1
    refine ⟨b, o, j, cs, rfl, h3, fun k x hk => ?_⟩
    have hkl := (List.getElem?_eq_some_iff.1 hk).1
    have hl : (u8s xs).length ≤ n * 1 := by rw [← h6, List.length_take]; omega
    rw [u8s_len] at hl
    have : (u8s xs)[k]? = some (.int .u8 x) := by simp [u8s, hk]
    rw [← h6, List.getElem?_take_of_lt (by omega), List.getElem?_drop] at this
    exact this
theorem Row.u8n {H : MH} {a : Option Addr} {n c : Nat} {xs : List Int} (h : Row 1 H (.slice a n c) (u8s xs)) : n = xs.length := by
  obtain ⟨a', n', c', e, hl⟩ := h.slice
  cases e
  rw [u8s_len] at hl; omega
def lexR (a b : Int × Int) : Prop := a.1 < b.1 ∨ (a.1 = b.1 ∧ a.2 < b.2)
theorem posR_lt {k : Int} {ps : List (Int × Int)} {j : Nat} {p : Int × Int} (h : j < posR k ps) (hp : ps[j]? = some p) : p.1 ≤ k := by
  have h1 := List.not_of_lt_findIdx h
  have h2 := (List.getElem?_eq_some_iff.1 hp).2
  rw [← h2]
  simp at h1
  exact h1
theorem posR_at {k : Int} {ps : List (Int × Int)} {p : Int × Int} (hp : ps[posR k ps]? = some p) : k < p.1 := by
  obtain ⟨hlt, h2⟩ := List.getElem?_eq_some_iff.1 hp
  have h3 : decide (k < (ps[posR k ps]).1) = true := List.findIdx_getElem (p := fun p : Int × Int => decide (k < p.1)) (w := hlt)
  rw [← h2]
  exact of_decide_eq_true h3
theorem mem_putAt {ps : List (Int × Int)} {j : Nat} {p q : Int × Int} : p ∈ putAt ps j q ↔ p = q ∨ p ∈ ps := by
  unfold putAt
  conv => rhs; rw [← List.take_append_drop j ps]
  simp only [List.mem_append, List.mem_cons]
  constructor
  · rintro (h | h | h)
    · exact .inr (.inl h)
    · exact .inl h
    · exact .inr (.inr h)
  · rintro (h | h | h)
    · exact .inr (.inl h)
    · exact .inl h
    · exact .inr (.inr h)
theorem put_sorted {ps : List (Int × Int)} (h : ps.Pairwise lexR) {k d : Int} (hd : ∀ p ∈ ps, p.2 < d) : (putAt ps (posR k ps) (k, d)).Pairwise lexR := by
  unfold putAt
  have hs := h
  rw [← List.take_append_drop (posR k ps) ps, List.pairwise_append] at h
  obtain ⟨h1, h2, h3⟩ := h
  have hlo : ∀ a ∈ ps.take (posR k ps), a.1 ≤ k := fun a ha => by
    obtain ⟨j, hj⟩ := List.mem_iff_getElem?.1 ha
    have hjl := (List.getElem?_eq_some_iff.1 hj).1
    rw [List.length_take] at hjl
    rw [List.getElem?_take_of_lt (by omega)] at hj
    exact posR_lt (by omega) hj
  have hhi : ∀ b ∈ ps.drop (posR k ps), k < b.1 := fun b hb => by
    obtain ⟨j, hj⟩ := List.mem_iff_getElem?.1 hb
    rw [List.getElem?_drop] at hj
    have hjl := (List.getElem?_eq_some_iff.1 hj).1
    have hq := posR_at (k := k) (List.getElem?_eq_getElem (l := ps) (i := posR k ps) (by omega))
    rcases Nat.eq_zero_or_pos j with h0 | h0
    · subst h0
      exact posR_at hj
    · have := List.pairwise_iff_getElem.1 hs (posR k ps) (posR k ps + j) (by omega) hjl (by omega)
      rw [(List.getElem?_eq_some_iff.1 hj).2] at this
      rcases this with h | ⟨h, _⟩ <;> omega
  rw [List.pairwise_append, List.pairwise_cons]
  refine ⟨h1, ⟨fun b hb => .inl (hhi b hb), h2⟩, fun a ha b hb => ?_⟩
  rcases List.mem_cons.1 hb with rfl | hb
  · have := hlo a ha
    have := hd a (List.mem_of_mem_take ha)
    simp only [lexR]
    omega
  · exact h3 a ha b hb
/-- The keys are those of the first ones. -/
def KeysR (f : Int → Int) (xs : List Int) (m : Nat) (ps : List (Int × Int)) : Prop := ∀ p ∈ ps, ∃ (n : Nat) (x : Int), n < m ∧ p.2 = (n : Int) ∧ xs[n]? = some x ∧ p.1 = f x
theorem KeysR.put {f : Int → Int} {xs : List Int} {m : Nat} {ps : List (Int × Int)} (h : KeysR f xs m ps) {x : Int} (hx : xs[m]? = some x) (j : Nat) : KeysR f xs (m + 1) (putAt ps j (f x, (m : Int))) := by
  intro p hp
  rcases mem_putAt.1 hp with rfl | hp
  · exact ⟨m, x, by omega, rfl, hx, rfl⟩
  · obtain ⟨n, y, h1, h2, h3, h4⟩ := h p hp
    exact ⟨n, y, by omega, h2, h3, h4⟩
theorem KeysR.lt {f : Int → Int} {xs : List Int} {m : Nat} {ps : List (Int × Int)} (h : KeysR f xs m ps) : ∀ p ∈ ps, p.2 < (m : Int) := fun p hp => by
  obtain ⟨n, y, h1, h2, h3, h4⟩ := h p hp
  omega
theorem Row.i64 {H : MH} {a : Option Addr} {n c k : Nat} {l : List Int} {y : Int} (h : Row 1 H (.slice a n c) (i64s l)) (hy : l[k]? = some y) :
    k < n ∧ ∃ b o j cs, a = some ⟨b, o, none⟩ ∧ H[b]? = some (.cells j cs) ∧ cs[o + k]? = some (.int .i64 y) := by
  have hk := (List.getElem?_eq_some_iff.1 hy).1
  obtain ⟨a', n', c', e, hl⟩ := h.slice
  cases e
  rw [i64s_len] at hl
  obtain ⟨b, o, j, cs, rfl, hB, _, hat⟩ := h.at (k := k) (by omega)
  exact ⟨by omega, b, o, j, cs, rfl, hB, by rw [hat]; exact i64s_get hy⟩
theorem Row.i64n {H : MH} {a : Option Addr} {n c : Nat} {l : List Int} (h : Row 1 H (.slice a n c) (i64s l)) : n = l.length := by
  obtain ⟨a', n', c', e, hl⟩ := h.slice
  cases e
  rw [i64s_len] at hl; omega
theorem stay_new {H H1 : MH} {a : Option Addr} {n c : Nat} {l : List Value} {es : Nat} (hr : Row es H (.slice a n c) l) (x1 : Ext H H1) : Stay es (.slice a n c) l H1 [H.length] := by
  refine ⟨x1.row hr, fun b o n' c' e hb => ?_⟩
  simp at hb
  rcases hr with ⟨h1, _⟩ | ⟨b', o', m', d', j', cs', h1, _, h3, _⟩
  · rw [h1] at e; cases e
  · rw [h1] at e; cases e
    have := (List.getElem?_eq_some_iff.1 h3).1
    omega
theorem posR_nil {k : Int} : posR k [] = 0 := rfl
theorem posR_cons {k : Int} {e : Int × Int} {l : List (Int × Int)} : posR k (e :: l) = if k < e.1 then 0 else posR k l + 1 := by
  unfold posR
  rw [List.findIdx_cons]
  by_cases h : k < e.1
  · simp [h]
  · simp [h]
theorem putAt_zero {l : List (Int × Int)} {p : Int × Int} : putAt l 0 p = p :: l := rfl
theorem putAt_succ {e : Int × Int} {l : List (Int × Int)} {j : Nat} {p : Int × Int} : putAt (e :: l) (j + 1) p = e :: putAt l j p := rfl
theorem putAt_end {l : List (Int × Int)} {p : Int × Int} : putAt l l.length p = l ++ [p] := by simp [putAt]
theorem drop_cons {ps rest : List (Int × Int)} {e : Int × Int} {i : Nat} (h : ps.drop i = e :: rest) : ps[i]? = some e ∧ ps.drop (i + 1) = rest ∧ i < ps.length := by
  have h1 : ps[i]? = some e := by
    have := congrArg (fun l => l[0]?) h
    simpa using this
  refine ⟨h1, ?_, (List.getElem?_eq_some_iff.1 h1).1⟩
  have := congrArg (List.drop 1) h
  simpa [List.drop_drop, Nat.add_comm] using this
theorem prv_snoc (l : List (Int × Int)) (p : Int × Int) : prv l ++ [.int .i64 p.1, .int .i64 p.2] = prv (l ++ [p]) := by rw [prv_app]; rfl
theorem Good.upd {P : HP} {H H1 : MH} {F G G1 : List Nat} (g : Good P) (h : P H F) (dis : ∀ id ∈ F, id ∉ G) (u : Upd H G H1 G1) : P H1 F ∧ ∀ id ∈ F, id ∉ G1 :=
  ⟨g.frame h fun id hid => u.same id (g.lt h id hid) (dis id hid), fun id hid hg => by
    rcases u.new id hg with h' | h'
    · exact dis id hid h'
    · have := g.lt h id hid; omega⟩
theorem Row.part2 {H : MH} {b o n c : Nat} {i : Info} {cs l : List Value} (hB : H[b]? = some (.cells i cs)) (hes : i.es = 2) (hlc : o + n * 2 ≤ cs.length) (hnc : n ≤ c) (htk : (cs.drop o).take (n * 2) = l) : Row 2 H (.slice (some ⟨b, o, none⟩) n c) l :=
  .inr ⟨b, o, n, c, i, cs, rfl, hnc, hB, hes, hlc, htk⟩
theorem first_uniq {l : List Int} {d : Int} {q q' : Nat} (h1 : l[q]? = some d) (h2 : ∀ j, j < q → l[j]? ≠ some d) (h3 : l[q']? = some d) (h4 : ∀ j, j < q' → l[j]? ≠ some d) : q = q' := by
  rcases Nat.lt_trichotomy q q' with h | h | h
  · exact absurd h1 (h4 q h)
  · exact h
  · exact absurd h3 (h2 q' h)

/-! ### channels -/
section
variable {call : CallF} {vs : List Value} {H : MH} {b : Option Nat} {op : MOp} {n : Nat}
theorem mop_comm (h : op.kind = .comm) : mop call op vs H b = meff op vs H := by
  unfold mop; simp only [h]
@[simp] theorem mop_snd : mop call .snd vs H b = meff .snd vs H := mop_comm rfl
@[simp] theorem mop_rcv {z : Value} {ok : Bool} : mop call (.rcv z ok) vs H b = meff (.rcv z ok) vs H := mop_comm rfl
@[simp] theorem mop_sel1 {z : Value} {s w : Bool} : mop call (.sel1 s z w) vs H b = meff (.sel1 s z w) vs H := mop_comm rfl
@[simp] theorem mop_mkchan : mop call (.mkchan n) vs H none = newO H (malloc (.mkchan n) vs H.length) := mop_alloc rfl
theorem mk_chan {m : Nat} {k : IntKind} (h1 : m ≤ 1048576) (h2 : n ≤ 4096) (q : Nat) : malloc (.mkchan n) [.int k (m : Int)] q = some (.chan m [], .chan (some q)) := by
  simp only [malloc]
  rw [if_pos ⟨by omega, by omega, h2⟩, Int.toNat_natCast]
variable {q cap : Nat} {buf : List Value} {v z : Value}
theorem sel_room (h : H[q]? = some (.chan cap buf)) (hl : buf.length < cap) : meff (.sel1 true z false) [.chan (some q), v] H = some (.tuple #[.int .i64 0, .bool false], H.set q (.chan cap (buf ++ [v]))) := by
  simp only [meff, h]; rw [if_pos hl]
theorem sel_full (h : H[q]? = some (.chan cap buf)) (hl : ¬ buf.length < cap) : meff (.sel1 true z false) [.chan (some q), v] H = some (.tuple #[.int .i64 (-1), .bool false], H) := by
  simp only [meff, h]; rw [if_neg hl]
theorem rcv_at (h : H[q]? = some (.chan cap (v :: buf))) : meff (.rcv z false) [.chan (some q)] H = some (v, H.set q (.chan cap buf)) := by
  simp only [meff, h]; rfl
end
/-- An object of one's own. -/
def At (q : Nat) (o : MObj) : HP := fun H F => F = [q] ∧ H[q]? = some o
theorem At.good {q : Nat} {o : MObj} : Good (At q o) := ⟨fun ⟨h1, h2⟩ hf => ⟨h1, by rw [hf q (by rw [h1]; simp)]; exact h2⟩, fun ⟨h1, h2⟩ id hid => by rw [h1] at hid; simp at hid; subst hid; exact (List.getElem?_eq_some_iff.1 h2).1⟩
theorem at_set {Q : HP} {H : MH} {F : List Nat} {q : Nat} {o o' : MObj} (k : Good Q) (h : (Q * At q o) H F) : H[q]? = some o ∧ (Q * At q o') (H.set q o') F ∧ Upd H F (H.set q o') F := by
  obtain ⟨B, A, h2, ⟨rfl, h1⟩, h3, h4⟩ := h
  have hlt := (List.getElem?_eq_some_iff.1 h1).1
  have hq : q ∉ B := fun hb => h3 q hb (by simp)
  refine ⟨h1, ⟨B, [q], k.frame h2 fun id hid => List.getElem?_set_ne ?_, ⟨rfl, List.getElem?_set_self hlt⟩, h3, h4⟩, ⟨by simp, fun id _ hn => List.getElem?_set_ne ?_, fun id h => .inl h⟩⟩
  · rintro rfl; exact hq hid
  · rintro rfl; exact hn ((h4 q).2 (.inr (by simp)))
end Go.Mod
/- Rows of records of any kind. -/
set_option linter.unusedVariables false
set_option linter.unusedSimpArgs false
namespace Go.Mod

section
variable {α : Type} {f : α → List Value} {w : Nat}
theorem flat_len : ∀ {l : List α}, (∀ x ∈ l, (f x).length = w) → (l.flatMap f).length = l.length * w
  | [], _ => by simp
  | p :: ps, h => by
    have := flat_len (l := ps) fun q hq => h q (by simp [hq])
    simp only [List.flatMap_cons, List.length_append] at this ⊢
    rw [this, h p (by simp), List.length_cons, Nat.add_mul]; omega
theorem flat_at : ∀ {l : List α} {k : Nat} {p : α}, (∀ x ∈ l, (f x).length = w) → l[k]? = some p → ((l.flatMap f).drop (k * w)).take w = f p
  | [], k, p, _, hk => by simp at hk
  | q :: ps, 0, p, h, hk => by
    simp at hk; subst hk
    have := h q (by simp)
    simp only [List.flatMap_cons, Nat.zero_mul, List.drop_zero]
    rw [List.take_left']; exact this
  | q :: ps, k + 1, p, h, hk => by
    have ih := flat_at (l := ps) (k := k) (fun q hq => h q (by simp [hq])) (by simpa using hk)
    have := h q (by simp)
    simp only [List.flatMap_cons]
    rw [show (k + 1) * w = (f q).length + k * w by rw [this, Nat.add_mul]; omega, ← List.drop_drop, List.drop_left']
    · exact ih
    · rfl
variable {H : MH} {a : Option Addr} {n c : Nat} {l : List α}
theorem Row.gn (h : Row w H (.slice a n c) (l.flatMap f)) (hw : ∀ x ∈ l, (f x).length = w) (hw0 : 0 < w) : n = l.length := by
  obtain ⟨a', n', c', e, hl⟩ := h.slice
  cases e
  rw [flat_len hw] at hl
  exact Nat.eq_of_mul_eq_mul_right hw0 hl
/-- A record of a row. -/
theorem Row.grec (h : Row w H (.slice a n c) (l.flatMap f)) (hw : ∀ x ∈ l, (f x).length = w) (hw0 : 0 < w) {k : Nat} {p : α} (hk : l[k]? = some p) :
    ∃ b o j cs, a = some ⟨b, o, none⟩ ∧ H[b]? = some (.cells j cs) ∧ j.es = w ∧ o + k * w + w ≤ cs.length ∧ (cs.drop (o + k * w)).take w = f p ∧ ∀ (m : Nat) x, (f p)[m]? = some x → cs[o + k * w + m]? = some x := by
  have hkl := (List.getElem?_eq_some_iff.1 hk).1
  have hl := flat_len hw
  have hn := h.gn hw hw0
  rcases h with ⟨h1, h2⟩ | ⟨b, o, m, d, i, cs, h1, h2, h3, h4, h5, h6⟩
  · rw [h2] at hl
    have := Nat.mul_le_mul_right w (show 1 ≤ l.length by omega)
    simp at hl; omega
  · cases h1
    have hm := Nat.mul_le_mul_right w (show k + 1 ≤ n by omega)
    rw [Nat.add_mul] at hm
    have hat : (cs.drop (o + k * w)).take w = f p := by
      have := flat_at hw hk
      rw [← h6, List.drop_take, List.take_take, List.drop_drop, Nat.min_eq_left (by omega)] at this
      exact this
    refine ⟨b, o, i, cs, rfl, h3, h4, by omega, hat, fun m x hx => ?_⟩
    have hp := hw p (List.mem_of_getElem? hk)
    have hml := (List.getElem?_eq_some_iff.1 hx).1
    rw [← hat, List.getElem?_take, if_pos (by omega), List.getElem?_drop] at hx
    exact hx
end
/-- An argument's row, as records. -/
theorem rep_row {α : Type} {f : α → List Value} {fs : List Sh} {H : MH} {v : Value} {d : D} (h : Rep H (.row fs) v d) (hd : ∀ ms ds, RepL H fs ms ds → ∃ x : α, ms = f x) :
    ∃ l : List α, Row fs.length H v (l.flatMap f) ∧ ∀ x ∈ l, (f x).length = fs.length := by
  cases h with
  | nil => exact ⟨[], .inl ⟨rfl, rfl⟩, by simp⟩
  | row hB hn hm hl hw h =>
    rename_i b n cs ds
    obtain ⟨l, h1, h2⟩ := choose_list (α := α) (n := n) (p := fun i x => (cs.drop (i * fs.length)).take fs.length = f x) (fun i hi => by
      have hd' : ds[i]? = some ds[i] := List.getElem?_eq_getElem (by omega)
      have := Rep.cells (H := H) (fs := fs) (b := b) hn hl hw h hd'
      exact hd _ _ this)
    have hlen : ∀ x ∈ l, (f x).length = fs.length := fun x hx => by
      obtain ⟨i, hi⟩ := List.mem_iff_getElem?.1 hx
      have hil := (List.getElem?_eq_some_iff.1 hi).1
      have hm := Nat.mul_le_mul_right fs.length (show i + 1 ≤ n by omega)
      rw [Nat.add_mul] at hm
      rw [← h2 i x hi]; simp; omega
    refine ⟨l, .inr ⟨b, 0, n, n, _, cs, rfl, Nat.le_refl _, hB, rfl, by omega, ?_⟩, hlen⟩
    rw [List.drop_zero, ← hl, List.take_length]
    apply List.ext_getElem?
    intro q
    have hrl := flat_len hlen
    by_cases hq : q < n * fs.length
    · have hw0 : 0 < fs.length := by
        rcases Nat.eq_zero_or_pos fs.length with h | h
        · rw [h] at hq; simp at hq
        · exact h
      have hkl : q / fs.length < l.length := by rw [h1]; exact (Nat.div_lt_iff_lt_mul hw0).2 hq
      have hmod := Nat.mod_lt q hw0
      have e := Nat.div_add_mod q fs.length
      rw [Nat.mul_comm] at e
      have g1 := h2 (q / fs.length) _ (List.getElem?_eq_getElem hkl)
      have g2 := flat_at hlen (List.getElem?_eq_getElem hkl)
      have g3 := congrArg (fun l => l[q % fs.length]?) (g1.trans g2.symm)
      simp only [List.getElem?_take, if_pos hmod, List.getElem?_drop] at g3
      rw [e] at g3; exact g3
    · rw [List.getElem?_eq_none (by omega), List.getElem?_eq_none (by rw [hrl, h1]; omega)]
/-- A step of ClockPlays. -/
def stepC (s : Int × Bool × Int × Int) : List Value := [.int .i64 s.1, .bool s.2.1, .int .i64 s.2.2.1, .int .i64 s.2.2.2]
theorem rep_stepC {H : MH} {ms : List Value} {ds : List D} (h : RepL H [.int .i64, .bool, .int .i64, .int .i64] ms ds) : ∃ x, ms = stepC x := by
  have h1 := h.ml
  have h2 := h.dl
  match ms, ds, h1, h2 with
  | [m0, m1, m2, m3], [d0, d1, d2, d3], _, _ =>
    have g0 := h.at_ 0 (.int .i64) m0 d0 rfl rfl rfl
    have g1 := h.at_ 1 .bool m1 d1 rfl rfl rfl
    have g2 := h.at_ 2 (.int .i64) m2 d2 rfl rfl rfl
    have g3 := h.at_ 3 (.int .i64) m3 d3 rfl rfl rfl
    cases g0; cases g1; cases g2; cases g3
    exact ⟨(_, _, _, _), rfl⟩
end Go.Mod

/- More of slices: appends of any length, the references' small functions over rows of whole numbers. -/
import Derived.Test.YtpdkmcnoidbjoaaLib1
import Derived.Test.YtpdkmcnoidbjoaaFwZ
set_option linter.unusedVariables false
set_option linter.unusedSimpArgs false
namespace Go.Mod

variable {mp : FuncId → Option MDef}

theorem Ext.of_fp {S : Nat → Prop} {H H1 H2 : MH} (h : Ext H H1) (f : Fp S H1 H2) (hs : ∀ id, S id → H.length ≤ id) : Ext H H2 := by
  refine ⟨H2.drop H.length, ?_⟩
  apply List.ext_getElem?
  intro k
  have h1 := h.len
  have h2 := f.len
  rcases Nat.lt_or_ge k H.length with hk | hk
  · rw [List.getElem?_append_left hk, f.same k (by omega) (fun hS => by have := hs k hS; omega)]
    obtain ⟨X, rfl⟩ := h
    exact List.getElem?_append_left hk
  · rw [List.getElem?_append_right hk, List.getElem?_drop]
    congr 1; omega
theorem Row.frame {es : Nat} {H H' : MH} {v : Value} {l : List Value} (h : Row es H v l) (hf : ∀ b o n c, v = .slice (some ⟨b, o, none⟩) n c → H'[b]? = H[b]?) : Row es H' v l := by
  rcases h with h | ⟨b, o, n, c, i, cs, h1, h2, h3, h4⟩
  · exact .inl h
  · exact .inr ⟨b, o, n, c, i, cs, h1, h2, by rw [hf b o n c h1]; exact h3, h4⟩
theorem Own.blk {es : Nat} {H : MH} {v : Value} {l : List Value} {fp : List Nat} (h : Own es H v l fp) : ∀ b o n c, v = .slice (some ⟨b, o, none⟩) n c → b ∈ fp := by
  rcases h with ⟨rfl, _, _⟩ | ⟨b, n, c, cs, rfl, _, _, _, _, rfl⟩
  · intro b o n c h; cases h
  · intro b' o n' c' h; cases h; simp

theorem Own.ext {es : Nat} {H H' : MH} {v : Value} {l : List Value} {fp : List Nat} (h : Own es H v l fp) (e : Ext H H') : Own es H' v l fp := by
  refine h.frame fun id hid => ?_
  obtain ⟨X, rfl⟩ := e
  exact List.getElem?_append_left (h.lt id hid)

theorem Fp.set1 {H : MH} {u : Nat} {o : MObj} : Fp (fun id => id = u) H (H.set u o) := Fp.set u o rfl
/-- Objects that are new, then one that is put. -/
theorem Ext.set1 {H H' : MH} (e : Ext H H') {u : Nat} {o : MObj} : Fp (fun id => id = u) H (H'.set u o) := (Fp.ext e _).trans Fp.set1 fun _ _ h => h
/-- Append of as many as there are. -/
theorem own_app {es bytes : Nat} {H : MH} {v y : Value} {l ys : List Value} {fp : List Nat} (h : Own es H v l fp) (hl : l.all one = true) (hr : Row es H y ys) (hy : ys.all one = true) (hes : 0 < es) (hb : l.length + ys.length ≤ 1000000) (hbytes : bytes ≤ 4096) :
    ∃ v' H' fp', meff (.app es bytes) [v, y] H = some (v', H') ∧ Own es H' v' (l ++ ys) fp' ∧ Fp (fun id => id ∈ fp) H H' ∧ ∀ id ∈ fp', id ∈ fp ∨ H.length ≤ id := by
  obtain ⟨a, n, c, rfl, hn⟩ := hr.slice
  have hs := hr.src
  by_cases h0 : n = 0
  · subst h0
    have : ys = [] := List.eq_nil_of_length_eq_zero (by omega)
    subst this
    have hA : ∃ v', meff (.app es bytes) [v, .slice a 0 c] H = some (v', H) ∧ v' = v := by
      rcases h with ⟨rfl, rfl, rfl⟩ | ⟨b, m, d, cs, rfl, hmc, hB, hcs, htk, rfl⟩
      · exact ⟨_, app_zero (ys := []) (by simp) (by simp) hs, rfl⟩
      · exact ⟨_, app_zero (ys := []) (by simp) (by rintro x hx; cases hx; exact ⟨_, _, rfl, hB⟩) hs, rfl⟩
    obtain ⟨v', h1, rfl⟩ := hA
    exact ⟨_, H, fp, h1, by simpa using h, Fp.refl _ _, fun id hid => .inl hid⟩
  · exact own_push h hl hs hn.symm h0 hes hb hbytes hy
/-- .. of what is new to nothing. -/
theorem own_new {es bytes : Nat} {H : MH} {y : Value} {ys : List Value} (hr : Row es H y ys) (hy : ys.all one = true) (hes : 0 < es) (hb : ys.length ≤ 1000000) (hbytes : bytes ≤ 4096) :
    ∃ v' H' fp', meff (.app es bytes) [.slice none 0 0, y] H = some (v', H') ∧ Own es H' v' ys fp' ∧ Ext H H' ∧ ∀ id ∈ fp', H.length ≤ id := by
  obtain ⟨v', H', fp', h1, h2, h3, h4⟩ := own_app (bytes := bytes) (l := []) (fp := []) (.inl ⟨rfl, rfl, rfl⟩) rfl hr hy hes (by simpa using hb) hbytes
  exact ⟨v', H', fp', h1, by simpa using h2, Ext.of_fp (Ext.refl H) h3 (fun id hid => by cases hid), fun id hid => (h4 id hid).resolve_left (by simp)⟩

/-- The slice that leads to a new object. -/
theorem row_new {es n : Nat} {H : MH} {rw ex : Bool} {ys : List Value} (h : ys.length = n * es) : Row es (H ++ [.cells ⟨es, rw, ex⟩ ys]) (.slice (some ⟨H.length, 0, none⟩) n n) ys :=
  .inr ⟨H.length, 0, n, n, ⟨es, rw, ex⟩, ys, rfl, Nat.le_refl _, by simp, rfl, by omega, by rw [← h]; simp⟩

/-! ### the first place of a number -/
def cAt_0 : MCode := .seq (.seq (.ops [⟨(some 6), .mov, [.r 5], none, []⟩,
      ⟨(some 7), .mov, [.r 0], none, []⟩,
      ⟨(some 8), .len, [.r 7], none, [7]⟩,
      ⟨(some 9), .bin .lss, [.r 6, .r 8], none, [6, 8]⟩]) <|
    .cond (.r 9)
      (.skip)
      (.exit 0)) <|
    .seq (.block 1 (.seq (.ops [⟨(some 12), .mov, [.r 0], none, [9]⟩,
        ⟨(some 13), .mov, [.r 5], none, []⟩,
        ⟨(some 14), .ia 1, [.r 12, .r 13], none, [12, 13]⟩,
        ⟨(some 15), .ld none, [.r 14], none, [14]⟩,
        ⟨(some 16), .mov, [.r 1], none, []⟩,
        ⟨(some 17), .bin .eql, [.r 15, .r 16], none, [15, 16]⟩]) <|
      .cond (.r 17)
        (.seq (.ops [⟨(some 18), .mov, [.r 5], none, [0, 1, 5, 17]⟩,
          ⟨(some 4), .mov, [.r 18], none, [18]⟩]) <|
        .ret)
        (.skip))) <|
    .ops [⟨(some 10), .mov, [.r 5], none, [5, 17]⟩,
      ⟨(some 11), .bin .add, [.r 10, .k (.int .i64 1)], none, [10]⟩,
      ⟨(some 5), .mov, [.r 11], none, [11]⟩]
def cAt : MFn := ⟨[.tmp 4], .seq (.ops [⟨(some 4), .mov, [.k (.int .i64 0)], none, [4]⟩]) <|
.seq (.seq (.ops [⟨(some 5), .mov, [.k (.int .i64 0)], none, []⟩]) <|
.block 0 (.loop cAt_0)) <|
.seq (.ops [⟨(some 4), .mov, [.k (.int .i64 (-1))], none, [0, 1, 5, 9]⟩]) <|
.ret⟩

theorem at_loop {H : MH} {x : Int} {l : List Int} {a : Option Addr} {n c : Nat} (hr : Row 1 H (.slice a n c) (i64s l)) (hn : n = l.length) (hl : l.length ≤ 1000000) : ∀ (k i : Nat), l.length - i = k → i ≤ l.length → (∀ j, j < i → l[j]? ≠ some x) →
    (∃ q : Nat, l[q]? = some x ∧ (∀ j, j < q → l[j]? ≠ some x) ∧ Rc mp (.loop cAt_0) [(0, .slice a n c), (1, .int .i64 x), (5, .int .i64 (i : Int))] H = some (.ret, [(4, .int .i64 (q : Int))], H)) ∨
    ((∀ j : Nat, l[j]? ≠ some x) ∧ Rc mp (.loop cAt_0) [(0, .slice a n c), (1, .int .i64 x), (5, .int .i64 (i : Int))] H = some (.exit 0, [(0, .slice a n c), (1, .int .i64 x), (5, .int .i64 (n : Int)), (9, .bool false)], H)) := by
  intro k
  induction k with
  | zero =>
    intro i hk hi hb
    have hin : i = l.length := by omega
    subst hin
    refine .inr ⟨fun j => ?_, ?_⟩
    · rcases Nat.lt_or_ge j l.length with h | h
      · exact hb j h
      · rw [List.getElem?_eq_none h]; simp
    · rw [Rc_loop]
      simp [cAt_0, hn]
  | succ k ih =>
    intro i hk hi hb
    have hil : i < n := by omega
    obtain ⟨b, o, j, cs, rfl, hB, hes, hat⟩ := hr.at hil
    obtain ⟨y, hy⟩ : ∃ y, l[i]? = some y := ⟨_, List.getElem?_eq_getElem (by omega)⟩
    rw [i64s_get hy] at hat
    by_cases hxy : y = x
    · refine .inl ⟨i, by rw [hy, hxy], hb, ?_⟩
      rw [Rc_loop]
      simp [cAt_0, hil, ld_at hB, hat, hxy]
    · have w : IntKind.i64.wrap ((i : Int) + 1) = (i : Int) + 1 := wrap_i64 (by omega) (by omega)
      have step : Rc mp (.loop cAt_0) [(0, .slice (some ⟨b, o, none⟩) n c), (1, .int .i64 x), (5, .int .i64 (i : Int))] H = Rc mp (.loop cAt_0) [(0, .slice (some ⟨b, o, none⟩) n c), (1, .int .i64 x), (5, .int .i64 ((i + 1 : Nat) : Int))] H := by
        rw [Rc_loop]
        simp [cAt_0, hil, ld_at hB, hat, hxy, w]
      rw [step]
      refine ih (i + 1) (by omega) (by omega) fun j hj => ?_
      rcases Nat.lt_or_ge j i with h | h
      · exact hb j h
      · have : j = i := by omega
        subst this
        rw [hy]; simp; exact hxy
theorem R_at {f : FuncId} (hf : mp f = some (.code cAt)) {H : MH} {x : Int} {l : List Int} {v : Value} (hr : Row 1 H v (i64s l)) (hl : l.length ≤ 1000000) : R mp f [v, .int .i64 x] H = some (.int .i64 (ixOf x l), H) := by
  obtain ⟨a, n, c, rfl, hlen⟩ := hr.slice
  have hn : n = l.length := by rw [i64s_len] at hlen; omega
  rcases at_loop (mp := mp) (x := x) hr hn hl l.length 0 rfl (Nat.zero_le _) (fun j hj => by omega) with ⟨q, h1, h2, h3⟩ | ⟨h1, h2⟩
  · rw [R_code hf, ixOf_some h1 h2]
    simp at h3
    simp [cAt, h3]
  · rw [R_code hf, ixOf_none h1]
    simp at h2
    simp [cAt, h2]

/-! ### are two rows the same -/
def cSame_0 : MCode := .seq (.seq (.ops [⟨(some 11), .mov, [.r 5], none, []⟩,
      ⟨(some 12), .mov, [.r 0], none, []⟩,
      ⟨(some 13), .len, [.r 12], none, [12]⟩,
      ⟨(some 14), .bin .lss, [.r 11, .r 13], none, [11, 13]⟩]) <|
    .cond (.r 14)
      (.skip)
      (.exit 0)) <|
    .seq (.block 1 (.seq (.draw [⟨(some 17), .mov, [.r 0], none, [14]⟩,
        ⟨(some 18), .mov, [.r 5], none, []⟩,
        ⟨(some 19), .ia 1, [.r 17, .r 18], none, [17, 18]⟩,
        ⟨(some 20), .ld none, [.r 19], none, [19]⟩,
        ⟨(some 21), .mov, [.r 1], none, []⟩,
        ⟨(some 22), .mov, [.r 5], none, []⟩,
        ⟨(some 23), .ia 1, [.r 21, .r 22], none, [21, 22]⟩,
        ⟨(some 24), .ld none, [.r 23], none, [23]⟩,
        ⟨(some 25), .bin .neq, [.r 20, .r 24], none, [20, 24]⟩] []) <|
      .cond (.r 25)
        (.seq (.ops [⟨(some 4), .mov, [.k (.bool false)], none, [0, 1, 5, 25]⟩]) <|
        .ret)
        (.skip))) <|
    .ops [⟨(some 15), .mov, [.r 5], none, [5, 25]⟩,
      ⟨(some 16), .bin .add, [.r 15, .k (.int .i64 1)], none, [15]⟩,
      ⟨(some 5), .mov, [.r 16], none, [16]⟩]
def cSame : MFn := ⟨[.tmp 4], .seq (.ops [⟨(some 4), .mov, [.k (.bool false)], none, [4]⟩]) <|
.seq (.seq (.ops [⟨(some 6), .mov, [.r 0], none, []⟩,
  ⟨(some 7), .len, [.r 6], none, [6]⟩,
  ⟨(some 8), .mov, [.r 1], none, []⟩,
  ⟨(some 9), .len, [.r 8], none, [8]⟩,
  ⟨(some 10), .bin .neq, [.r 7, .r 9], none, [7, 9]⟩]) <|
.cond (.r 10)
  (.seq (.ops [⟨(some 4), .mov, [.k (.bool false)], none, [0, 1, 10]⟩]) <|
  .ret)
  (.skip)) <|
.seq (.seq (.ops [⟨(some 5), .mov, [.k (.int .i64 0)], none, [10]⟩]) <|
.block 0 (.loop cSame_0)) <|
.seq (.ops [⟨(some 4), .mov, [.k (.bool true)], none, [0, 1, 5, 14]⟩]) <|
.ret⟩
theorem same_loop {H : MH} {l : List Int} {a a' : Option Addr} {n c c' : Nat} (hr : Row 1 H (.slice a n c) (i64s l)) (hr' : Row 1 H (.slice a' n c') (i64s l)) (hn : n = l.length) (hl : l.length ≤ 1000000) : ∀ (k i : Nat), i + k = l.length →
    Rc mp (.loop cSame_0) [(0, .slice a n c), (1, .slice a' n c'), (5, .int .i64 (i : Int))] H = some (.exit 0, [(0, .slice a n c), (1, .slice a' n c'), (5, .int .i64 (n : Int)), (14, .bool false)], H)
  | 0, i, hk => by
    have hin : i = l.length := by omega
    subst hin
    rw [Rc_loop]
    simp [cSame_0, hn]
  | k + 1, i, hk => by
    have hil : i < n := by omega
    obtain ⟨b, o, j, cs, rfl, hB, hes, hat⟩ := hr.at hil
    obtain ⟨b', o', j', cs', rfl, hB', hes', hat'⟩ := hr'.at hil
    obtain ⟨y, hy⟩ : ∃ y, l[i]? = some y := ⟨_, List.getElem?_eq_getElem (by omega)⟩
    rw [i64s_get hy] at hat hat'
    have w : IntKind.i64.wrap ((i : Int) + 1) = (i : Int) + 1 := wrap_i64 (by omega) (by omega)
    have ih := same_loop hr hr' hn hl k (i + 1) (by omega)
    rw [Rc_loop]
    simp at ih
    simp [cSame_0, hil, ld_at hB, hat, ld_at hB', hat', w, mdraw_plain]
    exact ih
/-- Two rows that are the same are told so. -/
theorem R_same {f : FuncId} (hf : mp f = some (.code cSame)) {H : MH} {l : List Int} {v v' : Value} (hr : Row 1 H v (i64s l)) (hr' : Row 1 H v' (i64s l)) (hl : l.length ≤ 1000000) : R mp f [v, v'] H = some (.bool true, H) := by
  obtain ⟨a, n, c, rfl, hlen⟩ := hr.slice
  obtain ⟨a', n', c', rfl, hlen'⟩ := hr'.slice
  have hn : n = l.length := by rw [i64s_len] at hlen; omega
  have hn' : n' = n := by omega
  subst hn'
  have h := same_loop (mp := mp) hr hr' hn hl l.length 0 (by omega)
  rw [R_code hf]
  simp at h
  simp [cSame, h]

/-! ### a row without one -/
def cWithout : MFn := ⟨[.tmp 4], .seq (.ops [⟨(some 4), .mov, [.k (.slice none 0 0)], none, [4]⟩]) <|
.seq (.draw [⟨(some 5), .mov, [.r 0], none, []⟩,
  ⟨(some 6), .mov, [.r 1], none, []⟩,
  ⟨(some 7), .sl 1 false true false, [.r 5, .r 6], none, [5, 6]⟩,
  ⟨(some 8), .app 1 8, [.k (.slice none 0 0), .r 7], none, [7]⟩,
  ⟨(some 9), .mov, [.r 0], none, [0]⟩,
  ⟨(some 10), .mov, [.r 1], none, [1]⟩,
  ⟨(some 11), .bin .add, [.r 10, .k (.int .i64 1)], none, [10]⟩,
  ⟨(some 12), .sl 1 true false false, [.r 9, .r 11], none, [9, 11]⟩,
  ⟨(some 13), .app 1 8, [.r 8, .r 12], none, [8, 12]⟩,
  ⟨(some 4), .mov, [.r 13], none, [13]⟩] [(7, 3)]) <|
.ret⟩

/-- A part of a row. -/
theorem Row.part {H : MH} {b o n c : Nat} {i : Info} {cs l : List Value} (hB : H[b]? = some (.cells i cs)) (hes : i.es = 1) (hlc : o + n ≤ cs.length) (hnc : n ≤ c) (htk : (cs.drop o).take n = l) : Row 1 H (.slice (some ⟨b, o, none⟩) n c) l :=
  .inr ⟨b, o, n, c, i, cs, rfl, hnc, hB, hes, by omega, by rw [Nat.mul_one]; exact htk⟩
theorem all_take {l : List Value} (h : l.all one = true) (n : Nat) : (l.take n).all one = true := by
  rw [List.all_eq_true] at h ⊢; exact fun x hx => h x (List.mem_of_mem_take hx)
theorem all_drop {l : List Value} (h : l.all one = true) (n : Nat) : (l.drop n).all one = true := by
  rw [List.all_eq_true] at h ⊢; exact fun x hx => h x (List.mem_of_mem_drop hx)

theorem R_without {f : FuncId} (hf : mp f = some (.code cWithout)) {H : MH} {l : List Value} {v : Value} (hr : Row 1 H v l) (hl1 : l.all one = true) (hl : l.length ≤ 400000) {i : Nat} (hi : i < l.length) :
    ∃ v' H' fp, R mp f [v, .int .i64 (i : Int)] H = some (v', H') ∧ Own 1 H' v' (l.eraseIdx i) fp ∧ Ext H H' ∧ ∀ id ∈ fp, H.length ≤ id := by
  rcases hr with ⟨_, rfl⟩ | ⟨b, o, n, c, j, cs, rfl, hnc, hB, hes, hlc, htk⟩
  · simp at hi
  · simp only [Nat.mul_one] at hlc htk
    have hn : n = l.length := by rw [← htk]; simp; omega
    subst hn
    have r1 : Row 1 H (.slice (some ⟨b, o + 0 * 1, none⟩) (i - 0) (c - 0)) (l.take i) := by
      refine Row.part (by simpa using hB) hes (by omega) (by omega) ?_
      conv => rhs; rw [← htk]
      rw [List.take_take, Nat.min_eq_left (by omega)]; simp
    obtain ⟨v1, H1, fp1, a1, o1, x1, n1⟩ := own_new (bytes := 8) r1 (all_take hl1 i) (by omega) (by simp; omega) (by omega)
    have hB1 := x1.get hB
    have r2 : Row 1 H1 (.slice (some ⟨b, o + (i + 1) * 1, none⟩) (l.length - (i + 1)) (c - (i + 1))) (l.drop (i + 1)) := by
      refine Row.part hB1 hes (by omega) (by omega) ?_
      conv => rhs; rw [← htk]
      rw [Nat.mul_one, ← List.drop_drop, List.drop_take]
    obtain ⟨v2, H2, fp2, a2, o2, f2, n2⟩ := own_app (bytes := 8) o1 (all_take hl1 i) r2 (all_drop hl1 (i + 1)) (by omega) (by simp; omega) (by omega)
    refine ⟨v2, H2, fp2, ?_, by rw [List.eraseIdx_eq_take_drop_succ]; exact o2, x1.of_fp f2 n1, fun id hid => ?_⟩
    · have w : IntKind.i64.wrap ((i : Int) + 1) = (i : Int) + 1 := wrap_i64 (by omega) (by omega)
      have c1 : (i : Int) ≤ (c : Int) := by omega
      have c2 : (i : Int) + 1 ≤ (l.length : Int) := by omega
      have c3 : (0 : Int) ≤ (i : Int) + 1 := by omega
      have c4 : ((i : Int) + 1).toNat = i + 1 := by omega
      simp at a1 a2
      obtain ⟨a', n', c', rfl, _⟩ := o1.row.slice
      rw [R_code hf]
      simp [cWithout, mdraw_full, sl_at hB hes, sl_at hB1 hes, c1, c2, c3, c4, w, a1, a2]
    · rcases n2 id hid with h | h
      · exact n1 id h
      · have := x1.len; omega

/-! ### rows of records of whole numbers, as arguments -/
/-- Records of w whole numbers each, in a row that is read alone. -/
def IRow (w : Nat) (H : MH) (v : Value) (l : List (List Int)) : Prop :=
  (v = .slice none 0 0 ∧ l = []) ∨ ∃ b cs, v = .slice (some ⟨b, 0, none⟩) l.length l.length ∧ H[b]? = some (.cells ⟨w, false, false⟩ cs) ∧ cs.length = l.length * w ∧
    ∀ (i : Nat) p, l[i]? = some p → (cs.drop (i * w)).take w = i64s p ∧ p.length = w ∧ ∀ x ∈ p, (Lit.int .i64 x).wf = true
theorem IRow.slice {w : Nat} {H : MH} {v : Value} {l : List (List Int)} (h : IRow w H v l) : ∃ a c, v = .slice a l.length c := by
  rcases h with ⟨rfl, rfl⟩ | ⟨b, cs, rfl, _⟩
  · exact ⟨none, 0, rfl⟩
  · exact ⟨_, _, rfl⟩
theorem rep_ints {H : MH} : ∀ {w : Nat} {ms : List Value} {ds : List D}, RepL H (List.replicate w (.int .i64)) ms ds → ∃ p : List Int, ms = i64s p ∧ p.length = w ∧ ∀ x ∈ p, (Lit.int .i64 x).wf = true
  | 0, ms, ds, h => by
    have := h.ml
    simp at this; subst this
    exact ⟨[], rfl, rfl, by simp⟩
  | w + 1, ms, ds, h => by
    have h1 := h.ml
    have h2 := h.dl
    match ms, ds, h1, h2 with
    | m :: ms, d :: ds, h1, h2 =>
      have h0 := h.at_ 0 (.int .i64) m d (by simp [List.replicate_succ]) rfl rfl
      cases h0
      rename_i n hn
      obtain ⟨p, hp, hl, hw⟩ := rep_ints (w := w) (ms := ms) (ds := ds) ⟨by simpa using h1, by simpa using h2, fun j f v x a b c => h.at_ (j + 1) f v x (by simpa [List.replicate_succ] using a) (by simpa using b) (by simpa using c)⟩
      exact ⟨n :: p, by simp [i64s, hp], by simp [hl], by simpa using ⟨hn, hw⟩⟩
theorem choose_list {α : Type} {n : Nat} {p : Nat → α → Prop} (h : ∀ i, i < n → ∃ x, p i x) : ∃ l : List α, l.length = n ∧ ∀ i x, l[i]? = some x → p i x := by
  induction n with
  | zero => exact ⟨[], rfl, by simp⟩
  | succ n ih =>
    obtain ⟨l, h1, h2⟩ := ih fun i hi => h i (by omega)
    obtain ⟨x, hx⟩ := h n (by omega)
    refine ⟨l ++ [x], by simp [h1], fun i y hy => ?_⟩
    rcases Nat.lt_or_ge i n with hi | hi
    · rw [List.getElem?_append_left (by omega)] at hy; exact h2 i y hy
    · rw [List.getElem?_append_right (by omega)] at hy
      have : i = n := by
        have := (List.getElem?_eq_some_iff.1 hy).1
        simp at this; omega
      subst this
      simp [h1] at hy; subst hy; exact hx
theorem Rep.cells {H : MH} {fs : List Sh} {b n : Nat} {cs : List Value} {ds : List (List D)} (hn : ds.length = n) (hl : cs.length = n * fs.length) (hw : ∀ d ∈ ds, d.length = fs.length)
    (h : ∀ (i j : Nat) d f x v, ds[i]? = some d → fs[j]? = some f → d[j]? = some x → cs[i * fs.length + j]? = some v → Rep H f v x) {i : Nat} {d : List D} (hi : ds[i]? = some d) :
    RepL H fs ((cs.drop (i * fs.length)).take fs.length) d := by
  have hlt := (List.getElem?_eq_some_iff.1 hi).1
  have hm := Nat.mul_le_mul_right fs.length (show i + 1 ≤ n by omega)
  rw [Nat.add_mul] at hm
  refine ⟨by simp; omega, hw d (List.mem_of_getElem? hi), fun j f v x a b c => ?_⟩
  have hj := (List.getElem?_eq_some_iff.1 a).1
  rw [List.getElem?_take_of_lt hj, List.getElem?_drop] at b
  exact h i j d f x v hi a c b
theorem rep_irowm {w : Nat} {H : MH} {v : Value} {d : D} (h : Rep H (.row (List.replicate w (.int .i64))) v d) : ∃ l, IRow w H v l ∧ l.length ≤ maxLen := by
  cases h with
  | nil => exact ⟨[], .inl ⟨rfl, rfl⟩, by simp⟩
  | row hB hn hm hl hw h =>
    rename_i b n cs ds
    simp only [List.length_replicate] at hB hl hw h
    obtain ⟨l, h1, h2⟩ := choose_list (α := List Int) (n := n) (p := fun i p => (cs.drop (i * w)).take w = i64s p ∧ p.length = w ∧ ∀ x ∈ p, (Lit.int .i64 x).wf = true) (fun i hi => by
      have hd : ds[i]? = some ds[i] := List.getElem?_eq_getElem (by omega)
      have := Rep.cells (H := H) (fs := List.replicate w (.int .i64)) (b := b) hn (by simpa using hl) (by simpa using hw) (by simpa using h) hd
      simp only [List.length_replicate] at this
      exact rep_ints this)
    exact ⟨l, .inr ⟨b, cs, by rw [h1], hB, by rw [h1]; exact hl, h2⟩, by rw [h1]; exact hm⟩
theorem rep_irow {w : Nat} {H : MH} {v : Value} {d : D} (h : Rep H (.row (List.replicate w (.int .i64))) v d) : ∃ l, IRow w H v l := by
  obtain ⟨l, h, _⟩ := rep_irowm h; exact ⟨l, h⟩
end Go.Mod

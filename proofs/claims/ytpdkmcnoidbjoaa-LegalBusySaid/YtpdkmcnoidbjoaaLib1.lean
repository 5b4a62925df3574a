/- Library functions over slices of one-cell elements: what they come to, whatever number they have in a program. -/
import Derived.Test.YtpdkmcnoidbjoaaFwY
set_option linter.unusedVariables false
set_option linter.unusedSimpArgs false
namespace Go.Mod

variable {mp : FuncId → Option MDef}

/-! ### footprints -/
/-- Of what was there only objects of S are other ones. -/
structure Fp (S : Nat → Prop) (H H' : MH) : Prop where
  len : H.length ≤ H'.length
  same : ∀ id, id < H.length → ¬ S id → H'[id]? = H[id]?
theorem Fp.refl (S : Nat → Prop) (H : MH) : Fp S H H := ⟨Nat.le_refl _, fun _ _ _ => rfl⟩
theorem Fp.trans {S S' : Nat → Prop} {H H1 H2 : MH} (h : Fp S H H1) (g : Fp S' H1 H2) (hs : ∀ id, id < H.length → S' id → S id) : Fp S H H2 :=
  ⟨Nat.le_trans h.len g.len, fun id hl hn => (g.same id (Nat.lt_of_lt_of_le hl h.len) fun h' => hn (hs id hl h')).trans (h.same id hl hn)⟩
theorem Fp.mono {S S' : Nat → Prop} {H H' : MH} (h : Fp S H H') (hs : ∀ id, id < H.length → S id → S' id) : Fp S' H H' := ⟨h.len, fun id hl hn => h.same id hl fun h' => hn (hs id hl h')⟩
theorem Fp.ext {H H' : MH} (h : Ext H H') (S : Nat → Prop) : Fp S H H' := by
  obtain ⟨X, rfl⟩ := h
  exact ⟨by simp, fun id hl _ => List.getElem?_append_left hl⟩
theorem Fp.set {H : MH} {S : Nat → Prop} (b : Nat) (o : MObj) (hb : S b) : Fp S H (H.set b o) := ⟨by simp, fun id _ hn => List.getElem?_set_ne (fun e => by subst e; exact hn hb)⟩
theorem Fp.get {S : Nat → Prop} {H H' : MH} (h : Fp S H H') {b : Nat} {o : MObj} (hb : H[b]? = some o) (hn : ¬ S b) : H'[b]? = some o := by
  rw [h.same b (List.getElem?_eq_some_iff.1 hb).1 hn]; exact hb

/-! ### slices.Clone -/
def cClone (es bytes : Nat) (z : List Value) : MFn := ⟨[.tmp 2], .seq (.ops [⟨(some 2), .mov, [.k (.slice none 0 0)], none, [2]⟩]) <|
.seq (.seq (.ops [⟨(some 3), .mov, [.r 0], none, []⟩,
  ⟨(some 4), .eqv false .slice, [.r 3, .k (.slice none 0 0)], none, [3]⟩]) <|
.cond (.r 4)
  (.seq (.ops [⟨(some 2), .mov, [.k (.slice none 0 0)], none, [0, 4]⟩]) <|
  .ret)
  (.skip)) <|
.seq (.ops [⟨(some 5), .bslice es 0 z [], [], none, [4]⟩,
  ⟨(some 6), .mov, [.r 0], none, [0]⟩,
  ⟨(some 7), .app es bytes, [.r 5, .r 6], none, [5, 6]⟩,
  ⟨(some 2), .mov, [.r 7], none, [7]⟩]) <|
.ret⟩

/-- A slice of one's own: no other slice leads to its object, and it covers it. -/
def Own (es : Nat) (H : MH) (v : Value) (l : List Value) (fp : List Nat) : Prop :=
  (v = .slice none 0 0 ∧ l = [] ∧ fp = []) ∨ ∃ b n c cs, v = .slice (some ⟨b, 0, none⟩) n c ∧ n ≤ c ∧ H[b]? = some (.cells ⟨es, true, false⟩ cs) ∧ cs.length = c * es ∧ cs.take (n * es) = l ∧ fp = [b]
theorem Own.row {es : Nat} {H : MH} {v : Value} {l : List Value} {fp : List Nat} (h : Own es H v l fp) : Row es H v l := by
  rcases h with ⟨h1, h2, _⟩ | ⟨b, n, c, cs, h1, h2, h3, h4, h5, _⟩
  · exact .inl ⟨h1, h2⟩
  · exact .inr ⟨b, 0, n, c, _, cs, h1, h2, h3, rfl, by rw [h4]; have := Nat.mul_le_mul_right es h2; omega, by simpa using h5⟩
theorem Own.frame {es : Nat} {H H' : MH} {v : Value} {l : List Value} {fp : List Nat} (h : Own es H v l fp) (hf : ∀ id ∈ fp, H'[id]? = H[id]?) : Own es H' v l fp := by
  rcases h with h | ⟨b, n, c, cs, h1, h2, h3, h4, h5, h6⟩
  · exact .inl h
  · exact .inr ⟨b, n, c, cs, h1, h2, by rw [hf b (by rw [h6]; simp)]; exact h3, h4, h5, h6⟩
theorem Own.lt {es : Nat} {H : MH} {v : Value} {l : List Value} {fp : List Nat} (h : Own es H v l fp) : ∀ id ∈ fp, id < H.length := by
  rcases h with ⟨_, _, h⟩ | ⟨b, n, c, cs, h1, h2, h3, h4, h5, h6⟩
  · rw [h]; intro id hid; cases hid
  · rw [h6]; intro id hid
    simp at hid; subst hid
    exact (List.getElem?_eq_some_iff.1 h3).1

theorem R_clone {f es bytes : Nat} {z : List Value} (hf : mp f = some (.code (cClone es bytes z))) (hz : z.length = es) (hes : 0 < es) (hbytes : bytes ≤ 4096) {H : MH} {v : Value} {l : List Value} (hr : Row es H v l) (hl : l.all one = true) (hn : l.length ≤ 1000000) :
    ∃ v' X, R mp f [v] H = some (v', H ++ X) ∧ Row es (H ++ X) v' l := by
  obtain ⟨a, n, c, rfl, hlen⟩ := hr.slice
  rcases hr with ⟨h1, h2⟩ | ⟨b, o, m, d, i, cs, h1, h2, h3, h4, h5, h6⟩
  · cases h1; subst h2
    refine ⟨.slice none 0 0, [], ?_, .inl ⟨rfl, rfl⟩⟩
    rw [R_code hf]
    simp [cClone]
  · cases h1
    have hr : Row es H (.slice (some ⟨b, o, none⟩) n c) l := .inr ⟨b, o, n, c, i, cs, rfl, h2, h3, h4, h5, h6⟩
    have hr1 : Row es (H ++ [.cells ⟨es, true, true⟩ []]) (.slice (some ⟨b, o, none⟩) n c) l := hr.app
    have hg : (H ++ [MObj.cells ⟨es, true, true⟩ []])[H.length]? = some (.cells ⟨es, true, true⟩ []) := by simp
    have hnl : n ≤ l.length := by
      rw [← hlen]; exact Nat.le_mul_of_pos_right n hes
    by_cases h0 : n = 0
    · subst h0
      have happ := app_zero (es := es) (bytes := bytes) (H := H ++ [.cells ⟨es, true, true⟩ []]) (a := some ⟨H.length, 0, none⟩) (len := 0) (cap := 0) (y := .slice (some ⟨b, o, none⟩) 0 c) (ys := l) (by simp) (by rintro x hx; cases hx; exact ⟨_, _, rfl, hg⟩) hr1.src
      refine ⟨_, [.cells ⟨es, true, true⟩ []], ?_, .inr ⟨H.length, 0, 0, 0, _, _, rfl, by omega, hg, rfl, by simp, ?_⟩⟩
      · rw [R_code hf]
        simp [cClone, happ, hz]
      · have : l = [] := List.eq_nil_of_length_eq_zero (by omega)
        simp [this]
    · have happ := app_ex (bytes := bytes) (len := 0) (cap := 0) (o := 0) hg hr1.src h0 rfl (by omega) (by omega) (by omega) (by omega) rfl (by simp) hl
      refine ⟨.slice (some ⟨H.length + 1, 0, none⟩) n n, [.cells ⟨es, true, true⟩ []] ++ [.cells ⟨es, true, false⟩ l], ?_, .inr ⟨H.length + 1, 0, n, n, ⟨es, true, false⟩, l, rfl, Nat.le_refl _, by simp, rfl, ?_, ?_⟩⟩
      · rw [R_code hf]
        simp [cClone, happ, hz]
      · omega
      · rw [List.drop_zero, hlen, List.take_length]

/-- Append to a slice of one's own. -/
theorem own_push {es bytes n : Nat} {H : MH} {v y : Value} {l ys : List Value} {fp : List Nat} (h : Own es H v l fp) (hl : l.all one = true) (hs : srcCells es H y = some (n, ys)) (hyl : ys.length = n * es) (hn : n ≠ 0) (hes : 0 < es) (hb : l.length + ys.length ≤ 1000000) (hbytes : bytes ≤ 4096) (hy : ys.all one = true) :
    ∃ v' H' fp', meff (.app es bytes) [v, y] H = some (v', H') ∧ Own es H' v' (l ++ ys) fp' ∧ Fp (fun id => id ∈ fp) H H' ∧ ∀ id ∈ fp', id ∈ fp ∨ H.length ≤ id := by
  have hny : n ≤ ys.length := by rw [hyl]; exact Nat.le_mul_of_pos_right n hes
  rcases h with ⟨rfl, rfl, rfl⟩ | ⟨b, m, c, cs, rfl, hmc, hB, hcs, htk, rfl⟩
  · refine ⟨_, _, [H.length], app_nil hs hn (by omega) hbytes, .inr ⟨H.length, n, n, ys, rfl, Nat.le_refl _, by simp, by rw [hyl], by simp [hyl.symm], rfl⟩, Fp.ext ⟨_, rfl⟩ _, fun id hid => .inr (by simp at hid; omega)⟩
  · have hml : l.length = m * es := by
      have := Nat.mul_le_mul_right es hmc
      rw [← htk]; simp; omega
    have hm : m ≤ l.length := by rw [hml]; exact Nat.le_mul_of_pos_right m hes
    have hlt : b < H.length := (List.getElem?_eq_some_iff.1 hB).1
    by_cases hroom : m + n ≤ c
    · have hle := Nat.mul_le_mul_right es hroom
      have hadd : (m + n) * es = m * es + n * es := Nat.add_mul ..
      refine ⟨_, _, [b], app_in (o := 0) hB hs hn rfl hroom rfl (by rw [hcs]; omega) hy, .inr ⟨b, m + n, c, _, rfl, hroom, List.getElem?_set_self hlt, ?_, ?_, rfl⟩, Fp.set b _ (by simp), fun id hid => .inl hid⟩
      · simp only [fillAt, List.length_append, List.length_take, List.length_drop]; omega
      · simp only [fillAt, Nat.zero_add, htk]
        rw [List.append_assoc, hadd, ← hml, ← hyl, List.take_length_add_append, List.take_left]
    · refine ⟨_, _, [H.length], app_mv (o := 0) hB hs hn rfl hmc hroom (by omega) hbytes rfl rfl (by omega) hy, .inr ⟨H.length, m + n, m + n, l ++ ys, rfl, Nat.le_refl _, by simp [htk], ?_, ?_, rfl⟩, ?_, fun id hid => .inr (by simp at hid; omega)⟩
      · simp only [List.length_append, hyl, hml, Nat.add_mul]
      · rw [List.take_of_length_le (by simp [hyl, hml, Nat.add_mul])]
      · refine ⟨by simp, fun id hl hne => ?_⟩
        have : b ≠ id := fun e => hne (by simp [e])
        rw [List.getElem?_append_left (by simpa using hl), List.getElem?_set_ne this]

theorem set_self {H : MH} {b : Nat} {o : MObj} (h : H[b]? = some o) : H.set b o = H := by
  apply List.ext_getElem?
  intro k
  by_cases e : b = k
  · subst e; rw [List.getElem?_set_self (List.getElem?_eq_some_iff.1 h).1]; exact h.symm
  · rw [List.getElem?_set_ne e]

/-! ### slices.Delete -/
def cDelete (es bytes : Nat) (z : List Value) : MFn := ⟨[.tmp 6], .seq (.ops [⟨(some 6), .mov, [.k (.slice none 0 0)], none, [6]⟩]) <|
.seq (.ops [⟨(some 8), .mov, [.r 0], none, []⟩,
  ⟨(some 9), .mov, [.r 1], none, []⟩,
  ⟨(some 10), .mov, [.r 2], none, []⟩,
  ⟨(some 11), .mov, [.r 0], none, []⟩,
  ⟨(some 12), .len, [.r 11], none, [11]⟩,
  ⟨(some 13), .sl es true true true, [.r 8, .r 9, .r 10, .r 12], none, [8, 9, 10, 12, 13]⟩]) <|
.seq (.seq (.ops [⟨(some 14), .mov, [.r 1], none, []⟩,
  ⟨(some 15), .mov, [.r 2], none, []⟩,
  ⟨(some 16), .bin .eql, [.r 14, .r 15], none, [14, 15]⟩]) <|
.cond (.r 16)
  (.seq (.ops [⟨(some 17), .mov, [.r 0], none, [0, 1, 2, 16]⟩,
    ⟨(some 6), .mov, [.r 17], none, [17]⟩]) <|
  .ret)
  (.skip)) <|
.seq (.ops [⟨(some 18), .mov, [.r 0], none, [16]⟩,
  ⟨(some 19), .len, [.r 18], none, [18]⟩,
  ⟨(some 7), .mov, [.r 19], none, [19]⟩]) <|
.seq (.draw [⟨(some 20), .mov, [.r 0], none, []⟩,
  ⟨(some 21), .mov, [.r 1], none, [1]⟩,
  ⟨(some 22), .sl es false true false, [.r 20, .r 21], none, [20, 21]⟩,
  ⟨(some 23), .mov, [.r 0], none, [0]⟩,
  ⟨(some 24), .mov, [.r 2], none, [2]⟩,
  ⟨(some 25), .sl es true false false, [.r 23, .r 24], none, [23, 24]⟩,
  ⟨(some 26), .app es bytes, [.r 22, .r 25], none, [22, 25]⟩,
  ⟨(some 0), .mov, [.r 26], none, [26]⟩] []) <|
.seq (.ops [⟨(some 27), .mov, [.r 0], none, []⟩,
  ⟨(some 28), .mov, [.r 0], none, []⟩,
  ⟨(some 29), .len, [.r 28], none, [28]⟩,
  ⟨(some 30), .mov, [.r 7], none, [7]⟩,
  ⟨(some 31), .sl es true true false, [.r 27, .r 29, .r 30], none, [27, 29, 30]⟩,
  ⟨none, .clear es z, [.r 31], none, [31]⟩]) <|
.seq (.ops [⟨(some 32), .mov, [.r 0], none, [0]⟩,
  ⟨(some 6), .mov, [.r 32], none, [32]⟩]) <|
.ret⟩

/-- One element of one cell taken out of a slice of one's own. -/
theorem R_delete1 {f bytes : Nat} {z : Value} (hf : mp f = some (.code (cDelete 1 bytes [z]))) (hz : one z = true) {H : MH} {v : Value} {l : List Value} {fp : List Nat} (h : Own 1 H v l fp) (hl : l.all one = true) (hb : l.length ≤ 1000000) (hbytes : bytes ≤ 4096) {i : Nat} (hi : i < l.length) {x y : Int} (hx : x = (i : Int)) (hy : y = (i : Int) + 1) :
    ∃ v' H', R mp f [v, .int .i64 x, .int .i64 y] H = some (v', H') ∧ Own 1 H' v' (l.eraseIdx i) fp ∧ Fp (fun id => id ∈ fp) H H' := by
  subst hx; subst hy
  rcases h with ⟨rfl, rfl, rfl⟩ | ⟨b, m, c, cs, rfl, hmc, hB, hcs, htk, rfl⟩
  · simp at hi
  · simp only [Nat.mul_one] at hcs htk
    have hml : m = l.length := by rw [← htk]; simp; omega
    subst hml
    have hlt : b < H.length := (List.getElem?_eq_some_iff.1 hB).1
    have hsrc : srcCells 1 H (.slice (some ⟨b, 0 + (i + 1) * 1, none⟩) (l.length - (i + 1)) (c - (i + 1))) = some (l.length - (i + 1), l.drop (i + 1)) := by
      simp only [srcCells, hB]
      rw [if_pos (by omega)]
      have : (cs.drop (0 + (i + 1) * 1)).take ((l.length - (i + 1)) * 1) = l.drop (i + 1) := by
        rw [show 0 + (i + 1) * 1 = i + 1 by omega, Nat.mul_one, ← List.drop_take, htk]
      rw [this]
    have e1 : l.length - (i + 1) + 1 = l.length - i := by omega
    have her := List.eraseIdx_eq_take_drop_succ l i
    have hz1 : ([z] : List Value).all one = true := by simp [hz]
    have a1 : (i : Int) ≤ (i : Int) + 1 := by omega
    have a2 : (i : Int) + 1 ≤ (l.length : Int) := by omega
    have a3 : (0 : Int) ≤ (i : Int) + 1 := by omega
    have a4 : (l.length : Int) ≤ (c : Int) := by omega
    have a5 : ((i : Int) + 1).toNat = i + 1 := by omega
    have a6 : (i : Int) ≤ (c : Int) := by omega
    have a7 : ¬ (i : Int) = (i : Int) + 1 := by omega
    have a8 : ((l.length - 1 : Nat) : Int) ≤ (l.length : Int) := by omega
    have self : H.set b (.cells ⟨1, true, false⟩ cs) = H := set_self hB
    obtain ⟨cs1, happ, hl1, ht1⟩ : ∃ cs1, meff (.app 1 bytes) [.slice (some ⟨b, 0, none⟩) i c, .slice (some ⟨b, 0 + (i + 1) * 1, none⟩) (l.length - (i + 1)) (c - (i + 1))] H = some (.slice (some ⟨b, 0, none⟩) (l.length - 1) c, H.set b (.cells ⟨1, true, false⟩ cs1)) ∧ cs1.length = cs.length ∧ cs1.take (l.length - 1) = l.eraseIdx i := by
      by_cases hlast : l.length - (i + 1) = 0
      · have happ := app_zero (es := 1) (bytes := bytes) (H := H) (a := some ⟨b, 0, none⟩) (len := i) (cap := c) (y := .slice (some ⟨b, 0 + (i + 1) * 1, none⟩) (l.length - (i + 1)) (c - (i + 1))) (ys := l.drop (i + 1)) (by simp) (by rintro x hx; cases hx; exact ⟨_, _, rfl, hB⟩) (by rw [hsrc, hlast])
        refine ⟨cs, by rw [happ, self, show l.length - 1 = i by omega], rfl, ?_⟩
        rw [her, List.drop_of_length_le (by omega), List.append_nil]
        conv => rhs; rw [← htk]
        rw [List.take_take]
        congr 1; omega
      · have happ := app_in (bytes := bytes) (o := 0) (len := i) (cap := c) hB hsrc hlast rfl (by omega) rfl (by omega) (by rw [List.all_eq_true] at hl ⊢; exact fun x hx => hl x (List.mem_of_mem_drop hx))
        refine ⟨_, by rw [happ, show i + (l.length - (i + 1)) = l.length - 1 by omega], ?_, ?_⟩
        · simp [fillAt]; omega
        · simp only [fillAt, Nat.zero_add, Nat.mul_one]
          have ht : cs.take i = l.take i := by rw [← htk, List.take_take]; congr 1; omega
          rw [ht, her]
          apply List.take_left'
          simp; omega
    have hB1 : (H.set b (.cells ⟨1, true, false⟩ cs1))[b]? = some (.cells ⟨1, true, false⟩ cs1) := List.getElem?_set_self hlt
    have hcl := clear_at (es := 1) (z := [z]) hB1 rfl rfl hz1 (l.length - 1) (l.length - (l.length - 1)) (c - (l.length - 1)) (by omega) (by omega)
    refine ⟨.slice (some ⟨b, 0, none⟩) (l.length - 1) c, _, ?_, .inr ⟨b, l.length - 1, c, fillAt cs1 (l.length - 1) [z], rfl, by omega, List.getElem?_set_self hlt, ?_, ?_, rfl⟩, Fp.set b _ (by simp)⟩
    · rw [R_code hf]
      have e2 : l.length - (l.length - 1) = 1 := by omega
      rw [e2] at hcl
      simp at happ hcl
      have a9 : (0 : Int) ≤ ((l.length - 1 : Nat) : Int) := by omega
      simp [cDelete, sl_at hB, sl_at hB1, a1, a2, a3, a4, a5, a6, a7, a8, a9, mdraw_plain, happ, hcl, e2]
    · simp [fillAt]; omega
    · simp only [fillAt]
      rw [Nat.mul_one, List.append_assoc, List.take_left' (by simp; omega), ht1]

/-! ### rows of whole numbers -/
def i64s (xs : List Int) : List Value := xs.map fun n => .int .i64 n
theorem i64s_len (xs : List Int) : (i64s xs).length = xs.length := by simp [i64s]
theorem i64s_one (xs : List Int) : (i64s xs).all one = true := by simp [i64s]
theorem i64s_get {xs : List Int} {i : Nat} {x : Int} (h : xs[i]? = some x) : (i64s xs)[i]? = some (.int .i64 x) := by simp [i64s, h]

/-- An element of a row of one-cell elements. -/
theorem Row.at {H : MH} {a : Option Addr} {n c k : Nat} {l : List Value} (h : Row 1 H (.slice a n c) l) (hk : k < n) :
    ∃ b o j cs, a = some ⟨b, o, none⟩ ∧ H[b]? = some (.cells j cs) ∧ j.es = 1 ∧ cs[o + k]? = l[k]? := by
  rcases h with ⟨h1, _⟩ | ⟨b, o, m, d, j, cs, h1, h2, h3, h4, h5, h6⟩
  · cases h1; omega
  · cases h1
    refine ⟨b, o, j, cs, rfl, h3, h4, ?_⟩
    rw [← h6, List.getElem?_take, if_pos (by omega), List.getElem?_drop]

/-- Where x first stands; -1: nowhere. -/
def ixOf (x : Int) (l : List Int) : Int := match l.findIdx? (fun y => x == y) with
  | some i => i
  | none => -1
theorem ixOf_some {x : Int} {l : List Int} {q : Nat} (h : l[q]? = some x) (hb : ∀ j, j < q → l[j]? ≠ some x) : ixOf x l = q := by
  have hq := (List.getElem?_eq_some_iff.1 h)
  have : l.findIdx? (fun y => x == y) = some q := by
    rw [List.findIdx?_eq_some_iff_getElem]
    refine ⟨hq.1, by simp [hq.2], fun j hj => ?_⟩
    have := hb j hj
    rw [List.getElem?_eq_getElem (show j < l.length by have := hq.1; omega)] at this
    simp at this ⊢
    exact fun e => this e.symm
  unfold ixOf; rw [this]
theorem ixOf_none {x : Int} {l : List Int} (hb : ∀ j : Nat, l[j]? ≠ some x) : ixOf x l = -1 := by
  have : l.findIdx? (fun y => x == y) = none := by
    rw [List.findIdx?_eq_none_iff]
    intro y hy
    obtain ⟨j, hj⟩ := List.mem_iff_getElem?.1 hy
    have := hb j
    rw [hj] at this
    simp at this ⊢
    exact fun e => this e.symm
  unfold ixOf; rw [this]

def cIndex_0 : MCode := .seq (.ops [⟨(some 9), .bin .lss, [.r 8, .r 7], none, []⟩]) <|
    .seq (.cond (.r 9)
      (.skip)
      (.exit 0)) <|
    .seq (.block 1 (.seq (.ops [⟨(some 10), .mov, [.r 8], none, [9]⟩,
        ⟨(some 5), .mov, [.r 10], none, [10]⟩]) <|
      .seq (.ops [⟨(some 11), .mov, [.r 1], none, []⟩,
        ⟨(some 12), .mov, [.r 0], none, []⟩,
        ⟨(some 13), .mov, [.r 5], none, []⟩,
        ⟨(some 14), .ia 1, [.r 12, .r 13], none, [12, 13]⟩,
        ⟨(some 15), .ld none, [.r 14], none, [14]⟩,
        ⟨(some 16), .bin .eql, [.r 11, .r 15], none, [11, 15]⟩]) <|
      .cond (.r 16)
        (.seq (.ops [⟨(some 17), .mov, [.r 5], none, [0, 1, 5, 7, 8, 16]⟩,
          ⟨(some 4), .mov, [.r 17], none, [17]⟩]) <|
        .ret)
        (.skip))) <|
    .ops [⟨(some 18), .bin .add, [.r 8, .k (.int .i64 1)], none, [5, 8, 16]⟩,
      ⟨(some 8), .mov, [.r 18], none, [18]⟩]
def cIndex : MFn := ⟨[.tmp 4], .seq (.ops [⟨(some 4), .mov, [.k (.int .i64 0)], none, [4]⟩]) <|
.seq (.seq (.ops [⟨(some 6), .mov, [.r 0], none, []⟩,
  ⟨(some 7), .len, [.r 6], none, [6]⟩,
  ⟨(some 8), .mov, [.k (.int .i64 0)], none, []⟩]) <|
.block 0 (.loop cIndex_0)) <|
.seq (.ops [⟨(some 4), .mov, [.k (.int .i64 (-1))], none, [0, 1, 7, 8, 9]⟩]) <|
.ret⟩

theorem index_loop {H : MH} {x : Int} {l : List Int} {a : Option Addr} {n c : Nat} (hr : Row 1 H (.slice a n c) (i64s l)) (hn : n = l.length) (hl : l.length ≤ 1000000) : ∀ (k i : Nat), l.length - i = k → i ≤ l.length → (∀ j, j < i → l[j]? ≠ some x) →
    (∃ q : Nat, l[q]? = some x ∧ (∀ j, j < q → l[j]? ≠ some x) ∧ Rc mp (.loop cIndex_0) [(0, .slice a n c), (1, .int .i64 x), (7, .int .i64 (n : Int)), (8, .int .i64 (i : Int))] H = some (.ret, [(4, .int .i64 (q : Int))], H)) ∨
    ((∀ j : Nat, l[j]? ≠ some x) ∧ Rc mp (.loop cIndex_0) [(0, .slice a n c), (1, .int .i64 x), (7, .int .i64 (n : Int)), (8, .int .i64 (i : Int))] H = some (.exit 0, [(0, .slice a n c), (1, .int .i64 x), (7, .int .i64 (n : Int)), (8, .int .i64 (n : Int)), (9, .bool false)], H)) := by
  intro k
  induction k with
  | zero =>
    intro i hk hi hb
    have hin : i = l.length := by omega
    subst hin
    refine .inr ⟨fun j => ?_, ?_⟩
    · rcases Nat.lt_or_ge j l.length with h | h
      · exact hb j h
      · rw [List.getElem?_eq_none h]; simp
    · rw [Rc_loop]
      simp [cIndex_0, hn]
  | succ k ih =>
    intro i hk hi hb
    have hil : i < n := by omega
    obtain ⟨b, o, j, cs, rfl, hB, hes, hat⟩ := hr.at hil
    obtain ⟨y, hy⟩ : ∃ y, l[i]? = some y := ⟨_, List.getElem?_eq_getElem (by omega)⟩
    rw [i64s_get hy] at hat
    by_cases hxy : x = y
    · refine .inl ⟨i, by rw [hy, hxy], hb, ?_⟩
      rw [Rc_loop]
      simp [cIndex_0, hil, ld_at hB, hat, hxy]
    · have w : IntKind.i64.wrap ((i : Int) + 1) = (i : Int) + 1 := wrap_i64 (by omega) (by omega)
      have step : Rc mp (.loop cIndex_0) [(0, .slice (some ⟨b, o, none⟩) n c), (1, .int .i64 x), (7, .int .i64 (n : Int)), (8, .int .i64 (i : Int))] H = Rc mp (.loop cIndex_0) [(0, .slice (some ⟨b, o, none⟩) n c), (1, .int .i64 x), (7, .int .i64 (n : Int)), (8, .int .i64 ((i + 1 : Nat) : Int))] H := by
        rw [Rc_loop]
        simp [cIndex_0, hil, ld_at hB, hat, hxy, w]
      rw [step]
      refine ih (i + 1) (by omega) (by omega) fun j hj => ?_
      rcases Nat.lt_or_ge j i with h | h
      · exact hb j h
      · have : j = i := by omega
        subst this
        rw [hy]; simp; exact fun e => hxy e.symm
theorem R_index {f : FuncId} (hf : mp f = some (.code cIndex)) {H : MH} {x : Int} {l : List Int} {v : Value} (hr : Row 1 H v (i64s l)) (hl : l.length ≤ 1000000) : R mp f [v, .int .i64 x] H = some (.int .i64 (ixOf x l), H) := by
  obtain ⟨a, n, c, rfl, hlen⟩ := hr.slice
  have hn : n = l.length := by rw [i64s_len] at hlen; omega
  rcases index_loop (mp := mp) (x := x) hr hn hl l.length 0 rfl (Nat.zero_le _) (fun j hj => by omega) with ⟨q, h1, h2, h3⟩ | ⟨h1, h2⟩
  · rw [R_code hf, ixOf_some h1 h2]
    simp at h3
    simp [cIndex, h3]
  · rw [R_code hf, ixOf_none h1]
    simp at h2
    simp [cIndex, h2]

def cContains (g : FuncId) : MFn := ⟨[.tmp 4], .seq (.ops [⟨(some 4), .mov, [.k (.bool false)], none, [4]⟩]) <|
.seq (.ops [⟨(some 5), .mov, [.r 0], none, [0]⟩,
  ⟨(some 6), .mov, [.r 1], none, [1]⟩,
  ⟨(some 7), .call g, [.r 5, .r 6], none, [5, 6]⟩,
  ⟨(some 8), .bin .geq, [.r 7, .k (.int .i64 0)], none, [7]⟩,
  ⟨(some 4), .mov, [.r 8], none, [8]⟩]) <|
.ret⟩
theorem ixOf_nonneg {x : Int} {l : List Int} : 0 ≤ ixOf x l ↔ x ∈ l := by
  unfold ixOf
  cases h : l.findIdx? (fun y => x == y) with
  | none =>
    rw [List.findIdx?_eq_none_iff] at h
    simp only []
    constructor
    · intro h'; omega
    · intro h'; have := h x h'; simp at this
  | some i =>
    rw [List.findIdx?_eq_some_iff_getElem] at h
    obtain ⟨hi, h1, _⟩ := h
    simp only []
    constructor
    · intro _
      have : x = l[i] := by simpa using h1
      rw [this]; exact List.getElem_mem hi
    · intro _; omega
theorem R_contains {f g : FuncId} (hf : mp f = some (.code (cContains g))) (hg : mp g = some (.code cIndex)) {H : MH} {x : Int} {l : List Int} {v : Value} (hr : Row 1 H v (i64s l)) (hl : l.length ≤ 1000000) : R mp f [v, .int .i64 x] H = some (.bool (decide (x ∈ l)), H) := by
  rw [R_code hf]
  simp [cContains, R_index hg hr hl, ixOf_nonneg]
end Go.Mod

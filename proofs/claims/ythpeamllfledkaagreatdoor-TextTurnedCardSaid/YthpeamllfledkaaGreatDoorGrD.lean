/- Library functions over slices of one-cell elements: what they come to, whatever number they have in a program. -/
import Derived.Test.YthpeamllfledkaaGreatDoorGrC
set_option linter.unusedVariables false
set_option linter.unusedSimpArgs false
namespace Go.Mod

variable {mp : FuncId → Option MDef}

/-! ### footprints -/
/-- Of what was there only objects of S are other ones. -/
structure Fp (S : Nat → Prop) (H H' : MH) : Prop where
  len : H.length ≤ H'.length
  same : ∀ id, id < H.length → ¬ S id → H'[id]? = H[id]?
theorem Fp.refl (S : Nat → Prop) (H : MH) : Fp S H H := ⟨Nat.le_refl _, fun _ _ _ => rfl⟩
theorem Fp.trans {S S' : Nat → Prop} {H H1 H2 : MH} (h : Fp S H H1) (g : Fp S' H1 H2) (hs : ∀ id, id < H.length → S' id → S id) : Fp S H H2 :=
  ⟨Nat.le_trans h.len g.len, fun id hl hn => (g.same id (Nat.lt_of_lt_of_le hl h.len) fun h' => hn (hs id hl h')).trans (h.same id hl hn)⟩
theorem Fp.mono {S S' : Nat → Prop} {H H' : MH} (h : Fp S H H') (hs : ∀ id, id < H.length → S id → S' id) : Fp S' H H' := ⟨h.len, fun id hl hn => h.same id hl fun h' => hn (hs id hl h')⟩
theorem Fp.ext {H H' : MH} (h : Ext H H') (S : Nat → Prop) : Fp S H H' := by
  obtain ⟨X, rfl⟩ := h
  exact ⟨by simp, fun id hl _ => List.getElem?_append_left hl⟩
theorem Fp.set {H : MH} {S : Nat → Prop} (b : Nat) (o : MObj) (hb : S b) : Fp S H (H.set b o) := ⟨by simp, fun id _ hn => List.getElem?_set_ne (fun e => by subst e; exact hn hb)⟩
theorem Fp.get {S : Nat → Prop} {H H' : MH} (h : Fp S H H') {b : Nat} {o : MObj} (hb : H[b]? = some o) (hn : ¬ S b) : H'[b]? = some o := by
  rw [h.same b (List.getElem?_eq_some_iff.1 hb).1 hn]; exact hb

/-! ### slices.Clone -/
def cClone (es bytes : Nat) (z : List Value) : MFn := ⟨[.tmp 2], .seq (.ops [⟨(some 2), .mov, [.k (.slice none 0 0)], none, [2]⟩]) <|
.seq (.seq (.ops [⟨(some 3), .mov, [.r 0], none, []⟩,
  ⟨(some 4), .eqv false .slice, [.r 3, .k (.slice none 0 0)], none, [3]⟩]) <|
.cond (.r 4)
  (.seq (.ops [⟨(some 2), .mov, [.k (.slice none 0 0)], none, [0, 4]⟩]) <|
  .ret)
  (.skip)) <|
.seq (.ops [⟨(some 5), .bslice es 0 z [], [], none, [4]⟩,
  ⟨(some 6), .mov, [.r 0], none, [0]⟩,
  ⟨(some 7), .app es bytes, [.r 5, .r 6], none, [5, 6]⟩,
  ⟨(some 2), .mov, [.r 7], none, [7]⟩]) <|
.ret⟩

/-- A slice of one's own: no other slice leads to its object, and it covers it. -/
def Own (es : Nat) (H : MH) (v : Value) (l : List Value) (fp : List Nat) : Prop :=
  (v = .slice none 0 0 ∧ l = [] ∧ fp = []) ∨ ∃ b n c cs, v = .slice (some ⟨b, 0, none⟩) n c ∧ n ≤ c ∧ H[b]? = some (.cells ⟨es, true, false⟩ cs) ∧ cs.length = c * es ∧ cs.take (n * es) = l ∧ fp = [b]
theorem Own.row {es : Nat} {H : MH} {v : Value} {l : List Value} {fp : List Nat} (h : Own es H v l fp) : Row es H v l := by
  rcases h with ⟨h1, h2, _⟩ | ⟨b, n, c, cs, h1, h2, h3, h4, h5, _⟩
  · exact .inl ⟨h1, h2⟩
  · exact .inr ⟨b, 0, n, c, _, cs, h1, h2, h3, rfl, by rw [h4]; have := Nat.mul_le_mul_right es h2; omega, by simpa using h5⟩
theorem Own.frame {es : Nat} {H H' : MH} {v : Value} {l : List Value} {fp : List Nat} (h : Own es H v l fp) (hf : ∀ id ∈ fp, H'[id]? = H[id]?) : Own es H' v l fp := by
  rcases h with h | ⟨b, n, c, cs, h1, h2, h3, h4, h5, h6⟩
  · exact .inl h
  · exact .inr ⟨b, n, c, cs, h1, h2, by rw [hf b (by rw [h6]; simp)]; exact h3, h4, h5, h6⟩
theorem Own.lt {es : Nat} {H : MH} {v : Value} {l : List Value} {fp : List Nat} (h : Own es H v l fp) : ∀ id ∈ fp, id < H.length := by
  rcases h with ⟨_, _, h⟩ | ⟨b, n, c, cs, h1, h2, h3, h4, h5, h6⟩
  · rw [h]; intro id hid; cases hid
  · rw [h6]; intro id hid
    simp at hid; subst hid
    exact (List.getElem?_eq_some_iff.1 h3).1

theorem R_clone {f es bytes : Nat} {z : List Value} (hf : mp f = some (.code (cClone es bytes z))) (hz : z.length = es) (hes : 0 < es) (hbytes : bytes ≤ 4096) {H : MH} {v : Value} {l : List Value} (hr : Row es H v l) (hl : l.all one = true) (hn : l.length ≤ 1000000) :
    ∃ v' X, R mp f [v] H = some (v', H ++ X) ∧ Row es (H ++ X) v' l := by
  obtain ⟨a, n, c, rfl, hlen⟩ := hr.slice
  rcases hr with ⟨h1, h2⟩ | ⟨b, o, m, d, i, cs, h1, h2, h3, h4, h5, h6⟩
  · cases h1; subst h2
    refine ⟨.slice none 0 0, [], ?_, .inl ⟨rfl, rfl⟩⟩
    rw [R_code hf]
    simp [cClone]
  · cases h1
    have hr : Row es H (.slice (some ⟨b, o, none⟩) n c) l := .inr ⟨b, o, n, c, i, cs, rfl, h2, h3, h4, h5, h6⟩
    have hr1 : Row es (H ++ [.cells ⟨es, true, true⟩ []]) (.slice (some ⟨b, o, none⟩) n c) l := hr.app
    have hg : (H ++ [MObj.cells ⟨es, true, true⟩ []])[H.length]? = some (.cells ⟨es, true, true⟩ []) := by simp
    have hnl : n ≤ l.length := by
      rw [← hlen]; exact Nat.le_mul_of_pos_right n hes
    by_cases h0 : n = 0
    · subst h0
      have happ := app_zero (es := es) (bytes := bytes) (H := H ++ [.cells ⟨es, true, true⟩ []]) (a := some ⟨H.length, 0, none⟩) (len := 0) (cap := 0) (y := .slice (some ⟨b, o, none⟩) 0 c) (ys := l) (by simp) (by rintro x hx; cases hx; exact ⟨_, _, rfl, hg⟩) hr1.src
      refine ⟨_, [.cells ⟨es, true, true⟩ []], ?_, .inr ⟨H.length, 0, 0, 0, _, _, rfl, by omega, hg, rfl, by simp, ?_⟩⟩
      · rw [R_code hf]
        simp [cClone, happ, hz]
      · have : l = [] := List.eq_nil_of_length_eq_zero (by omega)
        simp [this]
    · have happ := app_ex (bytes := bytes) (len := 0) (cap := 0) (o := 0) hg hr1.src h0 rfl (by omega) (by omega) (by omega) (by omega) rfl (by simp) hl
      refine ⟨.slice (some ⟨H.length + 1, 0, none⟩) n n, [.cells ⟨es, true, true⟩ []] ++ [.cells ⟨es, true, false⟩ l], ?_, .inr ⟨H.length + 1, 0, n, n, ⟨es, true, false⟩, l, rfl, Nat.le_refl _, by simp, rfl, ?_, ?_⟩⟩
      · rw [R_code hf]
        simp [cClone, happ, hz]
      · omega
      · rw [List.drop_zero, hlen, List.take_length]

/-- Append to a slice of one's own. -/
theorem own_push {es bytes n : Nat} {H : MH} {v y : Value} {l ys : List Value} {fp : List Nat} (h : Own es H v l fp) (hl : l.all one = true) (hs : srcCells es H y = some (n, ys)) (hyl : ys.length = n * es) (hn : n ≠ 0) (hes : 0 < es) (hb : l.length + ys.length ≤ 1000000) (hbytes : bytes ≤ 4096) (hy : ys.all one = true) :
    ∃ v' H' fp', meff (.app es bytes) [v, y] H = some (v', H') ∧ Own es H' v' (l ++ ys) fp' ∧ Fp (fun id => id ∈ fp) H H' ∧ ∀ id ∈ fp', id ∈ fp ∨ H.length ≤ id := by
  have hny : n ≤ ys.length := by rw [hyl]; exact Nat.le_mul_of_pos_right n hes
  rcases h with ⟨rfl, rfl, rfl⟩ | ⟨b, m, c, cs, rfl, hmc, hB, hcs, htk, rfl⟩
  · refine ⟨_, _, [H.length], app_nil hs hn (by omega) hbytes, .inr ⟨H.length, n, n, ys, rfl, Nat.le_refl _, by simp, by rw [hyl], by simp [hyl.symm], rfl⟩, Fp.ext ⟨_, rfl⟩ _, fun id hid => .inr (by simp at hid; omega)⟩
  · have hml : l.length = m * es := by
      have := Nat.mul_le_mul_right es hmc
      rw [← htk]; simp; omega
    have hm : m ≤ l.length := by rw [hml]; exact Nat.le_mul_of_pos_right m hes
    have hlt : b < H.length := (List.getElem?_eq_some_iff.1 hB).1
    by_cases hroom : m + n ≤ c
    · have hle := Nat.mul_le_mul_right es hroom
      have hadd : (m + n) * es = m * es + n * es := Nat.add_mul ..
      refine ⟨_, _, [b], app_in (o := 0) hB hs hn rfl hroom rfl (by rw [hcs]; omega) hy, .inr ⟨b, m + n, c, _, rfl, hroom, List.getElem?_set_self hlt, ?_, ?_, rfl⟩, Fp.set b _ (by simp), fun id hid => .inl hid⟩
      · simp only [fillAt, List.length_append, List.length_take, List.length_drop]; omega
      · simp only [fillAt, Nat.zero_add, htk]
        rw [List.append_assoc, hadd, ← hml, ← hyl, List.take_length_add_append, List.take_left]
    · refine ⟨_, _, [H.length], app_mv (o := 0) hB hs hn rfl hmc hroom (by omega) hbytes rfl rfl (by omega) hy, .inr ⟨H.length, m + n, m + n, l ++ ys, rfl, Nat.le_refl _, by simp [htk], ?_, ?_, rfl⟩, ?_, fun id hid => .inr (by simp at hid; omega)⟩
      · simp only [List.length_append, hyl, hml, Nat.add_mul]
      · rw [List.take_of_length_le (by simp [hyl, hml, Nat.add_mul])]
      · refine ⟨by simp, fun id hl hne => ?_⟩
        have : b ≠ id := fun e => hne (by simp [e])
        rw [List.getElem?_append_left (by simpa using hl), List.getElem?_set_ne this]

theorem set_self {H : MH} {b : Nat} {o : MObj} (h : H[b]? = some o) : H.set b o = H := by
  apply List.ext_getElem?
  intro k
  by_cases e : b = k
  · subst e; rw [List.getElem?_set_self (List.getElem?_eq_some_iff.1 h).1]; exact h.symm
  · rw [List.getElem?_set_ne e]

/-! ### slices.Delete -/
def cDelete (es bytes : Nat) (z : List Value) : MFn := ⟨[.tmp 6], .seq (.ops [⟨(some 6), .mov, [.k (.slice none 0 0)], none, [6]⟩]) <|
.seq (.ops [⟨(some 8), .mov, [.r 0], none, []⟩,
  ⟨(some 9), .mov, [.r 1], none, []⟩,
  ⟨(some 10), .mov, [.r 2], none, []⟩,
  ⟨(some 11), .mov, [.r 0], none, []⟩,
  ⟨(some 12), .len, [.r 11], none, [11]⟩,
  ⟨(some 13), .sl es true true true, [.r 8, .r 9, .r 10, .r 12], none, [8, 9, 10, 12, 13]⟩]) <|
.seq (.seq (.ops [⟨(some 14), .mov, [.r 1], none, []⟩,
  ⟨(some 15), .mov, [.r 2], none, []⟩,
  ⟨(some 16), .bin .eql, [.r 14, .r 15], none, [14, 15]⟩]) <|
.cond (.r 16)
  (.seq (.ops [⟨(some 17), .mov, [.r 0], none, [0, 1, 2, 16]⟩,
    ⟨(some 6), .mov, [.r 17], none, [17]⟩]) <|
  .ret)
  (.skip)) <|
.seq (.ops [⟨(some 18), .mov, [.r 0], none, [16]⟩,
  ⟨(some 19), .len, [.r 18], none, [18]⟩,
  ⟨(some 7), .mov, [.r 19], none, [19]⟩]) <|
.seq (.draw [⟨(some 20), .mov, [.r 0], none, []⟩,
  ⟨(some 21), .mov, [.r 1], none, [1]⟩,
  ⟨(some 22), .sl es false true false, [.r 20, .r 21], none, [20, 21]⟩,
  ⟨(some 23), .mov, [.r 0], none, [0]⟩,
  ⟨(some 24), .mov, [.r 2], none, [2]⟩,
  ⟨(some 25), .sl es true false false, [.r 23, .r 24], none, [23, 24]⟩,
  ⟨(some 26), .app es bytes, [.r 22, .r 25], none, [22, 25]⟩,
  ⟨(some 0), .mov, [.r 26], none, [26]⟩] []) <|
.seq (.ops [⟨(some 27), .mov, [.r 0], none, []⟩,
  ⟨(some 28), .mov, [.r 0], none, []⟩,
  ⟨(some 29), .len, [.r 28], none, [28]⟩,
  ⟨(some 30), .mov, [.r 7], none, [7]⟩,
  ⟨(some 31), .sl es true true false, [.r 27, .r 29, .r 30], none, [27, 29, 30]⟩,
  ⟨none, .clear es z, [.r 31], none, [31]⟩]) <|
.seq (.ops [⟨(some 32), .mov, [.r 0], none, [0]⟩,
  ⟨(some 6), .mov, [.r 32], none, [32]⟩]) <|
.ret⟩

/-- One element of one cell taken out of a slice of one's own. -/
theorem R_delete1 {f bytes : Nat} {z : Value} (hf : mp f = some (.code (cDelete 1 bytes [z]))) (hz : one z = true) {H : MH} {v : Value} {l : List Value} {fp : List Nat} (h : Own 1 H v l fp) (hl : l.all one = true) (hb : l.length ≤ 1000000) (hbytes : bytes ≤ 4096) {i : Nat} (hi : i < l.length) {x y : Int} (hx : x = (i : Int)) (hy : y = (i : Int) + 1) :
    ∃ v' H', R mp f [v, .int .i64 x, .int .i64 y] H = some (v', H') ∧ Own 1 H' v' (l.eraseIdx i) fp ∧ Fp (fun id => id ∈ fp) H H' := by
  subst hx; subst hy
  rcases h with ⟨rfl, rfl, rfl⟩ | ⟨b, m, c, cs, rfl, hmc, hB, hcs, htk, rfl⟩
  · simp at hi
  · simp only [Nat.mul_one] at hcs htk
    have hml : m = l.length := by rw [← htk]; simp; omega
    subst hml
    have hlt : b < H.length := (List.getElem?_eq_some_iff.1 hB).1
    have hsrc : srcCells 1 H (.slice (some ⟨b, 0 + (i + 1) * 1, none⟩) (l.length - (i + 1)) (c - (i + 1))) = some (l.length - (i + 1), l.drop (i + 1)) := by
      simp only [srcCells, hB]
      rw [if_pos (by omega)]
      have : (cs.drop (0 + (i + 1) * 1)).take ((l.length - (i + 1)) * 1) = l.drop (i + 1) := by
        rw [show 0 + (i + 1) * 1 = i + 1 by omega, Nat.mul_one, ← List.drop_take, htk]
      rw [this]
    have e1 : l.length - (i + 1) + 1 = l.length - i := by omega
    have her := List.eraseIdx_eq_take_drop_succ l i
    have hz1 : ([z] : List Value).all one = true := by simp [hz]
    have a1 : (i : Int) ≤ (i : Int) + 1 := by omega
    have a2 : (i : Int) + 1 ≤ (l.length : Int) := by omega
    have a3 : (0 : Int) ≤ (i : Int) + 1 := by omega
    have a4 : (l.length : Int) ≤ (c : Int) := by omega
    have a5 : ((i : Int) + 1).toNat = i + 1 := by omega
    have a6 : (i : Int) ≤ (c : Int) := by omega
    have a7 : ¬ (i : Int) = (i : Int) + 1 := by omega
    have a8 : ((l.length - 1 : Nat) : Int) ≤ (l.length : Int) := by omega
    have self : H.set b (.cells ⟨1, true, false⟩ cs) = H := set_self hB
    obtain ⟨cs1, happ, hl1, ht1⟩ : ∃ cs1, meff (.app 1 bytes) [.slice (some ⟨b, 0, none⟩) i c, .slice (some ⟨b, 0 + (i + 1) * 1, none⟩) (l.length - (i + 1)) (c - (i + 1))] H = some (.slice (some ⟨b, 0, none⟩) (l.length - 1) c, H.set b (.cells ⟨1, true, false⟩ cs1)) ∧ cs1.length = cs.length ∧ cs1.take (l.length - 1) = l.eraseIdx i := by
      by_cases hlast : l.length - (i + 1) = 0
      · have happ := app_zero (es := 1) (bytes := bytes) (H := H) (a := some ⟨b, 0, none⟩) (len := i) (cap := c) (y := .slice (some ⟨b, 0 + (i + 1) * 1, none⟩) (l.length - (i + 1)) (c - (i + 1))) (ys := l.drop (i + 1)) (by simp) (by rintro x hx; cases hx; exact ⟨_, _, rfl, hB⟩) (by rw [hsrc, hlast])
        refine ⟨cs, by rw [happ, self, show l.length - 1 = i by omega], rfl, ?_⟩
        rw [her, List.drop_of_length_le (by omega), List.append_nil]
        conv => rhs; rw [← htk]
        rw [List.take_take]
        congr 1; omega
      · have happ := app_in (bytes := bytes) (o := 0) (len := i) (cap := c) hB hsrc hlast rfl (by omega) rfl (by omega) (by rw [List.all_eq_true] at hl ⊢; exact fun x hx => hl x (List.mem_of_mem_drop hx))
        refine ⟨_, by rw [happ, show i + (l.length - (i + 1)) = l.length - 1 by omega], ?_, ?_⟩
        · simp [fillAt]; omega
        · simp only [fillAt, Nat.zero_add, Nat.mul_one]
          have ht : cs.take i = l.take i := by rw [← htk, List.take_take]; congr 1; omega
          rw [ht, her]
          apply List.take_left'
          simp; omega
    have hB1 : (H.set b (.cells ⟨1, true, false⟩ cs1))[b]? = some (.cells ⟨1, true, false⟩ cs1) := List.getElem?_set_self hlt
    have hcl := clear_at (es := 1) (z := [z]) hB1 rfl rfl hz1 (l.length - 1) (l.length - (l.length - 1)) (c - (l.length - 1)) (by omega) (by omega)
    refine ⟨.slice (some ⟨b, 0, none⟩) (l.length - 1) c, _, ?_, .inr ⟨b, l.length - 1, c, fillAt cs1 (l.length - 1) [z], rfl, by omega, List.getElem?_set_self hlt, ?_, ?_, rfl⟩, Fp.set b _ (by simp)⟩
    · rw [R_code hf]
      have e2 : l.length - (l.length - 1) = 1 := by omega
      rw [e2] at hcl
      simp at happ hcl
      have a9 : (0 : Int) ≤ ((l.length - 1 : Nat) : Int) := by omega
      simp [cDelete, sl_at hB, sl_at hB1, a1, a2, a3, a4, a5, a6, a7, a8, a9, mdraw_plain, happ, hcl, e2]
    · simp [fillAt]; omega
    · simp only [fillAt]
      rw [Nat.mul_one, List.append_assoc, List.take_left' (by simp; omega), ht1]

/-! ### rows of whole numbers -/
def i64s (xs : List Int) : List Value := xs.map fun n => .int .i64 n
theorem i64s_len (xs : List Int) : (i64s xs).length = xs.length := by simp [i64s]
theorem i64s_one (xs : List Int) : (i64s xs).all one = true := by simp [i64s]
theorem i64s_get {xs : List Int} {i : Nat} {x : Int} (h : xs[i]? = some x) : (i64s xs)[i]? = some (.int .i64 x) := by simp [i64s, h]

/-- An element of a row of one-cell elements. -/
theorem Row.at {H : MH} {a : Option Addr} {n c k : Nat} {l : List Value} (h : Row 1 H (.slice a n c) l) (hk : k < n) :
    ∃ b o j cs, a = some ⟨b, o, none⟩ ∧ H[b]? = some (.cells j cs) ∧ j.es = 1 ∧ cs[o + k]? = l[k]? := by
  rcases h with ⟨h1, _⟩ | ⟨b, o, m, d, j, cs, h1, h2, h3, h4, h5, h6⟩
  · cases h1; omega
  · cases h1
    refine ⟨b, o, j, cs, rfl, h3, h4, ?_⟩
    rw [← h6, List.getElem?_take, if_pos (by omega), List.getElem?_drop]

/-- Where x first stands; -1: nowhere. -/
def ixOf (x : Int) (l : List Int) : Int := match l.findIdx? (fun y => x == y) with
  | some i => i
  | none => -1
theorem ixOf_some {x : Int} {l : List Int} {q : Nat} (h : l[q]? = some x) (hb : ∀ j, j < q → l[j]? ≠ some x) : ixOf x l = q := by
  have hq := (List.getElem?_eq_some_iff.1 h)
  have : l.findIdx? (fun y => x == y) = some q := by
    rw [List.findIdx?_eq_some_iff_getElem]
    refine ⟨hq.1, by simp [hq.2], fun j hj => ?_⟩
    have := hb j hj
    rw [List.getElem?_eq_getElem (show j < l.length by have := hq.1; omega)] at this
    simp at this ⊢
    exact fun e => this e.symm
  unfold ixOf; rw [this]
theorem ixOf_none {x : Int} {l : List Int} (hb : ∀ j : Nat, l[j]? ≠ some x) : ixOf x l = -1 := by
  have : l.findIdx? (fun y => x == y) = none := by
    rw [List.findIdx?_eq_none_iff]
    intro y hy
    obtain ⟨j, hj⟩ := List.mem_iff_getElem?.1 hy
    have := hb j
    rw [hj] at this
    simp at this ⊢
    exact fun e => this e.symm
  unfold ixOf; rw [this]

def cIndex_0 : MCode := .seq (.ops [⟨(some 9), .bin .lss, [.r 8, .r 7], none, []⟩]) <|
    .seq (.cond (.r 9)
      (.skip)
      (.exit 0)) <|
    .seq (.block 1 (.seq (.ops [⟨(some 10), .mov, [.r 8], none, [9]⟩,
        ⟨(some 5), .mov, [.r 10], none, [10]⟩]) <|
      .seq (.ops [⟨(some 11), .mov, [.r 1], none, []⟩,
        ⟨(some 12), .mov, [.r 0], none, []⟩,
        ⟨(some 13), .mov, [.r 5], none, []⟩,
        ⟨(some 14), .ia 1, [.r 12, .r 13], none, [12, 13]⟩,
        ⟨(some 15), .ld none, [.r 14], none, [14]⟩,
        ⟨(some 16), .bin .eql, [.r 11, .r 15], none, [11, 15]⟩]) <|
      .cond (.r 16)
        (.seq (.ops [⟨(some 17), .mov, [.r 5], none, [0, 1, 5, 7, 8, 16]⟩,
          ⟨(some 4), .mov, [.r 17], none, [17]⟩]) <|
        .ret)
        (.skip))) <|
    .ops [⟨(some 18), .bin .add, [.r 8, .k (.int .i64 1)], none, [5, 8, 16]⟩,
      ⟨(some 8), .mov, [.r 18], none, [18]⟩]
def cIndex : MFn := ⟨[.tmp 4], .seq (.ops [⟨(some 4), .mov, [.k (.int .i64 0)], none, [4]⟩]) <|
.seq (.seq (.ops [⟨(some 6), .mov, [.r 0], none, []⟩,
  ⟨(some 7), .len, [.r 6], none, [6]⟩,
  ⟨(some 8), .mov, [.k (.int .i64 0)], none, []⟩]) <|
.block 0 (.loop cIndex_0)) <|
.seq (.ops [⟨(some 4), .mov, [.k (.int .i64 (-1))], none, [0, 1, 7, 8, 9]⟩]) <|
.ret⟩

theorem index_loop {H : MH} {x : Int} {l : List Int} {a : Option Addr} {n c : Nat} (hr : Row 1 H (.slice a n c) (i64s l)) (hn : n = l.length) (hl : l.length ≤ 1000000) : ∀ (k i : Nat), l.length - i = k → i ≤ l.length → (∀ j, j < i → l[j]? ≠ some x) →
    (∃ q : Nat, l[q]? = some x ∧ (∀ j, j < q → l[j]? ≠ some x) ∧ Rc mp (.loop cIndex_0) [(0, .slice a n c), (1, .int .i64 x), (7, .int .i64 (n : Int)), (8, .int .i64 (i : Int))] H = some (.ret, [(4, .int .i64 (q : Int))], H)) ∨
    ((∀ j : Nat, l[j]? ≠ some x) ∧ Rc mp (.loop cIndex_0) [(0, .slice a n c), (1, .int .i64 x), (7, .int .i64 (n : Int)), (8, .int .i64 (i : Int))] H = some (.exit 0, [(0, .slice a n c), (1, .int .i64 x), (7, .int .i64 (n : Int)), (8, .int .i64 (n : Int)), (9, .bool false)], H)) := by
  intro k
  induction k with
  | zero =>
    intro i hk hi hb
    have hin : i = l.length := by omega
    subst hin
    refine .inr ⟨fun j => ?_, ?_⟩
    · rcases Nat.lt_or_ge j l.length with h | h
      · exact hb j h
      · rw [List.getElem?_eq_none h]; simp
    · rw [Rc_loop]
      simp [cIndex_0, hn]
  | succ k ih =>
    intro i hk hi hb
    have hil : i < n := by omega
    obtain ⟨b, o, j, cs, rfl, hB, hes, hat⟩ := hr.at hil
    obtain ⟨y, hy⟩ : ∃ y, l[i]? = some y := ⟨_, List.getElem?_eq_getElem (by omega)⟩
    rw [i64s_get hy] at hat
    by_cases hxy : x = y
    · refine .inl ⟨i, by rw [hy, hxy], hb, ?_⟩
      rw [Rc_loop]
      simp [cIndex_0, hil, ld_at hB, hat, hxy]
    · have w : IntKind.i64.wrap ((i : Int) + 1) = (i : Int) + 1 := wrap_i64 (by omega) (by omega)
      have step : Rc mp (.loop cIndex_0) [(0, .slice (some ⟨b, o, none⟩) n c), (1, .int .i64 x), (7, .int .i64 (n : Int)), (8, .int .i64 (i : Int))] H = Rc mp (.loop cIndex_0) [(0, .slice (some ⟨b, o, none⟩) n c), (1, .int .i64 x), (7, .int .i64 (n : Int)), (8, .int .i64 ((i + 1 : Nat) : Int))] H := by
        rw [Rc_loop]
        simp [cIndex_0, hil, ld_at hB, hat, hxy, w]
      rw [step]
      refine ih (i + 1) (by omega) (by omega) fun j hj => ?_
      rcases Nat.lt_or_ge j i with h | h
      · exact hb j h
      · have : j = i := by omega
        subst this
        rw [hy]; simp; exact fun e => hxy e.symm
theorem R_index {f : FuncId} (hf : mp f = some (.code cIndex)) {H : MH} {x : Int} {l : List Int} {v : Value} (hr : Row 1 H v (i64s l)) (hl : l.length ≤ 1000000) : R mp f [v, .int .i64 x] H = some (.int .i64 (ixOf x l), H) := by
  obtain ⟨a, n, c, rfl, hlen⟩ := hr.slice
  have hn : n = l.length := by rw [i64s_len] at hlen; omega
  rcases index_loop (mp := mp) (x := x) hr hn hl l.length 0 rfl (Nat.zero_le _) (fun j hj => by omega) with ⟨q, h1, h2, h3⟩ | ⟨h1, h2⟩
  · rw [R_code hf, ixOf_some h1 h2]
    simp at h3
    simp [cIndex, h3]
  · rw [R_code hf, ixOf_none h1]
    simp at h2
    simp [cIndex, h2]

def cContains (g : FuncId) : MFn := ⟨[.tmp 4], .seq (.ops [⟨(some 4), .mov, [.k (.bool false)], none, [4]⟩]) <|
.seq (.ops [⟨(some 5), .mov, [.r 0], none, [0]⟩,
  ⟨(some 6), .mov, [.r 1], none, [1]⟩,
  ⟨(some 7), .call g, [.r 5, .r 6], none, [5, 6]⟩,
  ⟨(some 8), .bin .geq, [.r 7, .k (.int .i64 0)], none, [7]⟩,
  ⟨(some 4), .mov, [.r 8], none, [8]⟩]) <|
.ret⟩
theorem ixOf_nonneg {x : Int} {l : List Int} : 0 ≤ ixOf x l ↔ x ∈ l := by
  unfold ixOf
  cases h : l.findIdx? (fun y => x == y) with
  | none =>
    rw [List.findIdx?_eq_none_iff] at h
    simp only []
    constructor
    · intro h'; omega
    · intro h'; have := h x h'; simp at this
  | some i =>
    rw [List.findIdx?_eq_some_iff_getElem] at h
    obtain ⟨hi, h1, _⟩ := h
    simp only []
    constructor
    · intro _
      have : x = l[i] := by simpa using h1
      rw [this]; exact List.getElem_mem hi
    · intro _; omega
theorem R_contains {f g : FuncId} (hf : mp f = some (.code (cContains g))) (hg : mp g = some (.code cIndex)) {H : MH} {x : Int} {l : List Int} {v : Value} (hr : Row 1 H v (i64s l)) (hl : l.length ≤ 1000000) : R mp f [v, .int .i64 x] H = some (.bool (decide (x ∈ l)), H) := by
  rw [R_code hf]
  simp [cContains, R_index hg hr hl, ixOf_nonneg]
end Go.Mod
/- More of slices: appends of any length, the references' small functions over rows of whole numbers. -/
set_option linter.unusedVariables false
set_option linter.unusedSimpArgs false
namespace Go.Mod

variable {mp : FuncId → Option MDef}

theorem Ext.of_fp {S : Nat → Prop} {H H1 H2 : MH} (h : Ext H H1) (f : Fp S H1 H2) (hs : ∀ id, S id → H.length ≤ id) : Ext H H2 := by
  refine ⟨H2.drop H.length, ?_⟩
  apply List.ext_getElem?
  intro k
  have h1 := h.len
  have h2 := f.len
  rcases Nat.lt_or_ge k H.length with hk | hk
  · rw [List.getElem?_append_left hk, f.same k (by omega) (fun hS => by have := hs k hS; omega)]
    obtain ⟨X, rfl⟩ := h
    exact List.getElem?_append_left hk
  · rw [List.getElem?_append_right hk, List.getElem?_drop]
    congr 1; omega
theorem Row.frame {es : Nat} {H H' : MH} {v : Value} {l : List Value} (h : Row es H v l) (hf : ∀ b o n c, v = .slice (some ⟨b, o, none⟩) n c → H'[b]? = H[b]?) : Row es H' v l := by
  rcases h with h | ⟨b, o, n, c, i, cs, h1, h2, h3, h4⟩
  · exact .inl h
  · exact .inr ⟨b, o, n, c, i, cs, h1, h2, by rw [hf b o n c h1]; exact h3, h4⟩
theorem Own.blk {es : Nat} {H : MH} {v : Value} {l : List Value} {fp : List Nat} (h : Own es H v l fp) : ∀ b o n c, v = .slice (some ⟨b, o, none⟩) n c → b ∈ fp := by
  rcases h with ⟨rfl, _, _⟩ | ⟨b, n, c, cs, rfl, _, _, _, _, rfl⟩
  · intro b o n c h; cases h
  · intro b' o n' c' h; cases h; simp

theorem Own.ext {es : Nat} {H H' : MH} {v : Value} {l : List Value} {fp : List Nat} (h : Own es H v l fp) (e : Ext H H') : Own es H' v l fp := by
  refine h.frame fun id hid => ?_
  obtain ⟨X, rfl⟩ := e
  exact List.getElem?_append_left (h.lt id hid)

theorem Fp.set1 {H : MH} {u : Nat} {o : MObj} : Fp (fun id => id = u) H (H.set u o) := Fp.set u o rfl
/-- Objects that are new, then one that is put. -/
theorem Ext.set1 {H H' : MH} (e : Ext H H') {u : Nat} {o : MObj} : Fp (fun id => id = u) H (H'.set u o) := (Fp.ext e _).trans Fp.set1 fun _ _ h => h
/-- Append of as many as there are. -/
theorem own_app {es bytes : Nat} {H : MH} {v y : Value} {l ys : List Value} {fp : List Nat} (h : Own es H v l fp) (hl : l.all one = true) (hr : Row es H y ys) (hy : ys.all one = true) (hes : 0 < es) (hb : l.length + ys.length ≤ 1000000) (hbytes : bytes ≤ 4096) :
    ∃ v' H' fp', meff (.app es bytes) [v, y] H = some (v', H') ∧ Own es H' v' (l ++ ys) fp' ∧ Fp (fun id => id ∈ fp) H H' ∧ ∀ id ∈ fp', id ∈ fp ∨ H.length ≤ id := by
  obtain ⟨a, n, c, rfl, hn⟩ := hr.slice
  have hs := hr.src
  by_cases h0 : n = 0
  · subst h0
    have : ys = [] := List.eq_nil_of_length_eq_zero (by omega)
    subst this
    have hA : ∃ v', meff (.app es bytes) [v, .slice a 0 c] H = some (v', H) ∧ v' = v := by
      rcases h with ⟨rfl, rfl, rfl⟩ | ⟨b, m, d, cs, rfl, hmc, hB, hcs, htk, rfl⟩
      · exact ⟨_, app_zero (ys := []) (by simp) (by simp) hs, rfl⟩
      · exact ⟨_, app_zero (ys := []) (by simp) (by rintro x hx; cases hx; exact ⟨_, _, rfl, hB⟩) hs, rfl⟩
    obtain ⟨v', h1, rfl⟩ := hA
    exact ⟨_, H, fp, h1, by simpa using h, Fp.refl _ _, fun id hid => .inl hid⟩
  · exact own_push h hl hs hn.symm h0 hes hb hbytes hy
/-- .. of what is new to nothing. -/
theorem own_new {es bytes : Nat} {H : MH} {y : Value} {ys : List Value} (hr : Row es H y ys) (hy : ys.all one = true) (hes : 0 < es) (hb : ys.length ≤ 1000000) (hbytes : bytes ≤ 4096) :
    ∃ v' H' fp', meff (.app es bytes) [.slice none 0 0, y] H = some (v', H') ∧ Own es H' v' ys fp' ∧ Ext H H' ∧ ∀ id ∈ fp', H.length ≤ id := by
  obtain ⟨v', H', fp', h1, h2, h3, h4⟩ := own_app (bytes := bytes) (l := []) (fp := []) (.inl ⟨rfl, rfl, rfl⟩) rfl hr hy hes (by simpa using hb) hbytes
  exact ⟨v', H', fp', h1, by simpa using h2, Ext.of_fp (Ext.refl H) h3 (fun id hid => by cases hid), fun id hid => (h4 id hid).resolve_left (by simp)⟩

/-- The slice that leads to a new object. -/
theorem row_new {es n : Nat} {H : MH} {rw ex : Bool} {ys : List Value} (h : ys.length = n * es) : Row es (H ++ [.cells ⟨es, rw, ex⟩ ys]) (.slice (some ⟨H.length, 0, none⟩) n n) ys :=
  .inr ⟨H.length, 0, n, n, ⟨es, rw, ex⟩, ys, rfl, Nat.le_refl _, by simp, rfl, by omega, by rw [← h]; simp⟩

/-! ### the first place of a number -/
def cAt_0 : MCode := .seq (.seq (.ops [⟨(some 6), .mov, [.r 5], none, []⟩,
      ⟨(some 7), .mov, [.r 0], none, []⟩,
      ⟨(some 8), .len, [.r 7], none, [7]⟩,
      ⟨(some 9), .bin .lss, [.r 6, .r 8], none, [6, 8]⟩]) <|
    .cond (.r 9)
      (.skip)
      (.exit 0)) <|
    .seq (.block 1 (.seq (.ops [⟨(some 12), .mov, [.r 0], none, [9]⟩,
        ⟨(some 13), .mov, [.r 5], none, []⟩,
        ⟨(some 14), .ia 1, [.r 12, .r 13], none, [12, 13]⟩,
        ⟨(some 15), .ld none, [.r 14], none, [14]⟩,
        ⟨(some 16), .mov, [.r 1], none, []⟩,
        ⟨(some 17), .bin .eql, [.r 15, .r 16], none, [15, 16]⟩]) <|
      .cond (.r 17)
        (.seq (.ops [⟨(some 18), .mov, [.r 5], none, [0, 1, 5, 17]⟩,
          ⟨(some 4), .mov, [.r 18], none, [18]⟩]) <|
        .ret)
        (.skip))) <|
    .ops [⟨(some 10), .mov, [.r 5], none, [5, 17]⟩,
      ⟨(some 11), .bin .add, [.r 10, .k (.int .i64 1)], none, [10]⟩,
      ⟨(some 5), .mov, [.r 11], none, [11]⟩]
def cAt : MFn := ⟨[.tmp 4], .seq (.ops [⟨(some 4), .mov, [.k (.int .i64 0)], none, [4]⟩]) <|
.seq (.seq (.ops [⟨(some 5), .mov, [.k (.int .i64 0)], none, []⟩]) <|
.block 0 (.loop cAt_0)) <|
.seq (.ops [⟨(some 4), .mov, [.k (.int .i64 (-1))], none, [0, 1, 5, 9]⟩]) <|
.ret⟩

theorem at_loop {H : MH} {x : Int} {l : List Int} {a : Option Addr} {n c : Nat} (hr : Row 1 H (.slice a n c) (i64s l)) (hn : n = l.length) (hl : l.length ≤ 1000000) : ∀ (k i : Nat), l.length - i = k → i ≤ l.length → (∀ j, j < i → l[j]? ≠ some x) →
    (∃ q : Nat, l[q]? = some x ∧ (∀ j, j < q → l[j]? ≠ some x) ∧ Rc mp (.loop cAt_0) [(0, .slice a n c), (1, .int .i64 x), (5, .int .i64 (i : Int))] H = some (.ret, [(4, .int .i64 (q : Int))], H)) ∨
    ((∀ j : Nat, l[j]? ≠ some x) ∧ Rc mp (.loop cAt_0) [(0, .slice a n c), (1, .int .i64 x), (5, .int .i64 (i : Int))] H = some (.exit 0, [(0, .slice a n c), (1, .int .i64 x), (5, .int .i64 (n : Int)), (9, .bool false)], H)) := by
  intro k
  induction k with
  | zero =>
    intro i hk hi hb
    have hin : i = l.length := by omega
    subst hin
    refine .inr ⟨fun j => ?_, ?_⟩
    · rcases Nat.lt_or_ge j l.length with h | h
      · exact hb j h
      · rw [List.getElem?_eq_none h]; simp
    · rw [Rc_loop]
      simp [cAt_0, hn]
  | succ k ih =>
    intro i hk hi hb
    have hil : i < n := by omega
    obtain ⟨b, o, j, cs, rfl, hB, hes, hat⟩ := hr.at hil
    obtain ⟨y, hy⟩ : ∃ y, l[i]? = some y := ⟨_, List.getElem?_eq_getElem (by omega)⟩
    rw [i64s_get hy] at hat
    by_cases hxy : y = x
    · refine .inl ⟨i, by rw [hy, hxy], hb, ?_⟩
      rw [Rc_loop]
      simp [cAt_0, hil, ld_at hB, hat, hxy]
    · have w : IntKind.i64.wrap ((i : Int) + 1) = (i : Int) + 1 := wrap_i64 (by omega) (by omega)
      have step : Rc mp (.loop cAt_0) [(0, .slice (some ⟨b, o, none⟩) n c), (1, .int .i64 x), (5, .int .i64 (i : Int))] H = Rc mp (.loop cAt_0) [(0, .slice (some ⟨b, o, none⟩) n c), (1, .int .i64 x), (5, .int .i64 ((i + 1 : Nat) : Int))] H := by
        rw [Rc_loop]
        simp [cAt_0, hil, ld_at hB, hat, hxy, w]
      rw [step]
      refine ih (i + 1) (by omega) (by omega) fun j hj => ?_
      rcases Nat.lt_or_ge j i with h | h
      · exact hb j h
      · have : j = i := by omega
        subst this
        rw [hy]; simp; exact hxy
theorem R_at {f : FuncId} (hf : mp f = some (.code cAt)) {H : MH} {x : Int} {l : List Int} {v : Value} (hr : Row 1 H v (i64s l)) (hl : l.length ≤ 1000000) : R mp f [v, .int .i64 x] H = some (.int .i64 (ixOf x l), H) := by
  obtain ⟨a, n, c, rfl, hlen⟩ := hr.slice
  have hn : n = l.length := by rw [i64s_len] at hlen; omega
  rcases at_loop (mp := mp) (x := x) hr hn hl l.length 0 rfl (Nat.zero_le _) (fun j hj => by omega) with ⟨q, h1, h2, h3⟩ | ⟨h1, h2⟩
  · rw [R_code hf, ixOf_some h1 h2]
    simp at h3
    simp [cAt, h3]
  · rw [R_code hf, ixOf_none h1]
    simp at h2
    simp [cAt, h2]

/-! ### are two rows the same -/
def cSame_0 : MCode := .seq (.seq (.ops [⟨(some 11), .mov, [.r 5], none, []⟩,
      ⟨(some 12), .mov, [.r 0], none, []⟩,
      ⟨(some 13), .len, [.r 12], none, [12]⟩,
      ⟨(some 14), .bin .lss, [.r 11, .r 13], none, [11, 13]⟩]) <|
    .cond (.r 14)
      (.skip)
      (.exit 0)) <|
    .seq (.block 1 (.seq (.draw [⟨(some 17), .mov, [.r 0], none, [14]⟩,
        ⟨(some 18), .mov, [.r 5], none, []⟩,
        ⟨(some 19), .ia 1, [.r 17, .r 18], none, [17, 18]⟩,
        ⟨(some 20), .ld none, [.r 19], none, [19]⟩,
        ⟨(some 21), .mov, [.r 1], none, []⟩,
        ⟨(some 22), .mov, [.r 5], none, []⟩,
        ⟨(some 23), .ia 1, [.r 21, .r 22], none, [21, 22]⟩,
        ⟨(some 24), .ld none, [.r 23], none, [23]⟩,
        ⟨(some 25), .bin .neq, [.r 20, .r 24], none, [20, 24]⟩] []) <|
      .cond (.r 25)
        (.seq (.ops [⟨(some 4), .mov, [.k (.bool false)], none, [0, 1, 5, 25]⟩]) <|
        .ret)
        (.skip))) <|
    .ops [⟨(some 15), .mov, [.r 5], none, [5, 25]⟩,
      ⟨(some 16), .bin .add, [.r 15, .k (.int .i64 1)], none, [15]⟩,
      ⟨(some 5), .mov, [.r 16], none, [16]⟩]
def cSame : MFn := ⟨[.tmp 4], .seq (.ops [⟨(some 4), .mov, [.k (.bool false)], none, [4]⟩]) <|
.seq (.seq (.ops [⟨(some 6), .mov, [.r 0], none, []⟩,
  ⟨(some 7), .len, [.r 6], none, [6]⟩,
  ⟨(some 8), .mov, [.r 1], none, []⟩,
  ⟨(some 9), .len, [.r 8], none, [8]⟩,
  ⟨(some 10), .bin .neq, [.r 7, .r 9], none, [7, 9]⟩]) <|
.cond (.r 10)
  (.seq (.ops [⟨(some 4), .mov, [.k (.bool false)], none, [0, 1, 10]⟩]) <|
  .ret)
  (.skip)) <|
.seq (.seq (.ops [⟨(some 5), .mov, [.k (.int .i64 0)], none, [10]⟩]) <|
.block 0 (.loop cSame_0)) <|
.seq (.ops [⟨(some 4), .mov, [.k (.bool true)], none, [0, 1, 5, 14]⟩]) <|
.ret⟩
theorem same_loop {H : MH} {l : List Int} {a a' : Option Addr} {n c c' : Nat} (hr : Row 1 H (.slice a n c) (i64s l)) (hr' : Row 1 H (.slice a' n c') (i64s l)) (hn : n = l.length) (hl : l.length ≤ 1000000) : ∀ (k i : Nat), i + k = l.length →
    Rc mp (.loop cSame_0) [(0, .slice a n c), (1, .slice a' n c'), (5, .int .i64 (i : Int))] H = some (.exit 0, [(0, .slice a n c), (1, .slice a' n c'), (5, .int .i64 (n : Int)), (14, .bool false)], H)
  | 0, i, hk => by
    have hin : i = l.length := by omega
    subst hin
    rw [Rc_loop]
    simp [cSame_0, hn]
  | k + 1, i, hk => by
    have hil : i < n := by omega
    obtain ⟨b, o, j, cs, rfl, hB, hes, hat⟩ := hr.at hil
    obtain ⟨b', o', j', cs', rfl, hB', hes', hat'⟩ := hr'.at hil
    obtain ⟨y, hy⟩ : ∃ y, l[i]? = some y := ⟨_, List.getElem?_eq_getElem (by omega)⟩
    rw [i64s_get hy] at hat hat'
    have w : IntKind.i64.wrap ((i : Int) + 1) = (i : Int) + 1 := wrap_i64 (by omega) (by omega)
    have ih := same_loop hr hr' hn hl k (i + 1) (by omega)
    rw [Rc_loop]
    simp at ih
    simp [cSame_0, hil, ld_at hB, hat, ld_at hB', hat', w, mdraw_plain]
    exact ih
/-- Two rows that are the same are told so. -/
theorem R_same {f : FuncId} (hf : mp f = some (.code cSame)) {H : MH} {l : List Int} {v v' : Value} (hr : Row 1 H v (i64s l)) (hr' : Row 1 H v' (i64s l)) (hl : l.length ≤ 1000000) : R mp f [v, v'] H = some (.bool true, H) := by
  obtain ⟨a, n, c, rfl, hlen⟩ := hr.slice
  obtain ⟨a', n', c', rfl, hlen'⟩ := hr'.slice
  have hn : n = l.length := by rw [i64s_len] at hlen; omega
  have hn' : n' = n := by omega
  subst hn'
  have h := same_loop (mp := mp) hr hr' hn hl l.length 0 (by omega)
  rw [R_code hf]
  simp at h
  simp [cSame, h]

/-! ### a row without one -/
def cWithout : MFn := ⟨[.tmp 4], .seq (.ops [⟨(some 4), .mov, [.k (.slice none 0 0)], none, [4]⟩]) <|
.seq (.draw [⟨(some 5), .mov, [.r 0], none, []⟩,
  ⟨(some 6), .mov, [.r 1], none, []⟩,
  ⟨(some 7), .sl 1 false true false, [.r 5, .r 6], none, [5, 6]⟩,
  ⟨(some 8), .app 1 8, [.k (.slice none 0 0), .r 7], none, [7]⟩,
  ⟨(some 9), .mov, [.r 0], none, [0]⟩,
  ⟨(some 10), .mov, [.r 1], none, [1]⟩,
  ⟨(some 11), .bin .add, [.r 10, .k (.int .i64 1)], none, [10]⟩,
  ⟨(some 12), .sl 1 true false false, [.r 9, .r 11], none, [9, 11]⟩,
  ⟨(some 13), .app 1 8, [.r 8, .r 12], none, [8, 12]⟩,
  ⟨(some 4), .mov, [.r 13], none, [13]⟩] [(7, 3)]) <|
.ret⟩

/-- A part of a row. -/
theorem Row.part {H : MH} {b o n c : Nat} {i : Info} {cs l : List Value} (hB : H[b]? = some (.cells i cs)) (hes : i.es = 1) (hlc : o + n ≤ cs.length) (hnc : n ≤ c) (htk : (cs.drop o).take n = l) : Row 1 H (.slice (some ⟨b, o, none⟩) n c) l :=
  .inr ⟨b, o, n, c, i, cs, rfl, hnc, hB, hes, by omega, by rw [Nat.mul_one]; exact htk⟩
theorem all_take {l : List Value} (h : l.all one = true) (n : Nat) : (l.take n).all one = true := by
  rw [List.all_eq_true] at h ⊢; exact fun x hx => h x (List.mem_of_mem_take hx)
theorem all_drop {l : List Value} (h : l.all one = true) (n : Nat) : (l.drop n).all one = true := by
  rw [List.all_eq_true] at h ⊢; exact fun x hx => h x (List.mem_of_mem_drop hx)

theorem R_without {f : FuncId} (hf : mp f = some (.code cWithout)) {H : MH} {l : List Value} {v : Value} (hr : Row 1 H v l) (hl1 : l.all one = true) (hl : l.length ≤ 400000) {i : Nat} (hi : i < l.length) :
    ∃ v' H' fp, R mp f [v, .int .i64 (i : Int)] H = some (v', H') ∧ Own 1 H' v' (l.eraseIdx i) fp ∧ Ext H H' ∧ ∀ id ∈ fp, H.length ≤ id := by
  rcases hr with ⟨_, rfl⟩ | ⟨b, o, n, c, j, cs, rfl, hnc, hB, hes, hlc, htk⟩
  · simp at hi
  · simp only [Nat.mul_one] at hlc htk
    have hn : n = l.length := by rw [← htk]; simp; omega
    subst hn
    have r1 : Row 1 H (.slice (some ⟨b, o + 0 * 1, none⟩) (i - 0) (c - 0)) (l.take i) := by
      refine Row.part (by simpa using hB) hes (by omega) (by omega) ?_
      conv => rhs; rw [← htk]
      rw [List.take_take, Nat.min_eq_left (by omega)]; simp
    obtain ⟨v1, H1, fp1, a1, o1, x1, n1⟩ := own_new (bytes := 8) r1 (all_take hl1 i) (by omega) (by simp; omega) (by omega)
    have hB1 := x1.get hB
    have r2 : Row 1 H1 (.slice (some ⟨b, o + (i + 1) * 1, none⟩) (l.length - (i + 1)) (c - (i + 1))) (l.drop (i + 1)) := by
      refine Row.part hB1 hes (by omega) (by omega) ?_
      conv => rhs; rw [← htk]
      rw [Nat.mul_one, ← List.drop_drop, List.drop_take]
    obtain ⟨v2, H2, fp2, a2, o2, f2, n2⟩ := own_app (bytes := 8) o1 (all_take hl1 i) r2 (all_drop hl1 (i + 1)) (by omega) (by simp; omega) (by omega)
    refine ⟨v2, H2, fp2, ?_, by rw [List.eraseIdx_eq_take_drop_succ]; exact o2, x1.of_fp f2 n1, fun id hid => ?_⟩
    · have w : IntKind.i64.wrap ((i : Int) + 1) = (i : Int) + 1 := wrap_i64 (by omega) (by omega)
      have c1 : (i : Int) ≤ (c : Int) := by omega
      have c2 : (i : Int) + 1 ≤ (l.length : Int) := by omega
      have c3 : (0 : Int) ≤ (i : Int) + 1 := by omega
      have c4 : ((i : Int) + 1).toNat = i + 1 := by omega
      simp at a1 a2
      obtain ⟨a', n', c', rfl, _⟩ := o1.row.slice
      rw [R_code hf]
      simp [cWithout, mdraw_full, sl_at hB hes, sl_at hB1 hes, c1, c2, c3, c4, w, a1, a2]
    · rcases n2 id hid with h | h
      · exact n1 id h
      · have := x1.len; omega

/-! ### rows of records of whole numbers, as arguments -/
/-- Records of w whole numbers each, in a row that is read alone. -/
def IRow (w : Nat) (H : MH) (v : Value) (l : List (List Int)) : Prop :=
  (v = .slice none 0 0 ∧ l = []) ∨ ∃ b cs, v = .slice (some ⟨b, 0, none⟩) l.length l.length ∧ H[b]? = some (.cells ⟨w, false, false⟩ cs) ∧ cs.length = l.length * w ∧
    ∀ (i : Nat) p, l[i]? = some p → (cs.drop (i * w)).take w = i64s p ∧ p.length = w ∧ ∀ x ∈ p, (Lit.int .i64 x).wf = true
theorem IRow.slice {w : Nat} {H : MH} {v : Value} {l : List (List Int)} (h : IRow w H v l) : ∃ a c, v = .slice a l.length c := by
  rcases h with ⟨rfl, rfl⟩ | ⟨b, cs, rfl, _⟩
  · exact ⟨none, 0, rfl⟩
  · exact ⟨_, _, rfl⟩
theorem rep_ints {H : MH} : ∀ {w : Nat} {ms : List Value} {ds : List D}, RepL H (List.replicate w (.int .i64)) ms ds → ∃ p : List Int, ms = i64s p ∧ p.length = w ∧ ∀ x ∈ p, (Lit.int .i64 x).wf = true
  | 0, ms, ds, h => by
    have := h.ml
    simp at this; subst this
    exact ⟨[], rfl, rfl, by simp⟩
  | w + 1, ms, ds, h => by
    have h1 := h.ml
    have h2 := h.dl
    match ms, ds, h1, h2 with
    | m :: ms, d :: ds, h1, h2 =>
      have h0 := h.at_ 0 (.int .i64) m d (by simp [List.replicate_succ]) rfl rfl
      cases h0
      rename_i n hn
      obtain ⟨p, hp, hl, hw⟩ := rep_ints (w := w) (ms := ms) (ds := ds) ⟨by simpa using h1, by simpa using h2, fun j f v x a b c => h.at_ (j + 1) f v x (by simpa [List.replicate_succ] using a) (by simpa using b) (by simpa using c)⟩
      exact ⟨n :: p, by simp [i64s, hp], by simp [hl], by simpa using ⟨hn, hw⟩⟩
theorem choose_list {α : Type} {n : Nat} {p : Nat → α → Prop} (h : ∀ i, i < n → ∃ x, p i x) : ∃ l : List α, l.length = n ∧ ∀ i x, l[i]? = some x → p i x := by
  induction n with
  | zero => exact ⟨[], rfl, by simp⟩
  | succ n ih =>
    obtain ⟨l, h1, h2⟩ := ih fun i hi => h i (by omega)
    obtain ⟨x, hx⟩ := h n (by omega)
    refine ⟨l ++ [x], by simp [h1], fun i y hy => ?_⟩
    rcases Nat.lt_or_ge i n with hi | hi
    · rw [List.getElem?_append_left (by omega)] at hy; exact h2 i y hy
    · rw [List.getElem?_append_right (by omega)] at hy
      have : i = n := by
        have := (List.getElem?_eq_some_iff.1 hy).1
        simp at this; omega
      subst this
      simp [h1] at hy; subst hy; exact hx
theorem Rep.cells {H : MH} {fs : List Sh} {b n : Nat} {cs : List Value} {ds : List (List D)} (hn : ds.length = n) (hl : cs.length = n * fs.length) (hw : ∀ d ∈ ds, d.length = fs.length)
    (h : ∀ (i j : Nat) d f x v, ds[i]? = some d → fs[j]? = some f → d[j]? = some x → cs[i * fs.length + j]? = some v → Rep H f v x) {i : Nat} {d : List D} (hi : ds[i]? = some d) :
    RepL H fs ((cs.drop (i * fs.length)).take fs.length) d := by
  have hlt := (List.getElem?_eq_some_iff.1 hi).1
  have hm := Nat.mul_le_mul_right fs.length (show i + 1 ≤ n by omega)
  rw [Nat.add_mul] at hm
  refine ⟨by simp; omega, hw d (List.mem_of_getElem? hi), fun j f v x a b c => ?_⟩
  have hj := (List.getElem?_eq_some_iff.1 a).1
  rw [List.getElem?_take_of_lt hj, List.getElem?_drop] at b
  exact h i j d f x v hi a c b
theorem rep_irowm {w : Nat} {H : MH} {v : Value} {d : D} (h : Rep H (.row (List.replicate w (.int .i64))) v d) : ∃ l, IRow w H v l ∧ l.length ≤ maxLen := by
  cases h with
  | nil => exact ⟨[], .inl ⟨rfl, rfl⟩, by simp⟩
  | row hB hn hm hl hw h =>
    rename_i b n cs ds
    simp only [List.length_replicate] at hB hl hw h
    obtain ⟨l, h1, h2⟩ := choose_list (α := List Int) (n := n) (p := fun i p => (cs.drop (i * w)).take w = i64s p ∧ p.length = w ∧ ∀ x ∈ p, (Lit.int .i64 x).wf = true) (fun i hi => by
      have hd : ds[i]? = some ds[i] := List.getElem?_eq_getElem (by omega)
      have := Rep.cells (H := H) (fs := List.replicate w (.int .i64)) (b := b) hn (by simpa using hl) (by simpa using hw) (by simpa using h) hd
      simp only [List.length_replicate] at this
      exact rep_ints this)
    exact ⟨l, .inr ⟨b, cs, by rw [h1], hB, by rw [h1]; exact hl, h2⟩, by rw [h1]; exact hm⟩
theorem rep_irow {w : Nat} {H : MH} {v : Value} {d : D} (h : Rep H (.row (List.replicate w (.int .i64))) v d) : ∃ l, IRow w H v l := by
  obtain ⟨l, h, _⟩ := rep_irowm h; exact ⟨l, h⟩
end Go.Mod
/- Assertions over a model's heap: which objects they speak of, side by side; what a call may turn. -/
set_option linter.unusedVariables false
set_option linter.unusedSimpArgs false
namespace Go.Mod

variable {mp : FuncId → Option MDef}

/-- What is said of a heap, and of which objects. -/
abbrev HP := MH → List Nat → Prop
structure Good (P : HP) : Prop where
  frame : ∀ {H H' : MH} {F : List Nat}, P H F → (∀ id ∈ F, H'[id]? = H[id]?) → P H' F
  lt : ∀ {H : MH} {F : List Nat}, P H F → ∀ id ∈ F, id < H.length
def star (P Q : HP) : HP := fun H F => ∃ A B, P H A ∧ Q H B ∧ (∀ x ∈ A, x ∉ B) ∧ ∀ x, x ∈ F ↔ x ∈ A ∨ x ∈ B
instance starMul : Mul (MH → List Nat → Prop) := ⟨star⟩

/-- Of what was there only objects of F are other ones; F': those of now. -/
structure Upd (H : MH) (F : List Nat) (H' : MH) (F' : List Nat) : Prop where
  len : H.length ≤ H'.length
  same : ∀ id, id < H.length → id ∉ F → H'[id]? = H[id]?
  new : ∀ id ∈ F', id ∈ F ∨ H.length ≤ id
section
variable {H H1 H2 : MH} {F F1 F2 : List Nat} {P Q P' : HP}
theorem Upd.refl (H : MH) (F : List Nat) : Upd H F H F := ⟨Nat.le_refl _, fun _ _ _ => rfl, fun _ h => .inl h⟩
theorem Upd.trans (h : Upd H F H1 F1) (g : Upd H1 F1 H2 F2) : Upd H F H2 F2 := by
  have hl := h.len
  refine ⟨Nat.le_trans h.len g.len, fun id h1 h2 => ?_, fun id hid => ?_⟩
  · rw [g.same id (by omega) fun h3 => ?_, h.same id h1 h2]
    rcases h.new id h3 with h4 | h4
    · exact h2 h4
    · omega
  · rcases g.new id hid with h1 | h1
    · exact h.new id h1
    · exact .inr (by omega)
theorem Upd.of_fp {S : Nat → Prop} (h : Fp S H H1) (hs : ∀ id, id < H.length → S id → id ∈ F) (hn : ∀ id ∈ F1, id ∈ F ∨ H.length ≤ id) : Upd H F H1 F1 := ⟨h.len, fun id h1 h2 => h.same id h1 fun h3 => h2 (hs id h1 h3), hn⟩
theorem Upd.ext (h : Ext H H1) : Upd H F H1 F := Upd.of_fp (Fp.ext h (fun _ => False)) (fun _ _ h => h.elim) fun _ h => .inl h
theorem Upd.get (h : Upd H F H1 F1) {b : Nat} {o : MObj} (hb : H[b]? = some o) (hn : b ∉ F) : H1[b]? = some o := by
  rw [h.same b (List.getElem?_eq_some_iff.1 hb).1 hn]; exact hb
/-- More may be said to turn. -/
theorem Upd.wide (h : Upd H F H1 F1) (hs : ∀ id ∈ F, id ∈ F2) : Upd H F2 H1 F1 := ⟨h.len, fun id h1 h2 => h.same id h1 fun h3 => h2 (hs id h3), fun id h1 => (h.new id h1).imp (hs id) fun h => h⟩

theorem Good.ext (g : Good P) (h : P H F) (e : Ext H H1) : P H1 F := by
  refine g.frame h fun id hid => ?_
  obtain ⟨X, rfl⟩ := e
  exact List.getElem?_append_left (g.lt h id hid)
theorem Good.star (g : Good P) (k : Good Q) : Good (P * Q) := by
  refine ⟨?_, ?_⟩
  · rintro H H' F ⟨A, B, h1, h2, h3, h4⟩ hf
    exact ⟨A, B, g.frame h1 fun id hid => hf id ((h4 id).2 (.inl hid)), k.frame h2 fun id hid => hf id ((h4 id).2 (.inr hid)), h3, h4⟩
  · rintro H F ⟨A, B, h1, h2, h3, h4⟩ id hid
    rcases (h4 id).1 hid with h | h
    · exact g.lt h1 id h
    · exact k.lt h2 id h
theorem Good.ex {ι : Type} {R : ι → HP} (g : ∀ i, Good (R i)) : Good fun H F => ∃ i, R i H F :=
  ⟨fun ⟨i, h⟩ hf => ⟨i, (g i).frame h hf⟩, fun ⟨i, h⟩ => (g i).lt h⟩
theorem Good.and {c : Prop} (g : Good P) : Good fun H F => P H F ∧ c := ⟨fun ⟨h, hc⟩ hf => ⟨g.frame h hf, hc⟩, fun ⟨h, _⟩ => g.lt h⟩
theorem star_comm (h : (P * Q) H F) : (Q * P) H F := by
  obtain ⟨A, B, h1, h2, h3, h4⟩ := h
  exact ⟨B, A, h2, h1, fun x hx hx' => h3 x hx' hx, fun x => (h4 x).trans Or.comm⟩
theorem star_assoc {R : HP} (h : ((P * Q) * R) H F) : (P * (Q * R)) H F := by
  obtain ⟨A, B, ⟨A1, A2, a1, a2, a3, a4⟩, h2, h3, h4⟩ := h
  refine ⟨A1, A2 ++ B, a1, ⟨A2, B, a2, h2, fun x hx => h3 x ((a4 x).2 (.inr hx)), fun x => by simp⟩, fun x hx h => ?_, fun x => ?_⟩
  · rcases List.mem_append.1 h with h | h
    · exact a3 x hx h
    · exact h3 x ((a4 x).2 (.inl hx)) h
  · rw [h4, a4]; simp [or_assoc]
theorem star_assoc' {R : HP} (h : (P * (Q * R)) H F) : ((P * Q) * R) H F := star_comm (star_assoc (star_comm (star_assoc (star_comm h))))
/-- The part on the left, on the right. -/
theorem star_l (h : (P * Q) H F) : ∃ A, P H A ∧ ∀ x ∈ A, x ∈ F := by
  obtain ⟨A, B, h1, h2, h3, h4⟩ := h; exact ⟨A, h1, fun x hx => (h4 x).2 (.inl hx)⟩
theorem star_r (h : (P * Q) H F) : ∃ B, Q H B ∧ ∀ x ∈ B, x ∈ F := star_l (star_comm h)

/-- The frame rule: what turns on the left leaves the right. -/
theorem star_upd {ι : Type} {P' : ι → HP} (k : Good Q) (g : ∀ i, Good (P' i)) (h : (P * Q) H F) {C : ι → MH → Prop} (hx : ∀ A, P H A → (∀ x ∈ A, x ∈ F) → ∃ i H' A', P' i H' A' ∧ Upd H A H' A' ∧ C i H') : ∃ i H' F', (P' i * Q) H' F' ∧ Upd H F H' F' ∧ C i H' := by
  obtain ⟨A, B, h1, h2, h3, h4⟩ := h
  obtain ⟨i, H', A', p, u, c⟩ := hx A h1 fun x hx => (h4 x).2 (.inl hx)
  have hB : ∀ id ∈ B, H'[id]? = H[id]? := fun id hid => u.same id (k.lt h2 id hid) fun hA => h3 id hA hid
  refine ⟨i, H', A' ++ B, ⟨A', B, p, k.frame h2 hB, fun x hx hxB => ?_, fun x => by simp⟩, ⟨u.len, fun id h1 h2 => u.same id h1 fun h => h2 ((h4 id).2 (.inl h)), fun id hid => ?_⟩, c⟩
  · rcases u.new x hx with h | h
    · exact h3 x h hxB
    · have := k.lt h2 x hxB; omega
  · rcases List.mem_append.1 hid with h | h
    · exact (u.new id h).imp (fun h => (h4 id).2 (.inl h)) fun h => h
    · exact .inl ((h4 id).2 (.inr h))

/-! ### pieces -/
def Pt (t : Nat) (i : Info) (cs : List Value) : HP := fun H F => F = [t] ∧ H[t]? = some (.cells i cs)
theorem Pt.good {t : Nat} {i : Info} {cs : List Value} : Good (Pt t i cs) := ⟨fun ⟨h1, h2⟩ hf => ⟨h1, by rw [hf t (by rw [h1]; simp)]; exact h2⟩, fun ⟨h1, h2⟩ id hid => by rw [h1] at hid; simp at hid; subst hid; exact (List.getElem?_eq_some_iff.1 h2).1⟩
def OwnA (es : Nat) (v : Value) (l : List Value) : HP := fun H F => Own es H v l F
theorem OwnA.good {es : Nat} {v : Value} {l : List Value} : Good (OwnA es v l) := ⟨fun h hf => Own.frame h hf, fun h => Own.lt h⟩
/-- A row that somebody else may lead to. -/
def RowA (es : Nat) (v : Value) (l : List Value) : HP := fun H F => Row es H v l ∧ (∀ b o n c, v = .slice (some ⟨b, o, none⟩) n c → b ∈ F) ∧ ∀ id ∈ F, id < H.length ∧ H[id]?.isSome = true
theorem RowA.good {es : Nat} {v : Value} {l : List Value} : Good (RowA es v l) := by
  refine ⟨fun ⟨h1, h2, h3⟩ hf => ⟨Row.frame h1 fun b o n c e => hf b (h2 b o n c e), h2, fun id hid => ?_⟩, fun ⟨_, _, h⟩ id hid => (h id hid).1⟩
  have := (h3 id hid).2
  rw [← hf id hid] at this
  obtain ⟨x, hx⟩ := Option.isSome_iff_exists.1 this
  exact ⟨(List.getElem?_eq_some_iff.1 hx).1, by rw [hx]; rfl⟩
theorem OwnA.row {es : Nat} {v : Value} {l : List Value} (h : OwnA es v l H F) : RowA es v l H F := by
  refine ⟨Own.row h, fun b o n c e => Own.blk h b o n c e, fun id hid => ?_⟩
  have := Own.lt h id hid
  exact ⟨this, by rw [List.getElem?_eq_getElem this]; rfl⟩
def Emp : HP := fun H F => F = []
theorem Emp.good : Good Emp := ⟨fun h _ => h, fun h id hid => by rw [show _ = [] from h] at hid; cases hid⟩

/-- A new object beside what there is. -/
theorem star_new (g : Good P) (h : P H F) (i : Info) (cs : List Value) : (P * Pt H.length i cs) (H ++ [.cells i cs]) (F ++ [H.length]) := by
  refine ⟨F, [H.length], g.ext h ⟨_, rfl⟩, ⟨rfl, by simp⟩, fun x hx h' => ?_, fun x => by simp⟩
  have := g.lt h x hx
  simp at h'; omega
theorem Upd.push {X : MH} {G : List Nat} (h : ∀ id ∈ G, id ∈ F ∨ H.length ≤ id) : Upd H F (H ++ X) G := ⟨by simp, fun id h1 _ => List.getElem?_append_left h1, h⟩
/-- What is at a place. -/
theorem star_at {t : Nat} {i : Info} {cs : List Value} (h : (Pt t i cs * Q) H F) : H[t]? = some (.cells i cs) := by
  obtain ⟨A, ⟨_, h⟩, _⟩ := star_l h; exact h
/-- A place is put. -/
theorem star_put {t : Nat} {i : Info} {cs cs' : List Value} (k : Good Q) (h : (Pt t i cs * Q) H F) : (Pt t i cs' * Q) (H.set t (.cells i cs')) F ∧ Upd H F (H.set t (.cells i cs')) F := by
  obtain ⟨A, B, ⟨rfl, h1⟩, h2, h3, h4⟩ := h
  have hlt := (List.getElem?_eq_some_iff.1 h1).1
  refine ⟨⟨[t], B, ⟨rfl, List.getElem?_set_self hlt⟩, k.frame h2 fun id hid => List.getElem?_set_ne ?_, h3, h4⟩, ⟨by simp, fun id _ hn => List.getElem?_set_ne ?_, fun id h => .inl h⟩⟩
  · rintro rfl; exact h3 t (by simp) hid
  · rintro rfl; exact hn ((h4 t).2 (.inl (by simp)))

/-- An append to a slice of one's own. -/
theorem own_appU {es bytes : Nat} {v y : Value} {l ys : List Value} (h : OwnA es v l H F) (hl : l.all one = true) (hr : Row es H y ys) (hy : ys.all one = true) (hes : 0 < es) (hb : l.length + ys.length ≤ 1000000) (hbytes : bytes ≤ 4096) :
    ∃ v' H' F', meff (.app es bytes) [v, y] H = some (v', H') ∧ OwnA es v' (l ++ ys) H' F' ∧ Upd H F H' F' := by
  obtain ⟨v', H', fp', h1, h2, h3, h4⟩ := own_app (bytes := bytes) h hl hr hy hes hb hbytes
  exact ⟨v', H', fp', h1, h2, Upd.of_fp h3 (fun id _ h => h) h4⟩
/-- One element behind a field's slice of one's own: the row beside, the append, the store. -/
theorem push_field {es bytes k t : Nat} {i : Info} {cs : List Value} {v : Value} {l xs : List Value} (h : (Pt t i cs * OwnA es v l) H F) (hl : l.all one = true) (hx : xs.all one = true) (hxl : xs.length = es) (hes : 0 < es) (hb : l.length + es ≤ 1000000) (hbytes : bytes ≤ 4096) :
    ∃ v' H' F', meff (.app es bytes) [v, .slice (some ⟨H.length, 0, none⟩) 1 1] (H ++ [.cells ⟨es, true, true⟩ xs]) = some (v', H') ∧ H'[t]? = some (.cells i cs) ∧ one v' = true ∧
      (Pt t i (cs.set k v') * OwnA es v' (l ++ xs)) (H'.set t (.cells i (cs.set k v'))) F' ∧ Upd H F (H'.set t (.cells i (cs.set k v'))) F' := by
  have gP := Pt.good (t := t) (i := i) (cs := cs)
  have hg := gP.star (OwnA.good (es := es) (v := v) (l := l))
  have h1 := hg.ext h (H1 := H ++ [.cells ⟨es, true, true⟩ xs]) ⟨_, rfl⟩
  have hr : Row es (H ++ [.cells ⟨es, true, true⟩ xs]) (.slice (some ⟨H.length, 0, none⟩) 1 1) xs := row_new (by omega)
  obtain ⟨v', H', F', p, u, ha⟩ := star_upd (P' := fun v' => OwnA es v' (l ++ xs)) (C := fun v' H' => meff (.app es bytes) [v, .slice (some ⟨H.length, 0, none⟩) 1 1] (H ++ [.cells ⟨es, true, true⟩ xs]) = some (v', H')) gP (fun _ => OwnA.good) (star_comm h1) (fun A hA _ => by
    obtain ⟨v', H', F', a1, a2, a3⟩ := own_appU (bytes := bytes) hA hl hr hx hes (by omega) hbytes
    exact ⟨v', H', F', a2, a3, a1⟩)
  have p' := star_comm p
  obtain ⟨q, u2⟩ := star_put (cs' := cs.set k v') OwnA.good p'
  have hone : one v' = true := by
    obtain ⟨B, hB, _⟩ := star_l p
    rcases hB with ⟨rfl, _⟩ | ⟨b, n, c, cs, rfl, _⟩ <;> rfl
  exact ⟨v', H', F', ha, star_at p', hone, q, ((Upd.push (G := F) fun _ h => .inl h).trans u).trans u2⟩
/-- An element taken out of a field's slice of one's own. -/
theorem del_field {f bytes k t : Nat} {z : Value} (hf : mp f = some (.code (cDelete 1 bytes [z]))) (hz : one z = true) {i : Info} {cs : List Value} {v : Value} {l : List Value} (h : (Pt t i cs * OwnA 1 v l) H F) (hl : l.all one = true) (hb : l.length ≤ 1000000) (hbytes : bytes ≤ 4096) {q : Nat} (hq : q < l.length) :
    ∃ v' H' F', R mp f [v, .int .i64 (q : Int), .int .i64 ((q : Int) + 1)] H = some (v', H') ∧ H'[t]? = some (.cells i cs) ∧ one v' = true ∧
      (Pt t i (cs.set k v') * OwnA 1 v' (l.eraseIdx q)) (H'.set t (.cells i (cs.set k v'))) F' ∧ Upd H F (H'.set t (.cells i (cs.set k v'))) F' := by
  have gP := Pt.good (t := t) (i := i) (cs := cs)
  obtain ⟨v', H', F', p, u, ha⟩ := star_upd (P' := fun v' => OwnA 1 v' (l.eraseIdx q)) (C := fun v' H' => R mp f [v, .int .i64 (q : Int), .int .i64 ((q : Int) + 1)] H = some (v', H')) gP (fun _ => OwnA.good) (star_comm h) (fun A hA _ => by
    obtain ⟨v', H', a1, a2, a3⟩ := R_delete1 (mp := mp) hf hz hA hl hb hbytes hq rfl rfl
    exact ⟨v', H', A, a2, Upd.of_fp a3 (fun _ _ h => h) fun _ h => .inl h, a1⟩)
  have p' := star_comm p
  obtain ⟨q, u2⟩ := star_put (cs' := cs.set k v') OwnA.good p'
  have hone : one v' = true := by
    obtain ⟨B, hB, _⟩ := star_l p
    rcases hB with ⟨rfl, _⟩ | ⟨b, n, c, cs, rfl, _⟩ <;> rfl
  exact ⟨v', H', F', ha, star_at p', hone, q, u.trans u2⟩
theorem i64s_erase (xs : List Int) (q : Nat) : (i64s xs).eraseIdx q = i64s (xs.eraseIdx q) := by simp [i64s, List.eraseIdx_eq_take_drop_succ, List.map_take, List.map_drop]
theorem i64s_snoc (xs : List Int) (x : Int) : i64s xs ++ [.int .i64 x] = i64s (xs ++ [x]) := by simp [i64s]
/-- Where a number first stands. -/
theorem first_at {x : Int} {ids : List Int} (hm : x ∈ ids) : ∃ q : Nat, ids[q]? = some x ∧ (∀ j, j < q → ids[j]? ≠ some x) ∧ q < ids.length := by
  have h1 : ids.findIdx? (fun y => x == y) ≠ none := by
    intro e
    rw [List.findIdx?_eq_none_iff] at e
    have := e x hm
    simp at this
  obtain ⟨q, hq⟩ := Option.ne_none_iff_exists'.1 h1
  rw [List.findIdx?_eq_some_iff_getElem] at hq
  obtain ⟨hlt, e1, e2⟩ := hq
  refine ⟨q, by rw [List.getElem?_eq_getElem hlt]; simp at e1; rw [e1], fun j hj => ?_, hlt⟩
  have := e2 j hj
  rw [List.getElem?_eq_getElem (by omega)]
  simp at this ⊢
  exact fun e => this e.symm

/-! ### more of side by side -/
theorem star_imp {Q' : HP} (h : (P * Q) H F) (hx : ∀ B, Q H B → Q' H B) : (P * Q') H F := by
  obtain ⟨A, B, h1, h2, h3, h4⟩ := h; exact ⟨A, B, h1, hx B h2, h3, h4⟩
theorem star_rcomm {R : HP} (h : ((P * Q) * R) H F) : ((P * R) * Q) H F := by
  obtain ⟨A, B, ⟨A1, A2, a1, a2, a3, a4⟩, h2, h3, h4⟩ := h
  refine ⟨A1 ++ B, A2, ⟨A1, B, a1, h2, fun x hx => h3 x ((a4 x).2 (.inl hx)), fun x => by simp⟩, a2, fun x hx h => ?_, fun x => ?_⟩
  · rcases List.mem_append.1 hx with h' | h'
    · exact a3 x h' h
    · exact h3 x ((a4 x).2 (.inr h)) h'
  · rw [h4, a4]; simp [or_assoc, or_comm, or_left_comm]
/-- The right part is another one, all new. -/
theorem star_swap {Q' : HP} {G : List Nat} (g : Good P) (h : (P * Q) H F) (e : Ext H H1) (hq : Q' H1 G) (hG : ∀ id ∈ G, H.length ≤ id) : ∃ F1, (P * Q') H1 F1 ∧ Upd H F H1 F1 := by
  obtain ⟨A, B, h1, h2, h3, h4⟩ := h
  refine ⟨A ++ G, ⟨A, G, g.ext h1 e, hq, fun x hx hg => ?_, fun x => by simp⟩, Upd.of_fp (Fp.ext e (fun _ => False)) (fun _ _ h => h.elim) fun id hid => ?_⟩
  · have := g.lt h1 x hx; have := hG x hg; omega
  · rcases List.mem_append.1 hid with h | h
    · exact .inl ((h4 id).2 (.inl h))
    · exact .inr (hG id h)
theorem star_put2 {R : HP} {t : Nat} {i : Info} {cs cs' : List Value} (k : Good Q) (r : Good R) (h : ((Pt t i cs * Q) * R) H F) : ((Pt t i cs' * Q) * R) (H.set t (.cells i cs')) F ∧ Upd H F (H.set t (.cells i cs')) F := by
  obtain ⟨p, u⟩ := star_put (cs' := cs') (k.star r) (star_assoc h)
  exact ⟨star_assoc' p, u⟩
theorem star_at2 {R : HP} {t : Nat} {i : Info} {cs : List Value} (h : ((Pt t i cs * Q) * R) H F) : H[t]? = some (.cells i cs) := by
  obtain ⟨A, hA, _⟩ := star_l h; exact star_at hA
/-- A row's first one and the others. -/
theorem RowA.tail {x : Value} {l : List Value} {v : Value} (h : RowA 1 v (x :: l) H F) : ∃ b o n c i cs, v = .slice (some ⟨b, o, none⟩) (n + 1) c ∧ n = l.length ∧ n + 1 ≤ c ∧ H[b]? = some (.cells i cs) ∧ i.es = 1 ∧ cs[o]? = some x ∧ RowA 1 (.slice (some ⟨b, o + 1, none⟩) n (c - 1)) l H F := by
  obtain ⟨h1, h2, h3⟩ := h
  rcases h1 with ⟨_, h⟩ | ⟨b, o, n, c, i, cs, rfl, hnc, hB, hes, hlc, htk⟩
  · cases h
  · simp only [Nat.mul_one] at hlc htk
    have hn : n = l.length + 1 := by
      have := congrArg List.length htk
      simp at this; omega
    subst hn
    refine ⟨b, o, l.length, c, i, cs, rfl, rfl, hnc, hB, hes, ?_, ?_, fun b' o' n' c' e => by cases e; exact h2 _ _ _ _ rfl, h3⟩
    · have := congrArg (fun l => l[0]?) htk
      simpa using this
    · refine Row.part hB hes (by omega) (by omega) ?_
      rw [← List.drop_drop]
      have := congrArg (List.drop 1) htk
      rw [List.drop_take] at this
      simpa using this
/-- A row of one's own with one more behind: append(append(nil, l...), x). -/
theorem own_snoc {bytes : Nat} {v : Value} {l : List Value} {x : Value} (hr : Row 1 H v l) (hl : l.all one = true) (hx : one x = true) (hb : l.length ≤ 400000) (hbytes : bytes ≤ 4096) :
    ∃ v1 H1 v2 H2 G, meff (.app 1 bytes) [.slice none 0 0, v] H = some (v1, H1) ∧ meff (.app 1 bytes) [v1, .slice (some ⟨H1.length, 0, none⟩) 1 1] (H1 ++ [.cells ⟨1, true, true⟩ [x]]) = some (v2, H2) ∧ one v2 = true ∧ OwnA 1 v2 (l ++ [x]) H2 G ∧ Ext H H2 ∧ ∀ id ∈ G, H.length ≤ id := by
  obtain ⟨v1, H1, fp1, a1, o1, x1, n1⟩ := own_new (bytes := bytes) hr hl (by omega) (by omega) hbytes
  have x2 : Ext H1 (H1 ++ [.cells ⟨1, true, true⟩ [x]]) := ⟨_, rfl⟩
  have r2 : Row 1 (H1 ++ [.cells ⟨1, true, true⟩ [x]]) (.slice (some ⟨H1.length, 0, none⟩) 1 1) [x] := row_new rfl
  obtain ⟨v3, H3, fp3, a3, o3, f3, n3⟩ := own_app (bytes := bytes) (o1.ext x2) hl r2 (by simp [hx]) (by omega) (by simp; omega) hbytes
  have hone : one v3 = true := by rcases o3 with ⟨rfl, _⟩ | ⟨b, n, c, cs, rfl, _⟩ <;> rfl
  refine ⟨v1, H1, v3, H3, fp3, a1, a3, hone, o3, (x1.trans x2).of_fp f3 n1, fun id hid => ?_⟩
  rcases n3 id hid with h | h
  · exact n1 id h
  · have := x1.len; simp at h; omega

/-! ### stores, as the code does them: the heap behind has a name of its own -/
theorem fld_put {t : Nat} {i : Info} {cs : List Value} (k : Good Q) (h : (Pt t i cs * Q) H F) (hrw : i.rw = true) {n : Nat} (hn : n < cs.length) {v : Value} (hv : one v = true) :
    ∃ H', meff (.st 1) [.pointer (some ⟨t, n, none⟩), v] H = some (.tuple #[], H') ∧ (Pt t i (cs.set n v) * Q) H' F ∧ Upd H F H' F := by
  obtain ⟨p, u⟩ := star_put (cs' := cs.set n v) k h
  exact ⟨_, st_at (star_at h) hrw n v hv hn, p, u⟩
theorem fld_put2 {R : HP} {t : Nat} {i : Info} {cs : List Value} (k : Good Q) (r : Good R) (h : ((Pt t i cs * Q) * R) H F) (hrw : i.rw = true) {n : Nat} (hn : n < cs.length) {v : Value} (hv : one v = true) :
    ∃ H', meff (.st 1) [.pointer (some ⟨t, n, none⟩), v] H = some (.tuple #[], H') ∧ ((Pt t i (cs.set n v) * Q) * R) H' F ∧ Upd H F H' F := by
  obtain ⟨H', e, p, u⟩ := fld_put (k.star r) (star_assoc h) hrw hn hv
  exact ⟨H', e, star_assoc' p, u⟩
theorem push_fld {es bytes k t : Nat} {i : Info} {cs : List Value} {v : Value} {l xs : List Value} (h : (Pt t i cs * OwnA es v l) H F) (hrw : i.rw = true) (hk : k < cs.length) (hl : l.all one = true) (hx : xs.all one = true) (hxl : xs.length = es) (hes : 0 < es) (hb : l.length + es ≤ 1000000) (hbytes : bytes ≤ 4096) :
    ∃ v' H1 H' F', meff (.app es bytes) [v, .slice (some ⟨H.length, 0, none⟩) 1 1] (H ++ [.cells ⟨es, true, true⟩ xs]) = some (v', H1) ∧ meff (.st 1) [.pointer (some ⟨t, k, none⟩), v'] H1 = some (.tuple #[], H') ∧
      (Pt t i (cs.set k v') * OwnA es v' (l ++ xs)) H' F' ∧ Upd H F H' F' := by
  obtain ⟨v', H1, F', a1, a2, a3, a4, a5⟩ := push_field (bytes := bytes) (k := k) h hl hx hxl hes hb hbytes
  exact ⟨v', H1, _, F', a1, st_at a2 hrw k v' a3 hk, a4, a5⟩
theorem push_fld2 {es bytes k t : Nat} {i : Info} {cs : List Value} {v : Value} {l xs : List Value} {R : HP} (r : Good R) (h : ((Pt t i cs * OwnA es v l) * R) H F) (hrw : i.rw = true) (hk : k < cs.length) (hl : l.all one = true) (hx : xs.all one = true) (hxl : xs.length = es) (hes : 0 < es) (hb : l.length + es ≤ 1000000) (hbytes : bytes ≤ 4096) :
    ∃ v' H1 H' F', meff (.app es bytes) [v, .slice (some ⟨H.length, 0, none⟩) 1 1] (H ++ [.cells ⟨es, true, true⟩ xs]) = some (v', H1) ∧ meff (.st 1) [.pointer (some ⟨t, k, none⟩), v'] H1 = some (.tuple #[], H') ∧
      ((Pt t i (cs.set k v') * OwnA es v' (l ++ xs)) * R) H' F' ∧ Upd H F H' F' := by
  obtain ⟨v', H', F', p, u, H1, a1, a2⟩ := star_upd (P' := fun v' => Pt t i (cs.set k v') * OwnA es v' (l ++ xs)) (C := fun v' H' => ∃ H1, meff (.app es bytes) [v, .slice (some ⟨H.length, 0, none⟩) 1 1] (H ++ [.cells ⟨es, true, true⟩ xs]) = some (v', H1) ∧ meff (.st 1) [.pointer (some ⟨t, k, none⟩), v'] H1 = some (.tuple #[], H')) r (fun _ => Pt.good.star OwnA.good) h (fun A hA _ => by
    obtain ⟨v', H1, H', F', a1, a2, a3, a4⟩ := push_fld (bytes := bytes) (k := k) hA hrw hk hl hx hxl hes hb hbytes
    exact ⟨v', H', F', a3, a4, H1, a1, a2⟩)
  exact ⟨v', H1, H', F', a1, a2, p, u⟩
theorem del_fld2 {f : FuncId} {bytes k t : Nat} {z : Value} (hf : mp f = some (.code (cDelete 1 bytes [z]))) (hz : one z = true) {i : Info} {cs : List Value} {v : Value} {l : List Value} {S : HP} (r : Good S) (h : ((Pt t i cs * OwnA 1 v l) * S) H F) (hrw : i.rw = true) (hk : k < cs.length) (hl : l.all one = true) (hb : l.length ≤ 1000000) (hbytes : bytes ≤ 4096) {q : Nat} (hq : q < l.length) :
    ∃ v' H1 H' F', R mp f [v, .int .i64 (q : Int), .int .i64 ((q : Int) + 1)] H = some (v', H1) ∧ meff (.st 1) [.pointer (some ⟨t, k, none⟩), v'] H1 = some (.tuple #[], H') ∧
      ((Pt t i (cs.set k v') * OwnA 1 v' (l.eraseIdx q)) * S) H' F' ∧ Upd H F H' F' := by
  obtain ⟨v', H', F', p, u, H1, a1, a2⟩ := star_upd (P' := fun v' => Pt t i (cs.set k v') * OwnA 1 v' (l.eraseIdx q)) (C := fun v' H' => ∃ H1, R mp f [v, .int .i64 (q : Int), .int .i64 ((q : Int) + 1)] H = some (v', H1) ∧ meff (.st 1) [.pointer (some ⟨t, k, none⟩), v'] H1 = some (.tuple #[], H')) r (fun _ => Pt.good.star OwnA.good) h (fun A hA _ => by
    obtain ⟨v', H1, F', a1, a2, a3, a4, a5⟩ := del_field (mp := mp) (k := k) hf hz hA hl hb hbytes hq
    exact ⟨v', _, F', a4, a5, H1, a1, st_at a2 hrw k v' a3 hk⟩)
  exact ⟨v', H1, H', F', a1, a2, p, u⟩

/-! ### rows of records of whole numbers -/
def recs (ps : List (List Int)) : List Value := ps.flatMap i64s
theorem recs_len {w : Nat} : ∀ {ps : List (List Int)}, (∀ p ∈ ps, p.length = w) → (recs ps).length = ps.length * w
  | [], _ => by simp [recs]
  | p :: ps, h => by
    have := recs_len (ps := ps) fun q hq => h q (by simp [hq])
    simp only [recs, List.flatMap_cons, List.length_append, i64s_len] at this ⊢
    rw [this, h p (by simp), List.length_cons, Nat.add_mul]; omega
theorem recs_one (ps : List (List Int)) : (recs ps).all one = true := by
  rw [List.all_eq_true]
  intro x hx
  obtain ⟨p, _, hp⟩ := List.mem_flatMap.1 hx
  exact List.all_eq_true.1 (i64s_one p) x hp
theorem recs_at {w : Nat} : ∀ {ps : List (List Int)} {k : Nat} {p : List Int}, (∀ p ∈ ps, p.length = w) → ps[k]? = some p → ((recs ps).drop (k * w)).take w = i64s p
  | [], k, p, _, hk => by simp at hk
  | q :: ps, 0, p, h, hk => by
    simp at hk; subst hk
    have := h q (by simp)
    simp only [recs, List.flatMap_cons, Nat.zero_mul, List.drop_zero]
    rw [List.take_left']; rw [i64s_len, this]
  | q :: ps, k + 1, p, h, hk => by
    have ih := recs_at (w := w) (ps := ps) (k := k) (fun q hq => h q (by simp [hq])) (by simpa using hk)
    have := h q (by simp)
    simp only [recs, List.flatMap_cons] at ih ⊢
    rw [show (k + 1) * w = (i64s q).length + k * w by rw [i64s_len, this, Nat.add_mul]; omega, ← List.drop_drop, List.drop_left']
    · exact ih
    · rfl
/-- A record of a row. -/
theorem Row.rec_ {w : Nat} {a : Option Addr} {n c k : Nat} {ps : List (List Int)} {p : List Int} (h : Row w H (.slice a n c) (recs ps)) (hw : ∀ p ∈ ps, p.length = w) (hw0 : 0 < w) (hk : ps[k]? = some p) :
    n = ps.length ∧ ∃ b o j cs, a = some ⟨b, o, none⟩ ∧ H[b]? = some (.cells j cs) ∧ j.es = w ∧ o + k * w + w ≤ cs.length ∧ (cs.drop (o + k * w)).take w = i64s p ∧ ∀ (m : Nat) x, p[m]? = some x → cs[o + k * w + m]? = some (.int .i64 x) := by
  have hkl := (List.getElem?_eq_some_iff.1 hk).1
  have hl := recs_len hw
  rcases h with ⟨h1, h2⟩ | ⟨b, o, m, d, i, cs, h1, h2, h3, h4, h5, h6⟩
  · rw [h2] at hl
    have := Nat.mul_le_mul_right w (show 1 ≤ ps.length by omega)
    simp at hl; omega
  · cases h1
    have hn : n * w = ps.length * w := by rw [← hl, ← h6]; simp; omega
    have hn' : n = ps.length := Nat.eq_of_mul_eq_mul_right hw0 hn
    have hm := Nat.mul_le_mul_right w (show k + 1 ≤ n by omega)
    rw [Nat.add_mul] at hm
    have hat : (cs.drop (o + k * w)).take w = i64s p := by
      have := recs_at hw hk
      rw [← h6, List.drop_take, List.take_take, List.drop_drop, Nat.min_eq_left (by omega)] at this
      exact this
    refine ⟨hn', b, o, i, cs, rfl, h3, h4, by omega, hat, fun m x hx => ?_⟩
    have hp := hw p (List.mem_of_getElem? hk)
    have hml := (List.getElem?_eq_some_iff.1 hx).1
    have := i64s_get hx
    rw [← hat, List.getElem?_take, if_pos (by omega), List.getElem?_drop] at this
    exact this
theorem Row.recn {w : Nat} {a : Option Addr} {n c : Nat} {ps : List (List Int)} (h : Row w H (.slice a n c) (recs ps)) (hw : ∀ p ∈ ps, p.length = w) (hw0 : 0 < w) : n = ps.length := by
  obtain ⟨a', n', c', e, hl⟩ := h.slice
  cases e
  rw [recs_len hw] at hl
  exact Nat.eq_of_mul_eq_mul_right hw0 hl
theorem IRow.row {w : Nat} {v : Value} {l : List (List Int)} (h : IRow w H v l) : Row w H v (recs l) ∧ ∀ p ∈ l, p.length = w := by
  rcases h with ⟨rfl, rfl⟩ | ⟨b, cs, rfl, hB, hl, hc⟩
  · exact ⟨.inl ⟨rfl, rfl⟩, by simp⟩
  · have hw : ∀ p ∈ l, p.length = w := fun p hp => by
      obtain ⟨i, hi⟩ := List.mem_iff_getElem?.1 hp
      exact (hc i p hi).2.1
    refine ⟨.inr ⟨b, 0, l.length, l.length, _, cs, rfl, Nat.le_refl _, hB, rfl, by omega, ?_⟩, hw⟩
    rw [List.drop_zero, ← hl, List.take_length]
    apply List.ext_getElem?
    intro q
    have hrl := recs_len hw
    by_cases hq : q < l.length * w
    · have hw0 : 0 < w := by
        rcases Nat.eq_zero_or_pos w with h | h
        · subst h; simp at hq
        · exact h
      have hkl : q / w < l.length := (Nat.div_lt_iff_lt_mul hw0).2 hq
      have hmod := Nat.mod_lt q hw0
      have e := Nat.div_add_mod q w
      rw [Nat.mul_comm] at e
      have h1 := (hc (q / w) _ (List.getElem?_eq_getElem hkl)).1
      have h2 := recs_at hw (List.getElem?_eq_getElem hkl)
      have h3 := congrArg (fun l => l[q % w]?) (h1.trans h2.symm)
      simp only [List.getElem?_take, if_pos hmod, List.getElem?_drop] at h3
      rw [e] at h3; exact h3
    · rw [List.getElem?_eq_none (by omega), List.getElem?_eq_none (by omega)]
/-- A row that nothing of F holds. -/
def Stay (es : Nat) (v : Value) (l : List Value) (H : MH) (F : List Nat) : Prop := Row es H v l ∧ ∀ b o n c, v = .slice (some ⟨b, o, none⟩) n c → b ∉ F
theorem Stay.upd {es : Nat} {v : Value} {l : List Value} (h : Stay es v l H F) (u : Upd H F H1 F1) : Stay es v l H1 F1 := by
  have hlt : ∀ b o n c, v = .slice (some ⟨b, o, none⟩) n c → b < H.length := fun b o n c e => by
    rcases h.1 with ⟨h1, _⟩ | ⟨b', o', n', c', i, cs, h1, _, h3, _⟩
    · rw [h1] at e; cases e
    · rw [h1] at e; cases e; exact (List.getElem?_eq_some_iff.1 h3).1
  refine ⟨h.1.frame fun b o n c e => u.same b (hlt b o n c e) (h.2 b o n c e), fun b o n c e hb => ?_⟩
  rcases u.new b hb with h' | h'
  · exact h.2 b o n c e h'
  · have := hlt b o n c e; omega
theorem Stay.ext {es : Nat} {v : Value} {l : List Value} (h : Stay es v l H F) (e : Ext H H1) : Stay es v l H1 F := h.upd (Upd.ext e)

/-- slices.Clone: a row of its own. -/
theorem R_cloneF {f : FuncId} {es bytes : Nat} {z : List Value} (hf : mp f = some (.code (cClone es bytes z))) (hz : z.length = es) (hes : 0 < es) (hbytes : bytes ≤ 4096) {v : Value} {l : List Value} (hr : Row es H v l) (hl : l.all one = true) (hn : l.length ≤ 1000000) :
    ∃ v' H' G, R mp f [v] H = some (v', H') ∧ RowA es v' l H' G ∧ Ext H H' ∧ (∀ id ∈ G, H.length ≤ id) ∧ ∃ a n c, v' = .slice a n c := by
  obtain ⟨a, n, c, rfl, hlen⟩ := hr.slice
  rcases hr with ⟨h1, h2⟩ | ⟨b, o, m, d, i, cs, h1, h2, h3, h4, h5, h6⟩
  · cases h1; subst h2
    refine ⟨.slice none 0 0, H, [], ?_, ⟨.inl ⟨rfl, rfl⟩, by simp, by simp⟩, Ext.refl H, by simp, _, _, _, rfl⟩
    rw [R_code hf]
    simp [cClone]
  · cases h1
    have hr : Row es H (.slice (some ⟨b, o, none⟩) n c) l := .inr ⟨b, o, n, c, i, cs, rfl, h2, h3, h4, h5, h6⟩
    have hr1 : Row es (H ++ [.cells ⟨es, true, true⟩ []]) (.slice (some ⟨b, o, none⟩) n c) l := hr.app
    have hg : (H ++ [MObj.cells ⟨es, true, true⟩ []])[H.length]? = some (.cells ⟨es, true, true⟩ []) := by simp
    have hnl : n ≤ l.length := by
      rw [← hlen]; exact Nat.le_mul_of_pos_right n hes
    by_cases h0 : n = 0
    · subst h0
      have happ := app_zero (es := es) (bytes := bytes) (H := H ++ [.cells ⟨es, true, true⟩ []]) (a := some ⟨H.length, 0, none⟩) (len := 0) (cap := 0) (y := .slice (some ⟨b, o, none⟩) 0 c) (ys := l) (by simp) (by rintro x hx; cases hx; exact ⟨_, _, rfl, hg⟩) hr1.src
      have hl0 : l = [] := List.eq_nil_of_length_eq_zero (by omega)
      refine ⟨_, H ++ [.cells ⟨es, true, true⟩ []], [H.length], ?_, ⟨.inr ⟨H.length, 0, 0, 0, _, _, rfl, by omega, hg, rfl, by simp, by simp [hl0]⟩, fun b' o' n' c' e => by cases e; simp, fun id hid => by simp at hid; subst hid; exact ⟨by simp, by rw [hg]; rfl⟩⟩, ⟨_, rfl⟩, by simp, _, _, _, rfl⟩
      rw [R_code hf]
      simp [cClone, happ, hz]
    · have happ := app_ex (bytes := bytes) (len := 0) (cap := 0) (o := 0) hg hr1.src h0 rfl (by omega) (by omega) (by omega) (by omega) rfl (by simp) hl
      have hg2 : (H ++ ([MObj.cells ⟨es, true, true⟩ []] ++ [.cells ⟨es, true, false⟩ l]))[H.length + 1]? = some (.cells ⟨es, true, false⟩ l) := by simp
      refine ⟨.slice (some ⟨H.length + 1, 0, none⟩) n n, H ++ ([.cells ⟨es, true, true⟩ []] ++ [.cells ⟨es, true, false⟩ l]), [H.length + 1], ?_, ⟨.inr ⟨H.length + 1, 0, n, n, ⟨es, true, false⟩, l, rfl, Nat.le_refl _, hg2, rfl, by omega, by rw [List.drop_zero, hlen, List.take_length]⟩, fun b' o' n' c' e => by cases e; simp, fun id hid => by simp at hid; subst hid; exact ⟨by simp, by rw [hg2]; rfl⟩⟩, ⟨_, rfl⟩, by simp, _, _, _, rfl⟩
      rw [R_code hf]
      simp [cClone, happ, hz]
end
end Go.Mod

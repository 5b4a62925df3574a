/- Places in order, rows of pairs: pure facts; channels that nobody else has. -/
import Derived.Test.YtpdkmcnoidbjoaaLib7
set_option linter.unusedVariables false
set_option linter.unusedSimpArgs false
namespace Go.Mod

/-- Where one of this key goes: behind all whose key isn't greater. -/
def posR (k : Int) (ps : List (Int × Int)) : Nat := ps.findIdx fun p => decide (k < p.1)
theorem posR_le (k : Int) (ps : List (Int × Int)) : posR k ps ≤ ps.length := List.findIdx_le_length
theorem posR_of {k : Int} {ps : List (Int × Int)} {q : Nat} (h1 : q ≤ ps.length) (h2 : ∀ j p, j < q → ps[j]? = some p → p.1 ≤ k) (h3 : ∀ p, ps[q]? = some p → k < p.1) : posR k ps = q := by
  unfold posR
  rcases Nat.lt_or_ge q ps.length with h | h
  · rw [List.findIdx_eq h]
    refine ⟨by simpa using h3 _ (List.getElem?_eq_getElem h), fun j hj => ?_⟩
    have := h2 j _ hj (List.getElem?_eq_getElem (by omega))
    simp; omega
  · have : q = ps.length := by omega
    subst this
    rw [List.findIdx_eq_length]
    intro p hp
    obtain ⟨j, hj⟩ := List.mem_iff_getElem?.1 hp
    have := h2 j p (List.getElem?_eq_some_iff.1 hj).1 hj
    simp; omega
/-- The ids. -/
def idsR (ps : List (Int × Int)) : List Int := ps.map (·.2)
theorem idsR_len (ps : List (Int × Int)) : (idsR ps).length = ps.length := by simp [idsR]
def u8s (xs : List Int) : List Value := xs.map fun n => .int .u8 n
theorem u8s_len (xs : List Int) : (u8s xs).length = xs.length := by simp [u8s]
/-- A row of bytes. -/
theorem Row.u8 {H : MH} {a : Option Addr} {n c : Nat} {xs : List Int} (h : Row 1 H (.slice a n c) (u8s xs)) (h0 : 0 < xs.length) :
    ∃ b o j cs, a = some ⟨b, o, none⟩ ∧ H[b]? = some (.cells j cs) ∧ ∀ k x, xs[k]? = some x → cs[o + k]? = some (.int .u8 x) := by
  rcases h with ⟨_, h2⟩ | ⟨b, o, m, d, j, cs, h1, h2, h3, h4, h5, h6⟩
  · rw [← u8s_len, h2] at h0; simp at h0
  · cases h1
    refine ⟨b, o, j, cs, rfl, h3, fun k x hk => ?_⟩
    have hkl := (List.getElem?_eq_some_iff.1 hk).1
    have hl : (u8s xs).length ≤ n * 1 := by rw [← h6, List.length_take]; omega
    rw [u8s_len] at hl
    have : (u8s xs)[k]? = some (.int .u8 x) := by simp [u8s, hk]
    rw [← h6, List.getElem?_take_of_lt (by omega), List.getElem?_drop] at this
    exact this
theorem Row.u8n {H : MH} {a : Option Addr} {n c : Nat} {xs : List Int} (h : Row 1 H (.slice a n c) (u8s xs)) : n = xs.length := by
  obtain ⟨a', n', c', e, hl⟩ := h.slice
  cases e
  rw [u8s_len] at hl; omega
def lexR (a b : Int × Int) : Prop := a.1 < b.1 ∨ (a.1 = b.1 ∧ a.2 < b.2)
theorem posR_lt {k : Int} {ps : List (Int × Int)} {j : Nat} {p : Int × Int} (h : j < posR k ps) (hp : ps[j]? = some p) : p.1 ≤ k := by
  have h1 := List.not_of_lt_findIdx h
  have h2 := (List.getElem?_eq_some_iff.1 hp).2
  rw [← h2]
  simp at h1
  exact h1
theorem posR_at {k : Int} {ps : List (Int × Int)} {p : Int × Int} (hp : ps[posR k ps]? = some p) : k < p.1 := by
  obtain ⟨hlt, h2⟩ := List.getElem?_eq_some_iff.1 hp
  have h3 : decide (k < (ps[posR k ps]).1) = true := List.findIdx_getElem (p := fun p : Int × Int => decide (k < p.1)) (w := hlt)
  rw [← h2]
  exact of_decide_eq_true h3
theorem mem_putAt {ps : List (Int × Int)} {j : Nat} {p q : Int × Int} : p ∈ putAt ps j q ↔ p = q ∨ p ∈ ps := by
  unfold putAt
  conv => rhs; rw [← List.take_append_drop j ps]
  simp only [List.mem_append, List.mem_cons]
  constructor
  · rintro (h | h | h)
    · exact .inr (.inl h)
    · exact .inl h
    · exact .inr (.inr h)
  · rintro (h | h | h)
    · exact .inr (.inl h)
    · exact .inl h
    · exact .inr (.inr h)
theorem put_sorted {ps : List (Int × Int)} (h : ps.Pairwise lexR) {k d : Int} (hd : ∀ p ∈ ps, p.2 < d) : (putAt ps (posR k ps) (k, d)).Pairwise lexR := by
  unfold putAt
  have hs := h
  rw [← List.take_append_drop (posR k ps) ps, List.pairwise_append] at h
  obtain ⟨h1, h2, h3⟩ := h
  have hlo : ∀ a ∈ ps.take (posR k ps), a.1 ≤ k := fun a ha => by
    obtain ⟨j, hj⟩ := List.mem_iff_getElem?.1 ha
    have hjl := (List.getElem?_eq_some_iff.1 hj).1
    rw [List.length_take] at hjl
    rw [List.getElem?_take_of_lt (by omega)] at hj
    exact posR_lt (by omega) hj
  have hhi : ∀ b ∈ ps.drop (posR k ps), k < b.1 := fun b hb => by
    obtain ⟨j, hj⟩ := List.mem_iff_getElem?.1 hb
    rw [List.getElem?_drop] at hj
    have hjl := (List.getElem?_eq_some_iff.1 hj).1
    have hq := posR_at (k := k) (List.getElem?_eq_getElem (l := ps) (i := posR k ps) (by omega))
    rcases Nat.eq_zero_or_pos j with h0 | h0
    · subst h0
      exact posR_at hj
    · have := List.pairwise_iff_getElem.1 hs (posR k ps) (posR k ps + j) (by omega) hjl (by omega)
      rw [(List.getElem?_eq_some_iff.1 hj).2] at this
      rcases this with h | ⟨h, _⟩ <;> omega
  rw [List.pairwise_append, List.pairwise_cons]
  refine ⟨h1, ⟨fun b hb => .inl (hhi b hb), h2⟩, fun a ha b hb => ?_⟩
  rcases List.mem_cons.1 hb with rfl | hb
  · have := hlo a ha
    have := hd a (List.mem_of_mem_take ha)
    simp only [lexR]
    omega
  · exact h3 a ha b hb
/-- The keys are those of the first ones. -/
def KeysR (f : Int → Int) (xs : List Int) (m : Nat) (ps : List (Int × Int)) : Prop := ∀ p ∈ ps, ∃ (n : Nat) (x : Int), n < m ∧ p.2 = (n : Int) ∧ xs[n]? = some x ∧ p.1 = f x
theorem KeysR.put {f : Int → Int} {xs : List Int} {m : Nat} {ps : List (Int × Int)} (h : KeysR f xs m ps) {x : Int} (hx : xs[m]? = some x) (j : Nat) : KeysR f xs (m + 1) (putAt ps j (f x, (m : Int))) := by
  intro p hp
  rcases mem_putAt.1 hp with rfl | hp
  · exact ⟨m, x, by omega, rfl, hx, rfl⟩
  · obtain ⟨n, y, h1, h2, h3, h4⟩ := h p hp
    exact ⟨n, y, by omega, h2, h3, h4⟩
theorem KeysR.lt {f : Int → Int} {xs : List Int} {m : Nat} {ps : List (Int × Int)} (h : KeysR f xs m ps) : ∀ p ∈ ps, p.2 < (m : Int) := fun p hp => by
  obtain ⟨n, y, h1, h2, h3, h4⟩ := h p hp
  omega
theorem Row.i64 {H : MH} {a : Option Addr} {n c k : Nat} {l : List Int} {y : Int} (h : Row 1 H (.slice a n c) (i64s l)) (hy : l[k]? = some y) :
    k < n ∧ ∃ b o j cs, a = some ⟨b, o, none⟩ ∧ H[b]? = some (.cells j cs) ∧ cs[o + k]? = some (.int .i64 y) := by
  have hk := (List.getElem?_eq_some_iff.1 hy).1
  obtain ⟨a', n', c', e, hl⟩ := h.slice
  cases e
  rw [i64s_len] at hl
  obtain ⟨b, o, j, cs, rfl, hB, _, hat⟩ := h.at (k := k) (by omega)
  exact ⟨by omega, b, o, j, cs, rfl, hB, by rw [hat]; exact i64s_get hy⟩
theorem Row.i64n {H : MH} {a : Option Addr} {n c : Nat} {l : List Int} (h : Row 1 H (.slice a n c) (i64s l)) : n = l.length := by
  obtain ⟨a', n', c', e, hl⟩ := h.slice
  cases e
  rw [i64s_len] at hl; omega
theorem stay_new {H H1 : MH} {a : Option Addr} {n c : Nat} {l : List Value} {es : Nat} (hr : Row es H (.slice a n c) l) (x1 : Ext H H1) : Stay es (.slice a n c) l H1 [H.length] := by
  refine ⟨x1.row hr, fun b o n' c' e hb => ?_⟩
  simp at hb
  rcases hr with ⟨h1, _⟩ | ⟨b', o', m', d', j', cs', h1, _, h3, _⟩
  · rw [h1] at e; cases e
  · rw [h1] at e; cases e
    have := (List.getElem?_eq_some_iff.1 h3).1
    omega
theorem posR_nil {k : Int} : posR k [] = 0 := rfl
theorem posR_cons {k : Int} {e : Int × Int} {l : List (Int × Int)} : posR k (e :: l) = if k < e.1 then 0 else posR k l + 1 := by
  unfold posR
  rw [List.findIdx_cons]
  by_cases h : k < e.1
  · simp [h]
  · simp [h]
theorem putAt_zero {l : List (Int × Int)} {p : Int × Int} : putAt l 0 p = p :: l := rfl
theorem putAt_succ {e : Int × Int} {l : List (Int × Int)} {j : Nat} {p : Int × Int} : putAt (e :: l) (j + 1) p = e :: putAt l j p := rfl
theorem putAt_end {l : List (Int × Int)} {p : Int × Int} : putAt l l.length p = l ++ [p] := by simp [putAt]
theorem drop_cons {ps rest : List (Int × Int)} {e : Int × Int} {i : Nat} (h : ps.drop i = e :: rest) : ps[i]? = some e ∧ ps.drop (i + 1) = rest ∧ i < ps.length := by
  have h1 : ps[i]? = some e := by
    have := congrArg (fun l => l[0]?) h
    simpa using this
  refine ⟨h1, ?_, (List.getElem?_eq_some_iff.1 h1).1⟩
  have := congrArg (List.drop 1) h
  simpa [List.drop_drop, Nat.add_comm] using this
theorem prv_snoc (l : List (Int × Int)) (p : Int × Int) : prv l ++ [.int .i64 p.1, .int .i64 p.2] = prv (l ++ [p]) := by rw [prv_app]; rfl
theorem Good.upd {P : HP} {H H1 : MH} {F G G1 : List Nat} (g : Good P) (h : P H F) (dis : ∀ id ∈ F, id ∉ G) (u : Upd H G H1 G1) : P H1 F ∧ ∀ id ∈ F, id ∉ G1 :=
  ⟨g.frame h fun id hid => u.same id (g.lt h id hid) (dis id hid), fun id hid hg => by
    rcases u.new id hg with h' | h'
    · exact dis id hid h'
    · have := g.lt h id hid; omega⟩
theorem Row.part2 {H : MH} {b o n c : Nat} {i : Info} {cs l : List Value} (hB : H[b]? = some (.cells i cs)) (hes : i.es = 2) (hlc : o + n * 2 ≤ cs.length) (hnc : n ≤ c) (htk : (cs.drop o).take (n * 2) = l) : Row 2 H (.slice (some ⟨b, o, none⟩) n c) l :=
  .inr ⟨b, o, n, c, i, cs, rfl, hnc, hB, hes, hlc, htk⟩
theorem first_uniq {l : List Int} {d : Int} {q q' : Nat} (h1 : l[q]? = some d) (h2 : ∀ j, j < q → l[j]? ≠ some d) (h3 : l[q']? = some d) (h4 : ∀ j, j < q' → l[j]? ≠ some d) : q = q' := by
  rcases Nat.lt_trichotomy q q' with h | h | h
  · exact absurd h1 (h4 q h)
  · exact h
  · exact absurd h3 (h2 q' h)

/-! ### channels -/
section
variable {call : CallF} {vs : List Value} {H : MH} {b : Option Nat} {op : MOp} {n : Nat}
theorem mop_comm (h : op.kind = .comm) : mop call op vs H b = meff op vs H := by
  unfold mop; simp only [h]
@[simp] theorem mop_snd : mop call .snd vs H b = meff .snd vs H := mop_comm rfl
@[simp] theorem mop_rcv {z : Value} {ok : Bool} : mop call (.rcv z ok) vs H b = meff (.rcv z ok) vs H := mop_comm rfl
@[simp] theorem mop_sel1 {z : Value} {s w : Bool} : mop call (.sel1 s z w) vs H b = meff (.sel1 s z w) vs H := mop_comm rfl
@[simp] theorem mop_mkchan : mop call (.mkchan n) vs H none = newO H (malloc (.mkchan n) vs H.length) := mop_alloc rfl
theorem mk_chan {m : Nat} {k : IntKind} (h1 : m ≤ 1048576) (h2 : n ≤ 4096) (q : Nat) : malloc (.mkchan n) [.int k (m : Int)] q = some (.chan m [], .chan (some q)) := by
  simp only [malloc]
  rw [if_pos ⟨by omega, by omega, h2⟩, Int.toNat_natCast]
variable {q cap : Nat} {buf : List Value} {v z : Value}
theorem sel_room (h : H[q]? = some (.chan cap buf)) (hl : buf.length < cap) : meff (.sel1 true z false) [.chan (some q), v] H = some (.tuple #[.int .i64 0, .bool false], H.set q (.chan cap (buf ++ [v]))) := by
  simp only [meff, h]; rw [if_pos hl]
theorem sel_full (h : H[q]? = some (.chan cap buf)) (hl : ¬ buf.length < cap) : meff (.sel1 true z false) [.chan (some q), v] H = some (.tuple #[.int .i64 (-1), .bool false], H) := by
  simp only [meff, h]; rw [if_neg hl]
theorem rcv_at (h : H[q]? = some (.chan cap (v :: buf))) : meff (.rcv z false) [.chan (some q)] H = some (v, H.set q (.chan cap buf)) := by
  simp only [meff, h]; rfl
end
/-- An object of one's own. -/
def At (q : Nat) (o : MObj) : HP := fun H F => F = [q] ∧ H[q]? = some o
theorem At.good {q : Nat} {o : MObj} : Good (At q o) := ⟨fun ⟨h1, h2⟩ hf => ⟨h1, by rw [hf q (by rw [h1]; simp)]; exact h2⟩, fun ⟨h1, h2⟩ id hid => by rw [h1] at hid; simp at hid; subst hid; exact (List.getElem?_eq_some_iff.1 h2).1⟩
theorem at_set {Q : HP} {H : MH} {F : List Nat} {q : Nat} {o o' : MObj} (k : Good Q) (h : (Q * At q o) H F) : H[q]? = some o ∧ (Q * At q o') (H.set q o') F ∧ Upd H F (H.set q o') F := by
  obtain ⟨B, A, h2, ⟨rfl, h1⟩, h3, h4⟩ := h
  have hlt := (List.getElem?_eq_some_iff.1 h1).1
  have hq : q ∉ B := fun hb => h3 q hb (by simp)
  refine ⟨h1, ⟨B, [q], k.frame h2 fun id hid => List.getElem?_set_ne ?_, ⟨rfl, List.getElem?_set_self hlt⟩, h3, h4⟩, ⟨by simp, fun id _ hn => List.getElem?_set_ne ?_, fun id h => .inl h⟩⟩
  · rintro rfl; exact hq hid
  · rintro rfl; exact hn ((h4 q).2 (.inr (by simp)))
end Go.Mod

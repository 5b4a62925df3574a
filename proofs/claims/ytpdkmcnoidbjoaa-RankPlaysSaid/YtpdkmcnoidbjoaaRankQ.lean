/- RankSorts: the model's side. -/
import Derived.Test.YtpdkmcnoidbjoaaRankP
set_option linter.unusedVariables false
set_option linter.unusedSimpArgs false
namespace Go.Mod
open Go.Proofs

def u8s (xs : List Int) : List Value := xs.map fun n => .int .u8 n
theorem u8s_len (xs : List Int) : (u8s xs).length = xs.length := by simp [u8s]
/-- A row of bytes. -/
theorem Row.u8 {H : MH} {a : Option Addr} {n c : Nat} {xs : List Int} (h : Row 1 H (.slice a n c) (u8s xs)) (h0 : 0 < xs.length) :
    ∃ b o j cs, a = some ⟨b, o, none⟩ ∧ H[b]? = some (.cells j cs) ∧ ∀ k x, xs[k]? = some x → cs[o + k]? = some (.int .u8 x) := by
  rcases h with ⟨_, h2⟩ | ⟨b, o, m, d, j, cs, h1, h2, h3, h4, h5, h6⟩
  · rw [← u8s_len, h2] at h0; simp at h0
  · cases h1
    refine ⟨b, o, j, cs, rfl, h3, fun k x hk => ?_⟩
    have hkl := (List.getElem?_eq_some_iff.1 hk).1
    have hl : (u8s xs).length ≤ n * 1 := by rw [← h6, List.length_take]; omega
    rw [u8s_len] at hl
    have : (u8s xs)[k]? = some (.int .u8 x) := by simp [u8s, hk]
    rw [← h6, List.getElem?_take_of_lt (by omega), List.getElem?_drop] at this
    exact this
theorem Row.u8n {H : MH} {a : Option Addr} {n c : Nat} {xs : List Int} (h : Row 1 H (.slice a n c) (u8s xs)) : n = xs.length := by
  obtain ⟨a', n', c', e, hl⟩ := h.slice
  cases e
  rw [u8s_len] at hl; omega

def lexR (a b : Int × Int) : Prop := a.1 < b.1 ∨ (a.1 = b.1 ∧ a.2 < b.2)
theorem posR_lt {k : Int} {ps : List (Int × Int)} {j : Nat} {p : Int × Int} (h : j < posR k ps) (hp : ps[j]? = some p) : p.1 ≤ k := by
  have h1 := List.not_of_lt_findIdx h
  have h2 := (List.getElem?_eq_some_iff.1 hp).2
  rw [← h2]
  simp at h1
  exact h1
theorem posR_at {k : Int} {ps : List (Int × Int)} {p : Int × Int} (hp : ps[posR k ps]? = some p) : k < p.1 := by
  obtain ⟨hlt, h2⟩ := List.getElem?_eq_some_iff.1 hp
  have h3 : decide (k < (ps[posR k ps]).1) = true := List.findIdx_getElem (p := fun p : Int × Int => decide (k < p.1)) (w := hlt)
  rw [← h2]
  exact of_decide_eq_true h3
theorem mem_putAt {ps : List (Int × Int)} {j : Nat} {p q : Int × Int} : p ∈ putAt ps j q ↔ p = q ∨ p ∈ ps := by
  unfold putAt
  conv => rhs; rw [← List.take_append_drop j ps]
  simp only [List.mem_append, List.mem_cons]
  constructor
  · rintro (h | h | h)
    · exact .inr (.inl h)
    · exact .inl h
    · exact .inr (.inr h)
  · rintro (h | h | h)
    · exact .inr (.inl h)
    · exact .inl h
    · exact .inr (.inr h)
theorem put_sorted {ps : List (Int × Int)} (h : ps.Pairwise lexR) {k d : Int} (hd : ∀ p ∈ ps, p.2 < d) : (putAt ps (posR k ps) (k, d)).Pairwise lexR := by
  unfold putAt
  have hs := h
  rw [← List.take_append_drop (posR k ps) ps, List.pairwise_append] at h
  obtain ⟨h1, h2, h3⟩ := h
  have hlo : ∀ a ∈ ps.take (posR k ps), a.1 ≤ k := fun a ha => by
    obtain ⟨j, hj⟩ := List.mem_iff_getElem?.1 ha
    have hjl := (List.getElem?_eq_some_iff.1 hj).1
    rw [List.length_take] at hjl
    rw [List.getElem?_take_of_lt (by omega)] at hj
    exact posR_lt (by omega) hj
  have hhi : ∀ b ∈ ps.drop (posR k ps), k < b.1 := fun b hb => by
    obtain ⟨j, hj⟩ := List.mem_iff_getElem?.1 hb
    rw [List.getElem?_drop] at hj
    have hjl := (List.getElem?_eq_some_iff.1 hj).1
    have hq := posR_at (k := k) (List.getElem?_eq_getElem (l := ps) (i := posR k ps) (by omega))
    rcases Nat.eq_zero_or_pos j with h0 | h0
    · subst h0
      exact posR_at hj
    · have := List.pairwise_iff_getElem.1 hs (posR k ps) (posR k ps + j) (by omega) hjl (by omega)
      rw [(List.getElem?_eq_some_iff.1 hj).2] at this
      rcases this with h | ⟨h, _⟩ <;> omega
  rw [List.pairwise_append, List.pairwise_cons]
  refine ⟨h1, ⟨fun b hb => .inl (hhi b hb), h2⟩, fun a ha b hb => ?_⟩
  rcases List.mem_cons.1 hb with rfl | hb
  · have := hlo a ha
    have := hd a (List.mem_of_mem_take ha)
    simp only [lexR]
    omega
  · exact h3 a ha b hb
/-- The keys are those of the first ones. -/
def KeysR (f : Int → Int) (xs : List Int) (m : Nat) (ps : List (Int × Int)) : Prop := ∀ p ∈ ps, ∃ (n : Nat) (x : Int), n < m ∧ p.2 = (n : Int) ∧ xs[n]? = some x ∧ p.1 = f x
theorem KeysR.put {f : Int → Int} {xs : List Int} {m : Nat} {ps : List (Int × Int)} (h : KeysR f xs m ps) {x : Int} (hx : xs[m]? = some x) (j : Nat) : KeysR f xs (m + 1) (putAt ps j (f x, (m : Int))) := by
  intro p hp
  rcases mem_putAt.1 hp with rfl | hp
  · exact ⟨m, x, by omega, rfl, hx, rfl⟩
  · obtain ⟨n, y, h1, h2, h3, h4⟩ := h p hp
    exact ⟨n, y, by omega, h2, h3, h4⟩
theorem KeysR.lt {f : Int → Int} {xs : List Int} {m : Nat} {ps : List (Int × Int)} (h : KeysR f xs m ps) : ∀ p ∈ ps, p.2 < (m : Int) := fun p hp => by
  obtain ⟨n, y, h1, h2, h3, h4⟩ := h p hp
  omega

section
variable {r n c : Nat} {a : Option Addr} {xs : List Int}
theorem sort1 (hx : xs.length ≤ 64) (hb : ∀ x ∈ xs, 0 ≤ x ∧ x < 256) :
    ∀ (k i : Nat) (H : MH) (F : List Nat) (ps : List (Int × Int)), i + k = xs.length → Stay 1 (.slice a n c) (u8s xs) H F → RankA r ps 64 H F → ps.length = i → ps.Pairwise lexR → KeysR (· % 9) xs i ps →
    ∃ (H' : MH) (F' : List Nat) (ps' : List (Int × Int)), Rc mpRk (.loop m6_1) [(0, .slice a n c), (3, .pointer (some ⟨r, 0, none⟩)), (4, .int .i64 (i : Int))] H =
      some (.exit 0, [(0, .slice a n c), (3, .pointer (some ⟨r, 0, none⟩)), (4, .int .i64 (n : Int)), (20, .bool false)], H') ∧
      Stay 1 (.slice a n c) (u8s xs) H' F' ∧ RankA r ps' 64 H' F' ∧ ps'.length = xs.length ∧ ps'.Pairwise lexR ∧ KeysR (· % 9) xs xs.length ps' := by
  intro k
  induction k with
  | zero =>
    intro i H F ps hk hS h hl hs he
    have hn := hS.1.u8n
    have : i = n := by omega
    subst this
    rw [hn] at he
    refine ⟨H, F, ps, ?_, hS, h, by omega, hs, he⟩
    rw [Rc_loop]
    simp [m6_1]
  | succ k ih =>
    intro i H F ps hk hS h hl hs he
    have hn := hS.1.u8n
    have hlt : i < n := by omega
    obtain ⟨x, hxx⟩ : ∃ x, xs[i]? = some x := ⟨_, List.getElem?_eq_getElem (by omega)⟩
    have hxb := hb x (List.mem_of_getElem? hxx)
    obtain ⟨b, o, j, cs, rfl, hB, hat⟩ := hS.1.u8 (by omega)
    have hcx := hat i x hxx
    obtain ⟨H1, F1, e1, g1, u1⟩ := R_kput (mp := mpRk) rfl rfl h (by omega) (x % 9) (i : Int)
    obtain ⟨H', F', ps', f1, f2⟩ := ih (i + 1) H1 F1 _ (by omega) (hS.upd u1) g1 (by rw [putAt_len (posR_le ..)]; omega) (put_sorted hs fun p hp => he.lt p hp) (he.put hxx _)
    refine ⟨H', F', ps', ?_, f2⟩
    have t9 : x.tmod 9 = x % 9 := Int.tmod_eq_emod_of_nonneg (by omega)
    have w1 : IntKind.i64.wrap (x % 9) = x % 9 := wrap_i64 (by omega) (by omega)
    have w2 : IntKind.i64.wrap ((i : Int) + 1) = (i : Int) + 1 := wrap_i64 (by omega) (by omega)
    simp at f1
    rw [Rc_loop]
    simp [m6_1, hlt, ld_at hB, hcx, t9, w1, w2, e1]
    exact f1
theorem sort2 (hx : xs.length ≤ 64) (hb : ∀ x ∈ xs, 0 ≤ x ∧ x < 256) :
    ∀ (k i : Nat) (H : MH) (F : List Nat) (ps : List (Int × Int)) (last : Int), i + k = xs.length → Stay 1 (.slice a n c) (u8s xs) H F → RankA r ps 64 H F → ps.length = k → ps.Pairwise lexR → KeysR (· % 9) xs xs.length ps →
    (last = -1 ∨ ∃ (m : Nat) (y : Int), last = (m : Int) ∧ xs[m]? = some y ∧ ∀ p ∈ ps, lexR (y % 9, (m : Int)) p) →
    ∃ (H' : MH) (F' : List Nat) (last' : Int), Rc mpRk (.loop m6_0) [(0, .slice a n c), (3, .pointer (some ⟨r, 0, none⟩)), (5, .int .i64 last), (6, .int .i64 (i : Int))] H =
      some (.exit 2, [(0, .slice a n c), (3, .pointer (some ⟨r, 0, none⟩)), (5, .int .i64 last'), (6, .int .i64 (n : Int)), (36, .bool false)], H') ∧ RankA r [] 64 H' F' := by
  intro k
  induction k with
  | zero =>
    intro i H F ps last hk hS h hl hs he hla
    have hn := hS.1.u8n
    have : i = n := by omega
    subst this
    obtain rfl := List.eq_nil_of_length_eq_zero hl
    refine ⟨H, F, last, ?_, h⟩
    rw [Rc_loop]
    simp [m6_0]
  | succ k ih =>
    intro i H F ps last hk hS h hl hs he hla
    have hnn := hS.1.u8n
    have hlt : i < n := by omega
    cases ps with
    | nil => simp at hl
    | cons p ps =>
    obtain ⟨q, x, hn, hp2, hxx, hp1⟩ := he p (by simp)
    obtain ⟨pk, pi⟩ := p
    simp only at hp1 hp2
    subst hp1; subst hp2
    have hxb := hb x (List.mem_of_getElem? hxx)
    obtain ⟨H1, F1, e1, g1, u1⟩ := R_ktake (mp := mpRk) rfl rfl rfl h
    obtain ⟨H', F', last', f1, f2⟩ := ih (i + 1) H1 F1 ps (q : Int) (by omega) (hS.upd u1) g1 (by simpa using hl) (List.pairwise_cons.1 hs).2 (fun p hp => he p (by simp [hp])) (.inr ⟨q, x, rfl, hxx, (List.pairwise_cons.1 hs).1⟩)
    refine ⟨H', F', last', ?_, f2⟩
    obtain ⟨b, o, j, cs, rfl, hb1, hat⟩ := (hS.upd u1).1.u8 (by omega)
    have hcx := hat q x hxx
    have t9 : x.tmod 9 = x % 9 := Int.tmod_eq_emod_of_nonneg (by omega)
    have w2 : IntKind.i64.wrap ((i : Int) + 1) = (i : Int) + 1 := wrap_i64 (by omega) (by omega)
    have hge : ¬ n ≤ q := by omega
    have hqn : q < n := by omega
    simp at f1
    rw [Rc_loop]
    rcases hla with rfl | ⟨m, y, rfl, hyy, hlx⟩
    · simp [m6_0, hlt, e1, hge, mdraw_plain, w2]
      exact f1
    · have hyb := hb y (List.mem_of_getElem? hyy)
      have hcy := hat m y hyy
      have hml := (List.getElem?_eq_some_iff.1 hyy).1
      have hmn : m < n := by omega
      have t9' : y.tmod 9 = y % 9 := Int.tmod_eq_emod_of_nonneg (by omega)
      have hle := hlx (x % 9, (q : Int)) (by simp)
      simp only [lexR] at hle
      have g1 : ¬ x % 9 < y % 9 := by omega
      by_cases heq : y % 9 = x % 9
      · have g2 : ¬ q ≤ m := by omega
        simp [m6_0, hlt, e1, hge, mdraw_plain, w2, ld_at hb1, hmn, hqn, hcy, hcx, t9, t9', g1, heq, g2]
        exact f1
      · simp [m6_0, hlt, e1, hge, mdraw_plain, w2, ld_at hb1, hmn, hqn, hcy, hcx, t9, t9', g1, heq]
        exact f1
end
theorem rankSorts {H : MH} {v : Value} {xs : List Int} (hr : Row 1 H v (u8s xs)) (hb : ∀ x ∈ xs, 0 ≤ x ∧ x < 256) : ∃ H', R mpRk 6 [v] H = some (.bool true, H') := by
  refine isTrue_ex ?_
  obtain ⟨a, n, c, rfl, hl⟩ := hr.slice
  have hn := hr.u8n
  by_cases hbig : 64 < xs.length
  · rw [R_code (fn := m6) rfl]
    have : (64 : Int) < (n : Int) := by omega
    simp [m6, knownR_R, this]
  · have hsm : ¬ (64 : Int) < (n : Int) := by omega
    obtain ⟨H1, e1, g1, x1⟩ := R_knew (mp := mpRk) rfl (H := H) (x := 64)
    have e64 : min (max (64 : Int) 0) 64 = 64 := by omega
    rw [e64] at g1
    have hS : Stay 1 (.slice a n c) (u8s xs) H1 [H.length] := by
      refine ⟨x1.row hr, fun b o n' c' e hb => ?_⟩
      simp at hb
      rcases hr with ⟨h1, _⟩ | ⟨b', o', m', d', j', cs', h1, _, h3, _⟩
      · rw [h1] at e; cases e
      · rw [h1] at e; cases e
        have := (List.getElem?_eq_some_iff.1 h3).1
        omega
    obtain ⟨H2, F2, ps, h2, s2, g2, l2, p2, k2⟩ := sort1 (c := c) (by omega) hb xs.length 0 H1 _ [] (by omega) hS g1 rfl .nil (by simp [KeysR])
    obtain ⟨H3, F3, last', h3, g3⟩ := sort2 (c := c) (by omega) hb xs.length 0 H2 F2 ps (-1) (by omega) s2 g2 l2 p2 k2 (.inl rfl)
    have h4 := R_ktake0 (mp := mpRk) rfl rfl g3
    rw [R_code (fn := m6) rfl]
    simp at h2 h3
    simp [m6, knownR_R, hsm, e1, h2, h3, h4]
end Go.Mod

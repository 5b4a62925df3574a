/- Package words: Words, same, Name. -/
import Derived.Test.YthpeamllfledkaaDoorWdQ
set_option linter.unusedVariables false
set_option linter.unusedSimpArgs false
namespace Go.Mod

section
variable {mp : FuncId → Option MDef} {H : MH}
theorem R_cutB (h34 : mp 34 = some (.intr (scalS cutG))) {l : List UInt8} {c : UInt8} (hl : l.length ≤ 100000) :
    R mp 34 [.string (B l), .string (B [c])] H = some (.tuple #[.string (B (l.takeWhile (· ≠ c))), .string (B ((l.dropWhile (· ≠ c)).drop 1)), .bool (l.contains c)], H) := by
  rw [R_intr h34]
  simp only [scalS, cutG, B_data, B_size]
  rw [if_pos (by omega)]
  rfl
/-- The words of a line. -/
def wordsOf (l : List UInt8) : List (List UInt8) := noE (cutAt 32 (l.takeWhile (· ≠ 35)))
theorem tw_len (l : List UInt8) (p : UInt8 → Bool) : (l.takeWhile p).length ≤ l.length := (List.takeWhile_sublist p).length_le
theorem R_words (hf : mp 18 = some (.code m18)) (h32 : mp 32 = some (.intr splitS)) (h34 : mp 34 = some (.intr (scalS cutG))) {l : List UInt8} (hl : l.length ≤ 100000) : GivesS H (R mp 18 [.string (B l)] H) (wordsOf l) := by
  have hc : R mp 34 [.string (B l), .string ⟨#[35]⟩] H = _ := R_cutB (H := H) h34 (c := 35) hl
  have hw := tw_len l (· ≠ 35)
  unfold wordsOf
  generalize l.takeWhile (· ≠ 35) = m at hc hw ⊢
  have hs : R mp 32 [.string (B m), .string ⟨#[32]⟩] H = _ := R_splitB (H := H) h32 (c := 32) (l := m) (by omega)
  have hlen := cutAt_len 32 m
  generalize cutAt 32 m = p at hs hlen ⊢
  have e0 : Ext H (H ++ [.cells ⟨1, true, true⟩ (sv p)]) := ⟨_, rfl⟩
  have hr : Row 1 (H ++ [.cells ⟨1, true, true⟩ (sv p)]) (.slice (some ⟨H.length, 0, none⟩) p.length p.length) (sv p) := row_new (by simp)
  obtain ⟨H1, G1, a1, n1, c1, h1, h2, h3⟩ := words_loop (mp := mp) (p := p) (by omega) p.length 0 (H ++ [.cells ⟨1, true, true⟩ (sv p)]) [] [] none 0 0 (by omega) (by simp) ⟨hr, by simp⟩ (.inl ⟨rfl, rfl, rfl⟩)
  simp at h1 h2
  refine ⟨a1, n1, c1, H1, ?_, Own.row h2, e0.trans h3.toExt.1⟩
  rw [R_code hf]
  simp [m18, hc, hs, h1]

theorem sameW_loop {la lb : List (List UInt8)} (hl : la.length ≤ 100000) {a b : Option Addr} {n m c d : Nat} (ha : Row 1 H (.slice a n c) (sv la)) (hb : Row 1 H (.slice b m d) (sv lb)) (hlen : la.length = lb.length) : ∀ (k i : Nat), i + k = la.length → la.take i = lb.take i →
    (la = lb ∧ Rc mp (.loop m15_0) [(0, .slice a n c), (1, .slice b m d), (5, .int .i64 (i : Int))] H = some (.exit 0, [(0, .slice a n c), (1, .slice b m d), (5, .int .i64 (la.length : Int)), (14, .bool false)], H)) ∨
    (la ≠ lb ∧ Rc mp (.loop m15_0) [(0, .slice a n c), (1, .slice b m d), (5, .int .i64 (i : Int))] H = some (.ret, [(4, .bool false)], H)) := by
  intro k
  have hn := ha.svn
  have hm := hb.svn
  induction k with
  | zero =>
    intro i hi ht
    have : i = la.length := by omega
    subst this
    refine .inl ⟨?_, ?_⟩
    · rw [List.take_length] at ht
      rw [ht, hlen, List.take_length]
    · rw [Rc_loop]
      simp [m15_0, hn]
  | succ k ih =>
    intro i hi ht
    have hia : i < la.length := by omega
    have hib : i < lb.length := by omega
    have hin : i < n := by omega
    have him : i < m := by omega
    obtain ⟨b1, o1, j1, cs1, rfl, hB1, hat1⟩ := ha.sv (List.getElem?_eq_getElem hia)
    obtain ⟨b2, o2, j2, cs2, rfl, hB2, hat2⟩ := hb.sv (List.getElem?_eq_getElem hib)
    have hld1 := ld_at hB1 (o1 + i)
    rw [hat1] at hld1
    have hld2 := ld_at hB2 (o2 + i)
    rw [hat2] at hld2
    have w : IntKind.i64.wrap ((i : Int) + 1) = (i : Int) + 1 := wrap_i64 (by omega) (by omega)
    by_cases hx : la[i] = lb[i]
    · rcases ih (i + 1) (by omega) (by rw [List.take_add_one, List.take_add_one, ht, List.getElem?_eq_getElem hia, List.getElem?_eq_getElem hib, hx]) with ⟨q1, q2⟩ | ⟨q1, q2⟩
      · refine .inl ⟨q1, ?_⟩
        rw [Rc_loop]
        simp [m15_0, hin, him, hld1, hld2, mdraw_plain, w, hx]
        exact q2
      · refine .inr ⟨q1, ?_⟩
        rw [Rc_loop]
        simp [m15_0, hin, him, hld1, hld2, mdraw_plain, w, hx]
        exact q2
    · refine .inr ⟨fun e => hx (by simp [e]), ?_⟩
      rw [Rc_loop]
      simp [m15_0, hin, him, hld1, hld2, mdraw_plain, w, hx]
theorem R_sameW (hf : mp 15 = some (.code m15)) {la lb : List (List UInt8)} (hl : la.length ≤ 100000) {a b : Option Addr} {n m c d : Nat} (ha : Row 1 H (.slice a n c) (sv la)) (hb : Row 1 H (.slice b m d) (sv lb)) :
    R mp 15 [.slice a n c, .slice b m d] H = some (.bool (decide (la = lb)), H) := by
  have hn := ha.svn
  have hm := hb.svn
  by_cases hlen : la.length = lb.length
  · obtain rfl : m = n := by omega
    rcases sameW_loop (mp := mp) hl ha hb hlen la.length 0 (by omega) (by simp) with ⟨q1, q2⟩ | ⟨q1, q2⟩
    · simp at q2
      rw [R_code hf]
      simp [m15, q2, q1]
    · simp at q2
      rw [R_code hf]
      simp [m15, q2, q1]
  · have h1 : ¬ n = m := by omega
    have h2 : ¬ la = lb := fun e => hlen (by rw [e])
    have h3 : ¬ (n : Int) = m := by omega
    rw [R_code hf]
    simp [m15, h1, h2, h3]
end
end Go.Mod

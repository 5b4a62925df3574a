/- TextTurned: of a text that was printed, with a byte turned or a line left out, no task's name is a lock within a lock (plain). -/
import Derived.Test.YthpeamllfledkaaGreatDoorGs4
set_option linter.unusedVariables false
set_option linter.unusedSimpArgs false
namespace Go.Mod
open Go.Lib

/-- The name in a line of a task, if it is one, is no lock within a lock. -/
def NameOk (l : Bs) : Prop := (wordsOf l).getD 0 [] = kTask → nestL ((wordsOf l).getD 1 []) = false
theorem index_58 : ∀ {s : Bs}, (58 : UInt8) ∉ s → index s kLockC = -1
  | [], _ => rfl
  | b :: s, h => by
    have hp : kLockC.isPrefixOf (b :: s) = false := by
      cases hb : kLockC.isPrefixOf (b :: s) with
      | false => rfl
      | true =>
        have := List.isPrefixOf_iff_prefix.1 hb
        exact absurd (this.subset (show (58 : UInt8) ∈ kLockC by decide)) h
    unfold index
    rw [hp, index_58 fun hm => h (by simp [hm])]
    rfl
theorem nest_count {w : Bs} (h : nestL w = true) : 2 ≤ w.count 58 := by
  unfold nestL hasPrefix at h
  rw [Bool.and_eq_true] at h
  obtain ⟨r, rfl⟩ := List.isPrefixOf_iff_prefix.1 h.1
  have hd : (kLockC ++ r).drop 5 = r := rfl
  rw [hd] at h
  have h2 : (58 : UInt8) ∈ r := by
    by_cases hm : (58 : UInt8) ∈ r
    · exact hm
    · have := h.2
      unfold Lib.contains at this
      rw [index_58 hm] at this
      exact absurd this (by decide)
  have h3 := List.count_pos_iff.2 h2
  rw [List.count_append]
  have : kLockC.count 58 = 1 := rfl
  omega
theorem cut_count (c x : UInt8) : ∀ (l : Bs), ∀ w ∈ cutAt c l, w.count x ≤ l.count x
  | [], w, h => by simp [cutAt] at h; subst h; simp
  | b :: l, w, h => by
    have ih := cut_count c x l
    unfold cutAt at h
    split at h
    · rcases List.mem_cons.1 h with rfl | h
      · simp
      · have := ih w h
        rw [List.count_cons]; omega
    · split at h
      · simp only [List.mem_cons, List.not_mem_nil, or_false] at h
        subst h
        rw [List.count_cons, List.count_cons]; simp
      · rename_i h' t e
        rcases List.mem_cons.1 h with rfl | h
        · have := ih h' (by rw [e]; simp)
          rw [List.count_cons, List.count_cons]; omega
        · have := ih w (by rw [e]; simp [h])
          rw [List.count_cons]; omega
theorem words_count {m : Bs} {w : Bs} (h : w ∈ wordsOf m) : w.count 58 ≤ m.count 58 := by
  unfold wordsOf noE at h
  have h1 := cut_count 32 58 _ w (List.mem_filter.1 h).1
  have h2 := (List.takeWhile_sublist (p := fun b : UInt8 => decide (b ≠ 35)) (l := m)).count_le 58
  omega
theorem getD_count {ws : List Bs} {n i : Nat} (h : ∀ w ∈ ws, w.count 58 ≤ n) : (ws.getD i []).count 58 ≤ n := by
  rw [List.getD_eq_getElem?_getD]
  cases hw : ws[i]? with
  | none => simp
  | some w => exact h w (List.mem_iff_getElem?.2 ⟨i, hw⟩)
theorem cutAt_cons (c b : UInt8) (l : Bs) : cutAt c (b :: l) = if b = c then [] :: cutAt c l else match cutAt c l with
  | [] => [[b]]
  | h :: t => (b :: h) :: t := rfl
theorem noE_cons2 {x : Bs} {p : List Bs} : noE (x :: p) = if x = [] then noE p else x :: noE p := by
  unfold noE
  by_cases h : x = [] <;> simp [h]
theorem cut_split (c : UInt8) (q : Bs) : ∀ m : Bs, cutAt c (m ++ c :: q) = cutAt c m ++ cutAt c q
  | [] => by rw [List.nil_append, cutAt_cons, if_pos rfl]; rfl
  | b :: m => by
    have ih := cut_split c q m
    rw [List.cons_append, cutAt_cons, cutAt_cons, ih]
    split
    · simp
    · cases hm : cutAt c m with
      | nil => exact absurd hm (cutAt_ne c m)
      | cons h t => simp
theorem cut_flat (c : UInt8) : ∀ m : Bs, (cutAt c m).flatten = m.filter (· ≠ c)
  | [] => by simp [cutAt]
  | b :: m => by
    have ih := cut_flat c m
    unfold cutAt
    split
    · rename_i e
      simp [ih, e]
    · rename_i e
      cases hm : cutAt c m with
      | nil => exact absurd hm (cutAt_ne c m)
      | cons h t =>
        rw [hm] at ih
        simp [e] at ih ⊢
        rw [← ih]
theorem noE_flat : ∀ p : List Bs, (noE p).flatten = p.flatten
  | [] => rfl
  | x :: p => by
    rw [noE_cons2]
    by_cases h : x = []
    · subst h; simp [noE_flat p]
    · simp [h, noE_flat p]
theorem tw_cut {m r : Bs} (h : (35 : UInt8) ∈ m) : (m ++ r).takeWhile (· ≠ 35) = m.takeWhile (· ≠ 35) := by
  induction m with
  | nil => cases h
  | cons b m ih =>
    rw [List.cons_append, List.takeWhile_cons, List.takeWhile_cons]
    by_cases hb : b = 35
    · simp [hb]
    · have : (35 : UInt8) ∈ m := by
        rcases List.mem_cons.1 h with h | h
        · exact absurd h.symm hb
        · exact h
      rw [ih this]
/-- A line whose beginning holds a task's word and more, with one colon at most. -/
theorem nameOk_of {m rest : Bs} (h58 : m.count 58 ≤ 1) (h : rest = [] ∨ ∃ q, rest = 32 :: q ∧ 5 ≤ (m.filter (· ≠ 32)).length) : NameOk (m ++ rest) := by
  intro h0
  cases hn : nestL ((wordsOf (m ++ rest)).getD 1 []) with
  | false => rfl
  | true =>
    have h2 := nest_count hn
    have whole : ∀ w ∈ wordsOf m, w.count 58 ≤ 1 := fun w hw => by have := words_count hw; omega
    have hle : ((wordsOf (m ++ rest)).getD 1 []).count 58 ≤ 1 := by
      rcases h with rfl | ⟨q, rfl, h5⟩
      · rw [List.append_nil]; exact getD_count whole
      · by_cases h35 : (35 : UInt8) ∈ m
        · have : wordsOf (m ++ 32 :: q) = wordsOf m := by unfold wordsOf; rw [tw_cut h35]
          rw [this]; exact getD_count whole
        · have e1 : (32 :: q).takeWhile (· ≠ (35 : UInt8)) = 32 :: q.takeWhile (· ≠ 35) := by simp
          have e0 := tw_app (r := []) h35
          rw [List.append_nil] at e0
          have e0' : m.takeWhile (· ≠ 35) = m := by rw [e0]; simp
          have e2 : wordsOf (m ++ 32 :: q) = wordsOf m ++ wordsOf q := by
            unfold wordsOf
            rw [tw_app h35, e1, cut_split, e0']
            unfold noE
            rw [List.filter_append]
          have e3 : (wordsOf m).flatten = m.filter (· ≠ 32) := by
            unfold wordsOf
            rw [e0', noE_flat, cut_flat]
          rw [e2] at h0 ⊢
          match hW : wordsOf m with
          | [] => rw [hW] at e3; rw [← e3] at h5; simp at h5
          | [w0] =>
            rw [hW] at e3 h0
            have : w0 = kTask := h0
            subst this
            rw [← e3] at h5
            simp [kTask] at h5
          | w0 :: w1 :: l =>
            have := whole w1 (by rw [hW]; simp)
            exact this
    omega
end Go.Mod
/- The document's Parse: what begins, what is nested. -/
set_option linter.unusedVariables false
set_option linter.unusedSimpArgs false
namespace Go.Mod
open Go.Lib

theorem contains_cons (b : UInt8) (s p : Bs) : Lib.contains (b :: s) p = (p.isPrefixOf (b :: s) || Lib.contains s p) := by
  unfold Lib.contains
  conv => lhs; unfold index
  cases p.isPrefixOf (b :: s) with
  | true => rfl
  | false =>
    have := index_ge s p
    by_cases h : index s p = -1
    · simp [h]
    · have h2 : 0 ≤ index s p := by omega
      simp [h]; omega
theorem contains_short : ∀ {s : Bs}, s.length < 5 → Lib.contains s kLockC = false
  | [], _ => rfl
  | b :: s, h => by
    rw [contains_cons, contains_short (by simp at h; omega), Bool.or_false]
    cases hb : kLockC.isPrefixOf (b :: s) with
    | false => rfl
    | true =>
      have := (List.isPrefixOf_iff_prefix.1 hb).length_le
      have e : kLockC.length = 5 := rfl
      omega
section
variable {mp : FuncId → Option MDef} {H : MH}
theorem R_begins (hf : mp 65 = some (.code m65)) {l p : Bs} (hl : l.length ≤ 100000) : R mp 65 [.string (B l), .string (B p)] H = some (.bool (hasPrefix l p), H) := by
  rw [R_code hf]
  by_cases h : p.length ≤ l.length
  · have h1 : (p.length : Int) ≤ (l.length : Int) := by omega
    have e : (l.take p.length = p) ↔ (hasPrefix l p = true) := by
      unfold hasPrefix
      rw [List.isPrefixOf_iff_prefix, List.prefix_iff_eq_take]
      exact ⟨fun h => h.symm, fun h => h.symm⟩
    by_cases g : l.take p.length = p
    · have g2 := e.1 g
      simp [m65, h, h1, g, g2]
    · have g2 : hasPrefix l p = false := by
        cases hb : hasPrefix l p with
        | false => rfl
        | true => exact absurd (e.2 hb) g
      simp [m65, h, h1, g, g2]
  · have h1 : ¬ (p.length : Int) ≤ (l.length : Int) := by omega
    have g2 : hasPrefix l p = false := by
      cases hb : hasPrefix l p with
      | false => rfl
      | true =>
        unfold hasPrefix at hb
        exact absurd (List.isPrefixOf_iff_prefix.1 hb).length_le h
    simp [m65, h, h1, g2]
theorem B_nil5 : (⟨#[108, 111, 99, 107, 58]⟩ : ByteArray) = B [108, 111, 99, 107, 58] := rfl
theorem sl5 {l : Bs} {i : Nat} (h : i + 5 ≤ l.length) : mpure (.slstr true true) [.string (B l), .int .i64 (i : Int), .int .i64 ((i : Int) + 5)] = some (.string (B ((l.drop i).take 5))) := by
  rw [ev_slstr_tt, if_pos (by rw [B_size]; omega)]
  have e1 : ((i : Int) + 5).toNat = i + 5 := by omega
  have e2 : (i : Int).toNat = i := by omega
  rw [e1, e2, B_extract, show i + 5 - i = 5 by omega]
theorem nested_loopR {l : Bs} (hl : l.length ≤ 100000) : ∀ (k i : Nat), l.length - i = k → i ≤ l.length →
    (Lib.contains (l.drop i) kLockC = true ∧ Rc mp (.loop m47_0) [(0, .string (B l)), (3, .int .i64 (i : Int))] H = some (.ret, [(2, .bool true)], H)) ∨
    (Lib.contains (l.drop i) kLockC = false ∧ ∃ j : Int, Rc mp (.loop m47_0) [(0, .string (B l)), (3, .int .i64 (i : Int))] H = some (.exit 0, [(0, .string (B l)), (3, .int .i64 j), (11, .bool false)], H)) := by
  intro k
  induction k with
  | zero =>
    intro i hk hi
    have w5 : IntKind.i64.wrap ((i : Int) + 5) = (i : Int) + 5 := wrap_i64 (by omega) (by omega)
    have h1 : ¬ (i : Int) + 5 ≤ (l.length : Int) := by omega
    refine .inr ⟨contains_short (by rw [List.length_drop]; omega), i, ?_⟩
    rw [Rc_loop]
    simp [m47_0, w5, h1]
  | succ k ih =>
    intro i hk hi
    have w5 : IntKind.i64.wrap ((i : Int) + 5) = (i : Int) + 5 := wrap_i64 (by omega) (by omega)
    have w1 : IntKind.i64.wrap ((i : Int) + 1) = (i : Int) + 1 := wrap_i64 (by omega) (by omega)
    by_cases h5 : i + 5 ≤ l.length
    · have h1 : (i : Int) + 5 ≤ (l.length : Int) := by omega
      have hs := sl5 h5
      have hd : l.drop i = l[i] :: l.drop (i + 1) := List.drop_eq_getElem_cons (by omega)
      have hc := contains_cons l[i] (l.drop (i + 1)) kLockC
      rw [← hd] at hc
      have e : kLockC.isPrefixOf (l.drop i) = true ↔ (l.drop i).take 5 = [108, 111, 99, 107, 58] := by
        rw [List.isPrefixOf_iff_prefix, List.prefix_iff_eq_take]
        exact ⟨fun h => h.symm, fun h => h.symm⟩
      by_cases g : (l.drop i).take 5 = [108, 111, 99, 107, 58]
      · rw [e.2 g, Bool.true_or] at hc
        refine .inl ⟨hc, ?_⟩
        have hs' : mpure (.slstr true true) [.string (B l), .int .i64 (i : Int), .int .i64 ((i : Int) + 5)] = some (.string ⟨#[108, 111, 99, 107, 58]⟩) := by rw [hs, g]; rfl
        rw [Rc_loop]
        simp [-ev_slstr_tt, m47_0, w5, h1, hs']
      · have g2 : kLockC.isPrefixOf (l.drop i) = false := by
          cases hb : kLockC.isPrefixOf (l.drop i) with
          | false => rfl
          | true => exact absurd (e.1 hb) g
        rw [g2, Bool.false_or] at hc
        generalize hm : (l.drop i).take 5 = m at hs g
        rcases ih (i + 1) (by omega) (by omega) with ⟨h6, h7⟩ | ⟨h6, j, h7⟩
        · refine .inl ⟨by rw [hc]; exact h6, ?_⟩
          rw [Rc_loop]
          simp [-ev_slstr_tt, m47_0, w5, w1, h1, hs, g, B_nil5]
          exact h7
        · refine .inr ⟨by rw [hc]; exact h6, j, ?_⟩
          rw [Rc_loop]
          simp [-ev_slstr_tt, m47_0, w5, w1, h1, hs, g, B_nil5]
          exact h7
    · have h1 : ¬ (i : Int) + 5 ≤ (l.length : Int) := by omega
      refine .inr ⟨contains_short (by rw [List.length_drop]; omega), i, ?_⟩
      rw [Rc_loop]
      simp [m47_0, w5, h1]
/-- A lock within a lock? -/
theorem R_nestedR (hf : mp 47 = some (.code m47)) (h65 : mp 65 = some (.code m65)) {l : Bs} (hl : l.length ≤ 100000) : R mp 47 [.string (B l)] H = some (.bool (nestL l), H) := by
  have qb := R_begins (H := H) h65 (l := l) (p := kLockC) hl
  rw [R_code hf]
  unfold nestL
  cases hb : hasPrefix l kLockC with
  | false =>
    rw [hb] at qb
    simp [m47, show (⟨#[108, 111, 99, 107, 58]⟩ : ByteArray) = B kLockC from rfl, qb]
  | true =>
    rw [hb] at qb
    have h5 : 5 ≤ l.length := by
      unfold hasPrefix at hb
      exact (List.isPrefixOf_iff_prefix.1 hb).length_le
    rcases nested_loopR (mp := mp) (H := H) hl (l.length - 5) 5 rfl h5 with ⟨h6, h7⟩ | ⟨h6, j, h7⟩
    · rw [h6]
      have h7' : Rc mp (.loop m47_0) [(0, .string (B l)), (3, .int .i64 5)] H = some (.ret, [(2, .bool true)], H) := h7
      simp [m47, show (⟨#[108, 111, 99, 107, 58]⟩ : ByteArray) = B kLockC from rfl, qb, h7']
    · rw [h6]
      have h7' : Rc mp (.loop m47_0) [(0, .string (B l)), (3, .int .i64 5)] H = some (.exit 0, [(0, .string (B l)), (3, .int .i64 j), (11, .bool false)], H) := h7
      simp [m47, show (⟨#[108, 111, 99, 107, 58]⟩ : ByteArray) = B kLockC from rfl, qb, h7']
end
end Go.Mod
/- The document's Parse: where the colons stand. -/
set_option linter.unusedVariables false
set_option linter.unusedSimpArgs false
namespace Go.Mod
open Go.Lib

theorem idxR {l : Bs} {i : Nat} {c : UInt8} (h : l[i]? = some c) : mpure .idxs [.string (B l), .int .i64 (i : Int)] = some (.int .u8 (c.toNat : Int)) := by
  rw [ev_idxs, if_pos (by omega)]
  have : (B l)[(i : Int).toNat]? = some c := by rw [B_get]; simpa using h
  rw [this]; rfl
section
variable {mp : FuncId → Option MDef} {H : MH}
/-- How far the first colon is. -/
def colN (l : Bs) : Nat := (l.takeWhile (· ≠ 58)).length
theorem colN_cons (c : UInt8) (l : Bs) : colN (c :: l) = if c = 58 then 0 else colN l + 1 := by
  unfold colN
  rw [List.takeWhile_cons]
  by_cases h : c = 58 <;> simp [h]
theorem colon_loop1 {l : Bs} (hl : l.length ≤ 100000) {v2 : Value} : ∀ (r : Bs) (i : Nat), l.drop i = r → i ≤ l.length →
    Rc mp (.loop m48_1) [(0, .string (B l)), (2, v2), (4, .int .i64 (i : Int))] H = some (.exit 0, [(0, .string (B l)), (2, v2), (4, .int .i64 ((i + colN r : Nat) : Int)), (24, .bool false)], H)
  | [], i, hr, hi => by
    have : l.length ≤ i := List.drop_eq_nil_iff.1 hr
    have h1 : ¬ (i : Int) < (l.length : Int) := by omega
    rw [Rc_loop]
    simp [m48_1, h1, colN]
  | c :: r, i, hr, hi => by
    have hc : l[i]? = some c := by
      have := congrArg List.head? hr
      simpa using this
    have hit := (List.getElem?_eq_some_iff.1 hc).1
    have hr' : l.drop (i + 1) = r := by
      have := congrArg List.tail hr
      simpa using this
    have h1 : (i : Int) < (l.length : Int) := by omega
    have fx := idxR hc
    have w : IntKind.i64.wrap ((i : Int) + 1) = (i : Int) + 1 := wrap_i64 (by omega) (by omega)
    rw [colN_cons]
    by_cases h58 : c = 58
    · subst h58
      have fx' : mpure .idxs [.string (B l), .int .i64 (i : Int)] = some (.int .u8 58) := fx
      rw [if_pos rfl, Rc_loop]
      simp [-ev_idxs, m48_1, h1, fx']
    · have n58 : ¬ (c.toNat : Int) = 58 := fun e => h58 (UInt8.toNat_inj.1 (by show c.toNat = 58; omega))
      have ih := colon_loop1 hl (v2 := v2) r (i + 1) hr' hit
      have hcast : ((i + 1 : Nat) : Int) = (i : Int) + 1 := by omega
      rw [hcast, show i + 1 + colN r = i + (colN r + 1) by omega] at ih
      rw [if_neg h58, Rc_loop]
      simp only [m48_1]
      simp [-ev_idxs, h1, fx, n58, w]
      exact ih
theorem colon_loop0 {l : Bs} (hl : l.length ≤ 100000) {v2 v5 : Value} : ∀ (r : Bs) (i : Nat), l.drop i = r → i ≤ l.length →
    Rc mp (.loop m48_0) [(2, v2), (5, v5), (6, .string (B l)), (7, .int .i64 (i : Int))] H = some (.exit 3, [(2, v2), (5, v5), (6, .string (B l)), (7, .int .i64 ((i + colN r : Nat) : Int)), (59, .bool false)], H)
  | [], i, hr, hi => by
    have : l.length ≤ i := List.drop_eq_nil_iff.1 hr
    have h1 : ¬ (i : Int) < (l.length : Int) := by omega
    rw [Rc_loop]
    simp [m48_0, h1, colN]
  | c :: r, i, hr, hi => by
    have hc : l[i]? = some c := by
      have := congrArg List.head? hr
      simpa using this
    have hit := (List.getElem?_eq_some_iff.1 hc).1
    have hr' : l.drop (i + 1) = r := by
      have := congrArg List.tail hr
      simpa using this
    have h1 : (i : Int) < (l.length : Int) := by omega
    have fx := idxR hc
    have w : IntKind.i64.wrap ((i : Int) + 1) = (i : Int) + 1 := wrap_i64 (by omega) (by omega)
    rw [colN_cons]
    by_cases h58 : c = 58
    · subst h58
      have fx' : mpure .idxs [.string (B l), .int .i64 (i : Int)] = some (.int .u8 58) := fx
      rw [if_pos rfl, Rc_loop]
      simp [-ev_idxs, m48_0, h1, fx']
    · have n58 : ¬ (c.toNat : Int) = 58 := fun e => h58 (UInt8.toNat_inj.1 (by show c.toNat = 58; omega))
      have ih := colon_loop0 hl (v2 := v2) (v5 := v5) r (i + 1) hr' hit
      have hcast : ((i + 1 : Nat) : Int) = (i : Int) + 1 := by omega
      rw [hcast, show i + 1 + colN r = i + (colN r + 1) by omega] at ih
      rw [if_neg h58, Rc_loop]
      simp only [m48_0]
      simp [-ev_idxs, h1, fx, n58, w]
      exact ih
end
end Go.Mod
/- The document's Parse: a part's word (plain). -/
set_option linter.unusedVariables false
set_option linter.unusedSimpArgs false
namespace Go.Mod
open Go.Lib

theorem colN_le (l : Bs) : colN l ≤ l.length := (List.takeWhile_sublist _).length_le
theorem colN_take (l : Bs) : l.take (colN l) = l.takeWhile (· ≠ 58) := by
  unfold colN
  exact (List.prefix_iff_eq_take.1 (List.takeWhile_prefix _)).symm
theorem tw_no58 : ∀ l : Bs, (58 : UInt8) ∉ l.takeWhile (· ≠ 58)
  | [] => by simp
  | c :: l => by
    rw [List.takeWhile_cons]
    by_cases h : c = 58
    · simp [h]
    · have := tw_no58 l
      simp only [h, ne_eq, not_false_eq_true, decide_true, if_true, List.mem_cons, not_or]
      exact ⟨fun e => h e.symm, this⟩
theorem col_no {l : Bs} (h : colN l = l.length) : (58 : UInt8) ∉ l := fun hm => by
  have e := colN_take l
  rw [h, List.take_length] at e
  rw [e] at hm
  exact tw_no58 l hm
theorem col_split {l : Bs} (h : ¬ colN l = l.length) : l = l.take (colN l) ++ 58 :: l.drop (colN l + 1) ∧ (58 : UInt8) ∉ l.take (colN l) := by
  have hlt : colN l < l.length := by have := colN_le l; omega
  have hno : (58 : UInt8) ∉ l.take (colN l) := fun hm => by
    rw [colN_take] at hm
    exact tw_no58 l hm
  refine ⟨?_, hno⟩
  have hd := List.drop_eq_getElem_cons hlt
  have h58 : l[colN l] = 58 := by
    have h1 := List.takeWhile_append_dropWhile (p := fun b : UInt8 => decide (b ≠ 58)) (l := l)
    have h2 : l.dropWhile (fun b : UInt8 => decide (b ≠ 58)) = l.drop (colN l) := by
      have h3 : l.take (colN l) ++ l.drop (colN l) = l := List.take_append_drop _ _
      rw [colN_take] at h3
      exact List.append_cancel_left (h1.trans h3.symm)
    have h4 := List.head?_dropWhile_not (fun b : UInt8 => decide (b ≠ 58)) l
    rw [h2, hd] at h4
    have h5 : l[colN l]? = some l[colN l] := List.getElem?_eq_getElem hlt
    simp at h4
    rw [h5] at h4
    exact h4
  rw [h58] at hd
  rw [← hd, List.take_append_drop]
theorem num_no {l : Bs} {v : Int} (h : numL l = some v) : (58 : UInt8) ∉ l := fun hm => by
  unfold numL at h
  split at h
  · rename_i w hw
    split at h
    · rename_i hc
      have := dec_D 7 w.toNat 58 (by rw [hc.2.2]; exact hm)
      exact absurd this.2 (by decide)
    · cases h
  · cases h
/-- One number alone. -/
theorem nums_one (l : Bs) : (match numsL (cutAt 58 l) with | some n => if n.length = 1 then some (n.getD 0 0) else none | none => none) = numL l := by
  by_cases hm : (58 : UInt8) ∈ l
  · have hn : ¬ colN l = l.length := fun h => col_no h hm
    obtain ⟨e, h1⟩ := col_split hn
    have hnum : numL l = none := by
      cases hq : numL l with
      | none => rfl
      | some v => exact absurd hm (num_no hq)
    rw [hnum, e, cutAt_app h1]
    unfold numsL
    obtain ⟨x, t, hx⟩ := List.exists_cons_of_ne_nil (cutAt_ne 58 (l.drop (colN l + 1)))
    rw [hx]
    cases numL (l.take (colN l)) with
    | none => rfl
    | some a =>
      unfold numsL
      cases numL x with
      | none => rfl
      | some b => cases numsL t <;> rfl
  · rw [cutAt_no hm]
    unfold numsL
    cases numL l <;> rfl
end Go.Mod
/- The document's Parse: a part's word. -/
set_option linter.unusedVariables false
set_option linter.unusedSimpArgs false
namespace Go.Mod
open Go.Lib

/-- A part's word as the document reads it. -/
def partD (w : Bs) : PartL × Int :=
  if nestL w = true then (⟨0, 0, 0⟩, 18) else
  if colN w = w.length then (⟨0, 0, 0⟩, 10) else
  if w.take (colN w) = kRun then match numL (w.drop (colN w + 1)) with
    | some v => (⟨1, v, 0⟩, 0)
    | none => (⟨0, 0, 0⟩, 10) else
  if w.take (colN w) = kSleep then match numL (w.drop (colN w + 1)) with
    | some v => (⟨2, v, 0⟩, 0)
    | none => (⟨0, 0, 0⟩, 10) else
  if w.take (colN w) = kLock then match numL ((w.drop (colN w + 1)).take (colN (w.drop (colN w + 1)))) with
    | none => (⟨0, 0, 0⟩, 10)
    | some a => if colN (w.drop (colN w + 1)) = (w.drop (colN w + 1)).length then (⟨0, 0, 0⟩, 10) else
      match numL ((w.drop (colN w + 1)).drop (colN (w.drop (colN w + 1)) + 1)) with
      | some v => (⟨3, v, a⟩, 0)
      | none => (⟨0, 0, 0⟩, 10)
  else (⟨0, 0, 0⟩, 10)
theorem partD_eq (w : Bs) : partD w = readsL w := by
  unfold partD readsL
  by_cases hn : nestL w = true
  · rw [if_pos hn, if_pos hn]
  rw [if_neg hn, if_neg hn]
  by_cases hc : colN w = w.length
  · rw [if_pos hc]
    unfold partL
    rw [cutAt_no (col_no hc)]
    simp [numsL]
  rw [if_neg hc]
  obtain ⟨e, h1⟩ := col_split hc
  have hcut : cutAt 58 w = w.take (colN w) :: cutAt 58 (w.drop (colN w + 1)) := by
    conv => lhs; rw [e]
    exact cutAt_app h1
  unfold partL
  rw [hcut]
  generalize w.take (colN w) = h
  generalize w.drop (colN w + 1) = r
  simp only []
  have hone := nums_one r
  by_cases hr : h = kRun
  · rw [if_pos hr, ← hone]
    subst hr
    cases numsL (cutAt 58 r) with
    | none => rfl
    | some n =>
      simp only []
      by_cases hl : n.length = 1
      · rw [if_pos hl, if_pos ⟨by first | trivial | rfl, hl⟩]
      · rw [if_neg hl, if_neg (fun h => hl h.2), if_neg (fun h => by cases h.1), if_neg (fun h => by cases h.1)]
  rw [if_neg hr]
  by_cases hs : h = kSleep
  · rw [if_pos hs, ← hone]
    subst hs
    cases numsL (cutAt 58 r) with
    | none => rfl
    | some n =>
      simp only []
      by_cases hl : n.length = 1
      · rw [if_pos hl, if_neg (fun h => by cases h.1), if_pos ⟨by first | trivial | rfl, hl⟩]
      · rw [if_neg hl, if_neg (fun h => by cases h.1), if_neg (fun h => hl h.2), if_neg (fun h => by cases h.1)]
  rw [if_neg hs]
  by_cases hk : h = kLock
  · rw [if_pos hk]
    subst hk
    by_cases hc2 : colN r = r.length
    · have hcut2 := cutAt_no (col_no hc2)
      rw [hcut2]
      unfold numsL numsL
      rw [hc2, List.take_length]
      cases numL r with
      | none => rfl
      | some a =>
        simp only []
        rw [if_pos trivial, if_neg (fun h => by cases h.1), if_neg (fun h => by cases h.1), if_neg (fun h => by cases h.2)]
    · obtain ⟨e2, h2⟩ := col_split hc2
      have hcut2 : cutAt 58 r = r.take (colN r) :: cutAt 58 (r.drop (colN r + 1)) := by
        conv => lhs; rw [e2]
        exact cutAt_app h2
      rw [hcut2]
      have hone2 := nums_one (r.drop (colN r + 1))
      unfold numsL
      cases numL (r.take (colN r)) with
      | none => rfl
      | some a =>
        simp only []
        rw [if_neg hc2, ← hone2]
        cases numsL (cutAt 58 (r.drop (colN r + 1))) with
        | none => rfl
        | some n =>
          simp only []
          by_cases hl : n.length = 1
          · rw [if_pos hl, if_neg (fun h => by cases h.1), if_neg (fun h => by cases h.1), if_pos ⟨by first | trivial | rfl, by simp [hl]⟩]
            simp
          · rw [if_neg hl, if_neg (fun h => by cases h.1), if_neg (fun h => by cases h.1), if_neg (fun h => hl (by have := h.2; simpa using this))]
  · rw [if_neg hk]
    cases numsL (cutAt 58 r) with
    | none => rfl
    | some n =>
      simp only []
      rw [if_neg (fun h => hr h.1), if_neg (fun h => hs h.1), if_neg (fun h => hk h.1)]
end Go.Mod
/- The document's Parse: a part's word, the walk. -/
set_option linter.unusedVariables false
set_option linter.unusedSimpArgs false
namespace Go.Mod
open Go.Lib

section
variable {mp : FuncId → Option MDef} {H : MH}
theorem slTo {l : Bs} {i : Nat} (h : i ≤ l.length) : mpure (.slstr false true) [.string (B l), .int .i64 (i : Int)] = some (.string (B (l.take i))) := by
  rw [ev_slstr_ft, if_pos (by rw [B_size]; omega)]
  have e2 : (i : Int).toNat = i := by omega
  rw [e2, B_extract]; simp
theorem slFrom {l : Bs} {i : Nat} (h : i ≤ l.length) : mpure (.slstr true false) [.string (B l), .int .i64 (i : Int)] = some (.string (B (l.drop i))) := by
  rw [ev_slstr_tf, if_pos (by rw [B_size]; omega)]
  have e2 : (i : Int).toNat = i := by omega
  rw [e2, B_extract]
  congr 3
  rw [B_size]; exact List.take_of_length_le (by simp)
theorem R_partR (hf : mp 48 = some (.code m48)) (h46 : mp 46 = some (.code m46)) (h47 : mp 47 = some (.code m47)) (h65 : mp 65 = some (.code m65)) {w : Bs} (hw : w.length ≤ 100000) :
    ∃ X, R mp 48 [.string (B w)] H = some (.tuple #[.agg (partC (partD w).1).toArray, .int .i64 (partD w).2], H ++ X) := by
  have qn := fun H => R_nestedR (mp := mp) (H := H) h47 h65 (l := w) hw
  unfold partD
  by_cases hn : nestL w = true
  · rw [if_pos hn]
    rw [hn] at qn
    refine ⟨[.cells ⟨0, true, false⟩ [.int .i64 0, .int .i64 0, .int .i64 0]], ?_⟩
    rw [R_code hf]
    simp [m48, qn, stx, ldnx, partC]
  rw [if_neg hn]
  have hn' : nestL w = false := by simpa using hn
  rw [hn'] at qn
  have l1 : Rc mp (.loop m48_1) [(0, .string (B w)), (2, .pointer (some ⟨H.length, 0, none⟩)), (4, .int .i64 0)] (H ++ [.cells ⟨0, true, false⟩ [.int .i64 0, .int .i64 0, .int .i64 0]]) =
      some (.exit 0, [(0, .string (B w)), (2, .pointer (some ⟨H.length, 0, none⟩)), (4, .int .i64 (colN w : Int)), (24, .bool false)], H ++ [.cells ⟨0, true, false⟩ [.int .i64 0, .int .i64 0, .int .i64 0]]) := by
    have := colon_loop1 (mp := mp) (H := H ++ [.cells ⟨0, true, false⟩ [.int .i64 0, .int .i64 0, .int .i64 0]]) hw (v2 := .pointer (some ⟨H.length, 0, none⟩)) w 0 rfl (by omega)
    rw [Nat.zero_add] at this
    exact this
  have hle := colN_le w
  by_cases hc : colN w = w.length
  · rw [if_pos hc]
    rw [hc] at l1
    refine ⟨[.cells ⟨0, true, false⟩ [.int .i64 0, .int .i64 0, .int .i64 0]], ?_⟩
    rw [R_code hf]
    simp [m48, qn, l1, stx, ldnx, partC]
  rw [if_neg hc]
  have hc' : ¬ (colN w : Int) = (w.length : Int) := by omega
  have w1 : IntKind.i64.wrap ((colN w : Int) + 1) = (colN w : Int) + 1 := wrap_i64 (by omega) (by omega)
  have f1 := slFrom (l := w) (i := colN w + 1) (by omega)
  have f2 := slTo (l := w) (i := colN w) hle
  rw [show ((colN w + 1 : Nat) : Int) = (colN w : Int) + 1 by omega] at f1
  have hrl : (w.drop (colN w + 1)).length ≤ 100000 := by simp; omega
  generalize w.drop (colN w + 1) = r at f1 hrl
  generalize w.take (colN w) = h at f2
  have qr := fun H => R_numR (mp := mp) (H := H) h46 (l := r)
  by_cases hr : h = kRun
  · rw [if_pos hr]
    subst hr
    cases hq : numL r with
    | none =>
      rw [hq] at qr
      refine ⟨[.cells ⟨0, true, false⟩ [.int .i64 0, .int .i64 0, .int .i64 0], .cells ⟨0, true, false⟩ [.int .i64 1, .int .i64 0, .int .i64 0]], ?_⟩
      rw [R_code hf]
      simp [-ev_slstr_tf, -ev_slstr_ft, m48, qn, l1, hc, hc', w1, f1, f2, mdraw_full, kRun, qr, stx, ldnx, partC]
    | some v =>
      rw [hq] at qr
      refine ⟨[.cells ⟨0, true, false⟩ [.int .i64 1, .int .i64 v, .int .i64 0], .cells ⟨0, true, false⟩ [.int .i64 1, .int .i64 v, .int .i64 0]], ?_⟩
      rw [R_code hf]
      simp [-ev_slstr_tf, -ev_slstr_ft, m48, qn, l1, hc, hc', w1, f1, f2, mdraw_full, kRun, qr, stx, ldnx, partC]
  rw [if_neg hr]
  have hr' : ¬ h = [114, 117, 110] := hr
  by_cases hs : h = kSleep
  · rw [if_pos hs]
    subst hs
    cases hq : numL r with
    | none =>
      rw [hq] at qr
      refine ⟨[.cells ⟨0, true, false⟩ [.int .i64 0, .int .i64 0, .int .i64 0], .cells ⟨0, true, false⟩ [.int .i64 2, .int .i64 0, .int .i64 0]], ?_⟩
      rw [R_code hf]
      simp [-ev_slstr_tf, -ev_slstr_ft, m48, qn, l1, hc, hc', w1, f1, f2, mdraw_full, kSleep, qr, stx, ldnx, partC]
    | some v =>
      rw [hq] at qr
      refine ⟨[.cells ⟨0, true, false⟩ [.int .i64 2, .int .i64 v, .int .i64 0], .cells ⟨0, true, false⟩ [.int .i64 2, .int .i64 v, .int .i64 0]], ?_⟩
      rw [R_code hf]
      simp [-ev_slstr_tf, -ev_slstr_ft, m48, qn, l1, hc, hc', w1, f1, f2, mdraw_full, kSleep, qr, stx, ldnx, partC]
  rw [if_neg hs]
  have hs' : ¬ h = [115, 108, 101, 101, 112] := hs
  by_cases hk : h = kLock
  · rw [if_pos hk]
    subst hk
    have l0 : Rc mp (.loop m48_0) [(2, .pointer (some ⟨H.length, 0, none⟩)), (5, .pointer (some ⟨H.length + 1, 0, none⟩)), (6, .string (B r)), (7, .int .i64 0)] (H ++ [.cells ⟨0, true, false⟩ [.int .i64 0, .int .i64 0, .int .i64 0], .cells ⟨0, true, false⟩ [.int .i64 3, .int .i64 0, .int .i64 0]]) =
        some (.exit 3, [(2, .pointer (some ⟨H.length, 0, none⟩)), (5, .pointer (some ⟨H.length + 1, 0, none⟩)), (6, .string (B r)), (7, .int .i64 (colN r : Int)), (59, .bool false)], H ++ [.cells ⟨0, true, false⟩ [.int .i64 0, .int .i64 0, .int .i64 0], .cells ⟨0, true, false⟩ [.int .i64 3, .int .i64 0, .int .i64 0]]) := by
      have := colon_loop0 (mp := mp) (H := H ++ [.cells ⟨0, true, false⟩ [.int .i64 0, .int .i64 0, .int .i64 0], .cells ⟨0, true, false⟩ [.int .i64 3, .int .i64 0, .int .i64 0]]) hrl (v2 := .pointer (some ⟨H.length, 0, none⟩)) (v5 := .pointer (some ⟨H.length + 1, 0, none⟩)) r 0 rfl (by omega)
      rw [Nat.zero_add] at this
      exact this
    have hler := colN_le r
    have g2 := slTo (l := r) (i := colN r) hler
    have qa := fun H => R_numR (mp := mp) (H := H) h46 (l := r.take (colN r))
    generalize r.take (colN r) = x at g2 qa
    cases hq : numL x with
    | none =>
      rw [hq] at qa
      refine ⟨[.cells ⟨0, true, false⟩ [.int .i64 0, .int .i64 0, .int .i64 0], .cells ⟨0, true, false⟩ [.int .i64 3, .int .i64 0, .int .i64 0]], ?_⟩
      rw [R_code hf]
      simp [-ev_slstr_tf, -ev_slstr_ft, m48, qn, l1, hc, hc', w1, f1, f2, mdraw_full, kLock, l0, g2, qa, stx, ldnx, partC]
    | some a =>
      rw [hq] at qa
      simp only []
      by_cases hc2 : colN r = r.length
      · rw [if_pos hc2]
        rw [hc2] at l0 g2
        refine ⟨[.cells ⟨0, true, false⟩ [.int .i64 0, .int .i64 0, .int .i64 0], .cells ⟨0, true, false⟩ [.int .i64 3, .int .i64 0, .int .i64 0]], ?_⟩
        rw [R_code hf]
        simp [-ev_slstr_tf, -ev_slstr_ft, m48, qn, l1, hc, hc', w1, f1, f2, mdraw_full, kLock, l0, g2, qa, stx, ldnx, partC]
      · rw [if_neg hc2]
        have hc2' : ¬ (colN r : Int) = (r.length : Int) := by omega
        have w2 : IntKind.i64.wrap ((colN r : Int) + 1) = (colN r : Int) + 1 := wrap_i64 (by omega) (by omega)
        have g1 := slFrom (l := r) (i := colN r + 1) (by omega)
        rw [show ((colN r + 1 : Nat) : Int) = (colN r : Int) + 1 by omega] at g1
        have qy := fun H => R_numR (mp := mp) (H := H) h46 (l := r.drop (colN r + 1))
        generalize r.drop (colN r + 1) = y at g1 qy
        cases hq2 : numL y with
        | none =>
          rw [hq2] at qy
          refine ⟨[.cells ⟨0, true, false⟩ [.int .i64 0, .int .i64 0, .int .i64 0], .cells ⟨0, true, false⟩ [.int .i64 3, .int .i64 0, .int .i64 a]], ?_⟩
          rw [R_code hf]
          simp [-ev_slstr_tf, -ev_slstr_ft, m48, qn, l1, hc, hc', w1, f1, f2, mdraw_full, kLock, l0, g2, qa, hc2, hc2', w2, g1, qy, stx, ldnx, partC]
        | some v =>
          rw [hq2] at qy
          refine ⟨[.cells ⟨0, true, false⟩ [.int .i64 3, .int .i64 v, .int .i64 a], .cells ⟨0, true, false⟩ [.int .i64 3, .int .i64 v, .int .i64 a]], ?_⟩
          rw [R_code hf]
          simp [-ev_slstr_tf, -ev_slstr_ft, m48, qn, l1, hc, hc', w1, f1, f2, mdraw_full, kLock, l0, g2, qa, hc2, hc2', w2, g1, qy, stx, ldnx, partC]
  · rw [if_neg hk]
    have hk' : ¬ h = [108, 111, 99, 107] := hk
    refine ⟨[.cells ⟨0, true, false⟩ [.int .i64 0, .int .i64 0, .int .i64 0], .cells ⟨0, true, false⟩ [.int .i64 0, .int .i64 0, .int .i64 0]], ?_⟩
    rw [R_code hf]
    simp [-ev_slstr_tf, -ev_slstr_ft, m48, qn, l1, hc, hc', w1, f1, f2, mdraw_full, hr', hs', hk', stx, ldnx, partC]
end
end Go.Mod
/- The document's Parse: a task's words. -/
set_option linter.unusedVariables false
set_option linter.unusedSimpArgs false
namespace Go.Mod
open Go.Lib

theorem readsL_bad {w : Bs} (h : nestL w = false) (h0 : ¬ (readsL w).2 = 0) : (readsL w).2 = 10 := by
  unfold readsL at h0 ⊢
  rw [if_neg (by rw [h]; decide)] at h0 ⊢
  cases hp : partL w with
  | none => rfl
  | some p => rw [hp] at h0; exact absurd rfl h0
section
variable {mp : FuncId → Option MDef} {H : MH}
structure DxP (mp : FuncId → Option MDef) : Prop where
  n46 : mp 46 = some (.code m46)
  n47 : mp 47 = some (.code m47)
  n65 : mp 65 = some (.code m65)
  n48 : mp 48 = some (.code m48)
  n22 : mp 22 = some (.code m22)
  n24 : mp 24 = some (.code m24)
  n23 : mp 23 = some (.code m23)
  n31 : mp 31 = some (.code m31)
theorem dnest_loop (D : DxP mp) {ws : List Bs} (hws : ∀ w ∈ ws, w.length ≤ 100000) (hlen : ws.length ≤ 100001) {sa : Option Addr} {sn sc b2 : Nat} (hr : Row 1 H (.slice sa sn sc) (sv ws)) (hz : H[b2]? = some zTask) :
    ∀ (k i : Nat), i + k = ws.length →
    (((ws.drop i).any nestL = true ∧ Rc mp (.loop m24_1) [(0, .slice sa sn sc), (2, .pointer (some ⟨b2, 0, none⟩)), (4, .int .i64 (i : Int))] H = some (.ret, [(2, .pointer (some ⟨b2, 0, none⟩)), (3, .int .i64 18)], H)) ∨
     ((ws.drop i).any nestL = false ∧ Rc mp (.loop m24_1) [(0, .slice sa sn sc), (2, .pointer (some ⟨b2, 0, none⟩)), (4, .int .i64 (i : Int))] H = some (.exit 0, [(0, .slice sa sn sc), (2, .pointer (some ⟨b2, 0, none⟩)), (4, .int .i64 (sn : Int)), (14, .bool false)], H))) := by
  have hn := hr.svn
  have hzs := set_id hz
  unfold zTask at hz hzs
  intro k
  induction k with
  | zero =>
    intro i hi
    have : i = ws.length := by omega
    subst this
    refine .inr ⟨by rw [List.drop_length]; rfl, ?_⟩
    rw [Rc_loop]
    simp [m24_1, hn]
  | succ k ih =>
    intro i hi
    have hil : i < ws.length := by omega
    have hil' : i < sn := by omega
    have hdrop : ws.drop i = ws[i] :: ws.drop (i + 1) := List.drop_eq_getElem_cons hil
    obtain ⟨b, o, j, cs, rfl, hB, hat⟩ := hr.sv (List.getElem?_eq_getElem hil)
    have hld := ld_at hB (o + i)
    rw [hat] at hld
    have hxl : ws[i].length ≤ 100000 := hws _ (List.getElem_mem hil)
    have w : IntKind.i64.wrap ((i : Int) + 1) = (i : Int) + 1 := wrap_i64 (by omega) (by omega)
    rw [hdrop, List.any_cons]
    generalize ws[i] = x at hat hdrop hld hxl
    have q := R_nestedR (mp := mp) (H := H) D.n47 D.n65 (l := x) hxl
    cases hb : nestL x with
    | true =>
      rw [hb] at q
      refine .inl ⟨rfl, ?_⟩
      rw [Rc_loop]
      simp [m24_1, hil', hld, q, stx, hz, hzs]
    | false =>
      rw [hb] at q
      rcases ih (i + 1) (by omega) with ⟨h1, h2⟩ | ⟨h1, h2⟩
      · refine .inl ⟨by rw [Bool.false_or]; exact h1, ?_⟩
        rw [Rc_loop]
        simp [m24_1, hil', hld, q, w]
        exact h2
      · refine .inr ⟨by rw [Bool.false_or]; exact h1, ?_⟩
        rw [Rc_loop]
        simp [m24_1, hil', hld, q, w]
        exact h2
theorem dtask_loop (D : DxP mp) {ws : List Bs} (hws : ∀ w ∈ ws, w.length ≤ 100000 ∧ nestL w = false) (hlen : ws.length ≤ 100001) {sa : Option Addr} {sn sc : Nat} {b2 b7 : Nat} {nm : ByteArray} {p d q cl : Int} :
    ∀ (k i : Nat) (H : MH) (G : List Nat) (out : List PartL) (v : Value), i + k = ws.length → out.length ≤ i → Stay 1 (.slice sa sn sc) (sv ws) H G → TkA b7 nm p d q cl v out H G → H[b2]? = some zTask → b2 ∉ G →
    (∃ ps, tailL (ws.drop i) = some ps ∧ ∃ (H' : MH) (G' : List Nat) (v' : Value), Rc mp (.loop m24_0) [(0, .slice sa sn sc), (2, .pointer (some ⟨b2, 0, none⟩)), (7, .pointer (some ⟨b7, 0, none⟩)), (8, .int .i64 (i : Int))] H =
        some (.exit 2, [(0, .slice sa sn sc), (2, .pointer (some ⟨b2, 0, none⟩)), (7, .pointer (some ⟨b7, 0, none⟩)), (8, .int .i64 (sn : Int)), (55, .bool false)], H') ∧ TkA b7 nm p d q cl v' (out ++ ps) H' G' ∧ Upd H G H' G') ∨
    (tailL (ws.drop i) = none ∧ ∃ (H' : MH) (G' : List Nat), Rc mp (.loop m24_0) [(0, .slice sa sn sc), (2, .pointer (some ⟨b2, 0, none⟩)), (7, .pointer (some ⟨b7, 0, none⟩)), (8, .int .i64 (i : Int))] H =
        some (.ret, [(2, .pointer (some ⟨b2, 0, none⟩)), (3, .int .i64 10)], H') ∧ Upd H G H' G') := by
  intro k
  induction k with
  | zero =>
    intro i H G out v hi ho hS hT hz hb
    have hn := hS.1.svn
    have : i = ws.length := by omega
    subst this
    refine .inl ⟨[], by rw [List.drop_length]; rfl, H, G, v, ?_, by simpa using hT, Upd.refl _ _⟩
    rw [Rc_loop]
    simp [m24_0, hn]
  | succ k ih =>
    intro i H G out v hi ho hS hT hz hb
    have hn := hS.1.svn
    have hil : i < ws.length := by omega
    have hil' : i < sn := by omega
    have hdrop : ws.drop i = ws[i] :: ws.drop (i + 1) := List.drop_eq_getElem_cons hil
    obtain ⟨b, o, j, cs, rfl, hB, hat⟩ := hS.1.sv (List.getElem?_eq_getElem hil)
    have hld := ld_at hB (o + i)
    rw [hat] at hld
    have hxl := hws _ (List.getElem_mem hil)
    have w : IntKind.i64.wrap ((i : Int) + 1) = (i : Int) + 1 := wrap_i64 (by omega) (by omega)
    generalize ws[i] = x at hat hdrop hld hxl
    obtain ⟨X, q1⟩ := R_partR (H := H) D.n48 D.n46 D.n47 D.n65 (w := x) hxl.1
    have x1 : Ext H (H ++ X) := ⟨X, rfl⟩
    have hbad := readsL_bad hxl.2
    rw [hdrop]
    unfold tailL
    rw [partD_eq] at q1
    generalize readsL x = pe at q1 hbad
    obtain ⟨⟨pk, pl, pr⟩, e⟩ := pe
    simp only [partC] at q1
    simp only [] at hbad
    generalize H ++ X = H1 at q1 x1
    have e1 : Ext H (H1 ++ [.cells ⟨0, true, false⟩ [.int .i64 pk, .int .i64 pl, .int .i64 pr]]) := x1.trans ⟨[_], rfl⟩
    have u1 := Upd.ext (F := G) e1
    have hz1 : (H1 ++ [MObj.cells ⟨0, true, false⟩ [.int .i64 pk, .int .i64 pl, .int .i64 pr]])[b2]? = some zTask := e1.get hz
    have hzs := set_id hz1
    unfold zTask at hzs hz1
    by_cases he : e = 0
    · subst he
      rw [if_pos rfl]
      have hT1 : TkA b7 nm p d q cl v out (H1 ++ [.cells ⟨0, true, false⟩ [.int .i64 pk, .int .i64 pl, .int .i64 pr]]) G := (Pt.good.star OwnA.good).ext hT e1
      have hP1 : (H1 ++ [MObj.cells ⟨0, true, false⟩ [.int .i64 pk, .int .i64 pl, .int .i64 pr]])[b7]? = some (.cells ⟨0, true, false⟩ [.string nm, .int .i64 p, .int .i64 d, .int .i64 q, .int .i64 cl, v]) := star_at hT1
      have hv1 : isUnk v = false := by
        obtain ⟨A, C, h1, h2, _⟩ := hT1
        rcases h2 with ⟨rfl, _⟩ | ⟨bb, nn, cc, cs', rfl, _⟩ <;> rfl
      obtain ⟨v', H2, H3, G3, a1, a2, a3, a4⟩ := push_fld (k := 5) (bytes := 24) hT1 rfl (by simp) (parts_one out) (xs := [.int .i64 pk, .int .i64 pl, .int .i64 pr]) rfl rfl (by omega) (by rw [parts_len]; omega) (by omega)
      have a3' : TkA b7 nm p d q cl v' (out ++ [⟨pk, pl, pr⟩]) H3 G3 := by
        unfold TkA
        rw [List.flatMap_append]
        simpa [partC] using a3
      have hb3 : b2 ∉ G3 := fun h => by
        rcases a4.new _ h with h | h
        · exact hb h
        · have := (List.getElem?_eq_some_iff.1 hz1).1; omega
      have hld5 := ld_at hP1 5
      simp at a1
      rcases ih (i + 1) H3 G3 (out ++ [⟨pk, pl, pr⟩]) v' (by omega) (by simp; omega) ((hS.upd u1).upd a4) a3' (a4.get hz1 hb) hb3 with ⟨ps, h1, H', G', v'', h2, h3, h4⟩ | ⟨h1, H', G', h2, h4⟩
      · refine .inl ⟨⟨pk, pl, pr⟩ :: ps, by rw [h1]; rfl, H', G', v'', ?_, by simpa using h3, u1.trans (a4.trans h4)⟩
        rw [Rc_loop]
        simp [m24_0, hil', hld, w, q1, stx, ldnx, hld5, hv1, a1, a2]
        exact h2
      · refine .inr ⟨by rw [h1]; rfl, H', G', ?_, u1.trans (a4.trans h4)⟩
        rw [Rc_loop]
        simp [m24_0, hil', hld, w, q1, stx, ldnx, hld5, hv1, a1, a2]
        exact h2
    · rw [if_neg he]
      have h10 := hbad he
      subst h10
      refine .inr ⟨rfl, H1 ++ [.cells ⟨0, true, false⟩ [.int .i64 pk, .int .i64 pl, .int .i64 pr]], G, ?_, u1⟩
      rw [Rc_loop]
      simp [m24_0, hil', hld, w, q1, stx, he, hz1, hzs]
theorem R_taskR (D : DxP mp) {ws : List Bs} (hws : ∀ w ∈ ws, w.length ≤ 100000) (hne : ws ≠ []) (hlen : ws.length ≤ 100001) {sa : Option Addr} {sn sc : Nat} (hr : Row 1 H (.slice sa sn sc) (sv ws)) :
    ∃ H', Ext H H' ∧ ((∃ e, taskD ws = .inr e ∧ ¬ e = 0 ∧ R mp 24 [.slice sa sn sc] H = some (.tuple #[.agg #[.string ⟨#[]⟩, .int .i64 0, .int .i64 0, .int .i64 0, .int .i64 0, .slice none 0 0], .int .i64 e], H')) ∨
      ∃ tk a c, taskD ws = .inl tk ∧ taskL ws = some tk ∧ R mp 24 [.slice sa sn sc] H = some (.tuple #[.agg (taskC (tk.at a c)).toArray, .int .i64 0], H') ∧ RowG 3 H' a tk.parts partC ∧ tk.parts.length ≤ 100001) := by
  have hf := D.n24
  have hn := hr.svn
  have hpos : 0 < ws.length := List.length_pos_iff.2 hne
  have hE1 : Ext H (H ++ [zTask]) := ⟨_, rfl⟩
  have hr1 := row_ext' hr hE1
  have hz1 : (H ++ [zTask])[H.length]? = some zTask := by simp
  have hlp := dnest_loop D hws hlen hr1 hz1 ws.length 0 (by omega)
  have hzs := set_id hz1
  unfold zTask at hlp hz1 hzs
  simp at hlp
  unfold taskD
  rcases hlp with ⟨g1, g2⟩ | ⟨g1, g2⟩
  · have hany : ws.any nestL = true := by simpa using g1
    rw [if_pos hany]
    refine ⟨_, hE1, .inl ⟨18, rfl, by decide, ?_⟩⟩
    rw [R_code hf]
    simp [m24, g2, zTask, ldnx]
  · have hany : ws.any nestL = false := by simpa using g1
    rw [if_neg (by rw [hany]; decide)]
    have hws2 : ∀ w ∈ ws, w.length ≤ 100000 ∧ nestL w = false := fun w hw => ⟨hws w hw, by
      cases hb : nestL w with
      | false => rfl
      | true => rw [List.any_eq_false] at hany; exact absurd hb (hany w hw)⟩
    unfold taskL
    by_cases h6 : ws.length < 6
    · rw [if_pos h6]
      have h6' : (sn : Int) < 6 := by omega
      refine ⟨_, hE1, .inl ⟨10, rfl, by decide, ?_⟩⟩
      rw [R_code hf]
      simp [m24, g2, h6', zTask, stx, ldnx]
    · rw [if_neg h6]
      have h6' : ¬ (sn : Int) < 6 := by omega
      obtain ⟨a2, n2, c2, q2, r2⟩ := row_mid hr1 (k := 2) (m := 6) (by omega) (by omega) (by omega)
      have q2' : mread (.sl 1 true true false) [.slice sa sn sc, .int .i64 2, .int .i64 6] (H ++ [zTask]) = some (.slice a2 n2 c2) := q2
      have r2' : Row 1 (H ++ [zTask]) (.slice a2 n2 c2) (sv ((ws.drop 2).take 4)) := by simpa [sv, List.map_drop, List.map_take] using r2
      obtain ⟨a3, n3, cLACK3, H2, g3, x3, r3⟩ := R_ints D.n22 D.n46 (ws := (ws.drop 2).take 4) (fun x hx => hws x (List.mem_of_mem_drop (List.mem_of_mem_take hx))) (by simp; omega) r2'
      have hE2 := hE1.trans x3
      have hz2 := x3.get (show (H ++ [zTask])[H.length]? = some zTask by simp)
      have hzs2 := set_id hz2
      unfold zTask at q2' g3 hz2 hzs2
      cases hq : numsL ((ws.drop 2).take 4) with
      | none =>
        rw [hq] at g3
        refine ⟨H2, hE2, .inl ⟨10, rfl, by decide, ?_⟩⟩
        rw [R_code hf]
        simp [m24, g2, h6', q2', g3, stx, ldnx, hz2, hzs2]
      | some ns =>
        have hl4 := numsL_len hq
        rw [hq] at g3 r3
        obtain ⟨x0, x1', x2, x3', rfl⟩ : ∃ p q r s, ns = [p, q, r, s] := by
          have : ns.length = 4 := by rw [hl4]; simp; omega
          match ns, this with
          | [p, q, r, s], _ => exact ⟨p, q, r, s, rfl⟩
        simp only [Option.getD_some, Option.isSome_some] at g3 r3
        have hn3 := row_len r3
        simp [i64s_len] at hn3
        subst hn3
        have e3 : ∀ o, Ext H2 (H2 ++ [o]) := fun o => ⟨[o], rfl⟩
        obtain ⟨b1, o1, rfl, l1, _⟩ := row_get (row_ext' r3 (e3 .dead)) (k := 0) (x := .int .i64 x0) rfl
        rw [Nat.add_zero] at l1
        obtain ⟨b1', o1', e1', l2, _⟩ := row_get (row_ext' r3 (e3 .dead)) (k := 1) (x := .int .i64 x1') rfl
        cases e1'
        obtain ⟨b1', o1', e1', l3, _⟩ := row_get (row_ext' r3 (e3 .dead)) (k := 2) (x := .int .i64 x2) rfl
        cases e1'
        obtain ⟨b1', o1', e1', l4, _⟩ := row_get (row_ext' r3 (e3 .dead)) (k := 3) (x := .int .i64 x3') rfl
        cases e1'
        have hr2 := row_ext' hr1 x3
        have hw1 : ws[1]? = some (ws.getD 1 []) := by rw [List.getD_eq_getElem?_getD, List.getElem?_eq_getElem (by omega)]; rfl
        obtain ⟨b4, o4, rfl, l5, _⟩ := row_get (row_ext' hr2 (e3 .dead)) (k := 1) (x := .string (B (ws.getD 1 []))) (by simp only [sv, List.getElem?_map, hw1]; rfl)
        generalize ws.getD 1 [] = nm at l5
        have hin : (1 : Int) < (sn : Int) := by omega
        have hTk : TkA H2.length (B nm) x0 x1' x2 x3' (.slice none 0 0) [] (H2 ++ [.cells ⟨0, true, false⟩ [.string (B nm), .int .i64 x0, .int .i64 x1', .int .i64 x2, .int .i64 x3', .slice none 0 0]]) [H2.length] :=
          ⟨[H2.length], [], ⟨rfl, by simp⟩, .inl ⟨rfl, rfl, rfl⟩, by simp, by simp⟩
        have hlt2 : H.length < H2.length := (List.getElem?_eq_some_iff.1 hz2).1
        have hb3 : (H2 ++ [MObj.cells ⟨0, true, false⟩ [.string (B nm), .int .i64 x0, .int .i64 x1', .int .i64 x2, .int .i64 x3', .slice none 0 0]])[H2.length]? = some (.cells ⟨0, true, false⟩ [.string (B nm), .int .i64 x0, .int .i64 x1', .int .i64 x2, .int .i64 x3', .slice none 0 0]) := by simp
        rcases dtask_loop D (ws := ws) (b2 := H.length) hws2 hlen (ws.length - 6) 6 _ [H2.length] [] (.slice none 0 0) (by omega) (by simp) (stay_ext hr2 (e3 _) (by simp)) hTk ((e3 _).get hz2) (by simp; omega) with ⟨ps, h1, H', G', v', h2, h3, h4⟩ | ⟨h1, H', G', h2, h4⟩
        · have hE4 : Ext H2 H' := by
            have u : Upd H2 [] H' G' := ⟨Nat.le_trans (by simp) h4.len, fun id hid _ => by
              have := h4.same id (by simp; omega) (by simp; omega)
              rw [this, List.getElem?_append_left hid], fun id hid => by
              rcases h4.new id hid with h | h
              · simp at h; exact .inr (by omega)
              · simp at h; exact .inr (by omega)⟩
            exact u.toExt.1
          obtain ⟨A, C, hA, hC, hAC, hG⟩ := h3
          have hbox : H'[H2.length]? = some (.cells ⟨0, true, false⟩ [.string (B nm), .int .i64 x0, .int .i64 x1', .int .i64 x2, .int .i64 x3', v']) := hA.2
          have hrow := Own.row hC
          simp only [List.nil_append] at hrow
          obtain ⟨a7, n7, cLACK7, rfl, hl7⟩ := hrow.slice
          rw [parts_len] at hl7
          obtain ⟨hg, hgn⟩ := RowG.of hrow (by omega) fun x hx => ⟨rfl, rfl⟩
          have hz3 := hE4.get hz2
          have hset : ∀ o, (H'.set H.length o)[H.length]? = some o := fun o => List.getElem?_set_self (List.getElem?_eq_some_iff.1 hz3).1
          have hpl : ps.length ≤ 100001 := by have := tailL_len h1; simp at this; omega
          subst hgn
          rw [h1]
          refine ⟨H'.set H.length (.cells ⟨0, true, false⟩ [.string (B nm), .int .i64 x0, .int .i64 x1', .int .i64 x2, .int .i64 x3', .slice a7 ps.length cLACK7]), ext_set (hE2.trans hE4) (Nat.le_refl _), .inr ⟨_, a7, cLACK7, rfl, rfl, ?_, ?_, hpl⟩⟩
          · simp at h2
            rw [R_code hf]
            simp [m24, g2, h6', q2', g3, l1, l2, l3, l4, l5, hin, mdraw_full, stx, ldnx, hb3, h2, hbox, hz3, hset, TaskL.at, taskC]
          · have hrow2 : Row 3 (H'.set H.length (.cells ⟨0, true, false⟩ [.string (B nm), .int .i64 x0, .int .i64 x1', .int .i64 x2, .int .i64 x3', .slice a7 ps.length cLACK7])) (.slice a7 ps.length cLACK7) (ps.flatMap partC) := by
              refine Row.frame (Own.row hC) fun b o n c e => ?_
              rw [List.getElem?_set_ne]
              intro hbe
              rcases hC with ⟨h8, _⟩ | ⟨b', n', c', cs', h8, _, _, _, _, h9⟩
              · rw [e] at h8; cases h8
              · rw [e] at h8; cases h8
                have hbG : b ∈ G' := (hG b).2 (.inr (by rw [h9]; simp))
                rcases h4.new b hbG with h | h
                · simp at h; omega
                · simp at h; omega
            exact (RowG.of hrow2 (by omega) fun x hx => ⟨rfl, rfl⟩).1
        · have hE4 : Ext H2 H' := by
            have u : Upd H2 [] H' G' := ⟨Nat.le_trans (by simp) h4.len, fun id hid _ => by
              have := h4.same id (by simp; omega) (by simp; omega)
              rw [this, List.getElem?_append_left hid], fun id hid => by
              rcases h4.new id hid with h | h
              · simp at h; exact .inr (by omega)
              · simp at h; exact .inr (by omega)⟩
            exact u.toExt.1
          have hz3 := hE4.get hz2
          rw [h1]
          refine ⟨H', hE2.trans hE4, .inl ⟨10, rfl, by decide, ?_⟩⟩
          simp at h2
          rw [R_code hf]
          simp [m24, g2, h6', q2', g3, l1, l2, l3, l4, l5, hin, mdraw_full, stx, ldnx, hb3, h2, hz3]
end
end Go.Mod
/- The document's Parse: the protocol. -/
set_option linter.unusedVariables false
set_option linter.unusedSimpArgs false
namespace Go.Mod
open Go.Lib

section
variable {mp : FuncId → Option MDef} {H : MH}
theorem R_wordR (hf : mp 31 = some (.code m31)) {n : Nat} (h : 1 ≤ n ∧ n ≤ 3) : R mp 31 [.int .i64 (n : Int)] H = some (.string (B (wordN n)), H) := by
  obtain rfl | rfl | rfl : n = 1 ∨ n = 2 ∨ n = 3 := by omega
  all_goals
    rw [R_code hf]
    simp [m31, wordN]
    rfl
theorem R_protoR (D : DxP mp) {ws : List Bs} (hne : ws ≠ []) {sa : Option Addr} {sn sc : Nat} (hr : Row 1 H (.slice sa sn sc) (sv ws)) : R mp 23 [.slice sa sn sc] H = some (.int .i64 (protoD ws), H) := by
  have hn := hr.svn
  have hpos : 0 < ws.length := List.length_pos_iff.2 hne
  obtain ⟨w0, hw0⟩ : ∃ x, ws[0]? = some x := ⟨_, List.getElem?_eq_getElem hpos⟩
  have hd0 : ws.getD 0 [] = w0 := by rw [List.getD_eq_getElem?_getD, hw0]; rfl
  obtain ⟨b, o, rfl, l0, _⟩ := row_get hr (k := 0) (x := .string (B w0)) (by simp [sv, hw0])
  rw [Nat.add_zero] at l0
  simp at l0
  have end4 : Rc mp (.loop m23_0) [(0, .slice (some ⟨b, o, none⟩) sn sc), (3, .int .i64 4)] H = some (.exit 0, [(0, .slice (some ⟨b, o, none⟩) sn sc), (3, .int .i64 4), (5, .bool false)], H) := by
    rw [Rc_loop]
    simp [m23_0]
  unfold protoD
  rw [hd0]
  by_cases hc : w0 = kProtocol ∧ ws.length = 2
  · rw [if_pos hc]
    obtain ⟨rfl, h2⟩ := hc
    have hs2 : sn = 2 := by omega
    subst hs2
    obtain ⟨w1, hw1⟩ : ∃ x, ws[1]? = some x := ⟨_, List.getElem?_eq_getElem (by omega)⟩
    have hd1 : ws.getD 1 [] = w1 := by rw [List.getD_eq_getElem?_getD, hw1]; rfl
    obtain ⟨b', o', e', l1, _⟩ := row_get hr (k := 1) (x := .string (B w1)) (by simp [sv, hw1])
    cases e'
    simp at l1
    rw [hd1]
    have step : ∀ n : Nat, 1 ≤ n → n ≤ 3 → Rc mp (.loop m23_0) [(0, .slice (some ⟨b, o, none⟩) 2 sc), (3, .int .i64 (n : Int))] H =
        if w1 = wordN n then some (.ret, [(2, .int .i64 (n : Int))], H) else Rc mp (.loop m23_0) [(0, .slice (some ⟨b, o, none⟩) 2 sc), (3, .int .i64 ((n : Int) + 1))] H := by
      intro n h1 h3
      have q := R_wordR (mp := mp) (H := H) D.n31 ⟨h1, h3⟩
      have hn3 : (n : Int) ≤ 3 := by omega
      have w : IntKind.i64.wrap ((n : Int) + 1) = (n : Int) + 1 := wrap_i64 (by omega) (by omega)
      conv => lhs; rw [Rc_loop]
      by_cases he : w1 = wordN n
      · rw [if_pos he]
        subst he
        simp [m23_0, hn3, l0, l1, kProtocol, q, mdraw_full, w, ba_refl]
      · rw [if_neg he]
        simp [m23_0, hn3, l0, l1, kProtocol, q, mdraw_full, w, he, ba_refl]
    have s1 := step 1 (by omega) (by omega)
    have s2 := step 2 (by omega) (by omega)
    have s3 := step 3 (by omega) (by omega)
    simp [wordN] at s1 s2 s3
    unfold protoN
    rw [R_code D.n23]
    by_cases e1 : w1 = kFair
    · rw [if_pos e1]
      rw [if_pos e1] at s1
      simp [m23, s1]
    rw [if_neg e1]
    rw [if_neg e1] at s1
    by_cases e2 : w1 = kAgent
    · rw [if_pos e2]
      rw [if_pos e2] at s2
      simp [m23, s1, s2]
    rw [if_neg e2]
    rw [if_neg e2] at s2
    by_cases e3 : w1 = kToken
    · rw [if_pos e3]
      rw [if_pos e3] at s3
      simp [m23, s1, s2, s3]
    rw [if_neg e3]
    rw [if_neg e3] at s3
    simp [m23, s1, s2, s3, end4]
  · rw [if_neg hc]
    have step : ∀ n : Nat, 1 ≤ n → n ≤ 3 → Rc mp (.loop m23_0) [(0, .slice (some ⟨b, o, none⟩) sn sc), (3, .int .i64 (n : Int))] H = Rc mp (.loop m23_0) [(0, .slice (some ⟨b, o, none⟩) sn sc), (3, .int .i64 ((n : Int) + 1))] H := by
      intro n h1 h3
      have hn3 : (n : Int) ≤ 3 := by omega
      have w : IntKind.i64.wrap ((n : Int) + 1) = (n : Int) + 1 := wrap_i64 (by omega) (by omega)
      conv => lhs; rw [Rc_loop]
      by_cases h2 : ws.length = 2
      · have hs2 : sn = 2 := by omega
        subst hs2
        have hw : ¬ w0 = [112, 114, 111, 116, 111, 99, 111, 108] := fun h => hc ⟨h, h2⟩
        simp [m23_0, hn3, l0, hw, mdraw_full, w]
      · have hs2 : ¬ sn = 2 := by omega
        have hs2' : ¬ (sn : Int) = 2 := by omega
        simp [m23_0, hn3, hs2, hs2', mdraw_full, w]
    have s1 := step 1 (by omega) (by omega)
    have s2 := step 2 (by omega) (by omega)
    have s3 := step 3 (by omega) (by omega)
    simp at s1 s2 s3
    rw [R_code D.n23]
    simp [m23, s1, s2, s3, end4]
end
end Go.Mod

/- TextBack: more blanks, empty lines, words behind a mark change no word (plain). -/
import Derived.Test.YthpeamllfledkaaDoorTvB
import Derived.Test.YthpeamllfledkaaDoorWeA
set_option linter.unusedVariables false
set_option linter.unusedSimpArgs false
namespace Go.Mod
open Go.Lib

def moreB : Bs := [32, 32, 35, 32, 109, 111, 114, 101]
def blankB : Bs := [32, 32, 32, 10]
/-- A text with more in it: a behind which lines a mark, b where one more blank, d behind which lines an empty one. -/
def spr (a b d : Nat → Bool) : Nat → Nat → Bs → Bs
  | _, _, [] => []
  | i, n, c :: l => (if c = 10 ∧ a (n + 1) = true then moreB else []) ++ ((if c = 32 ∧ b i = true then [32] else []) ++ ([c] ++ ((if c = 10 ∧ d (n + 1) = true then blankB else []) ++ spr a b d (i + 1) (if c = 10 then n + 1 else n) l)))
def wide (b : Nat → Bool) : Nat → Bs → Bs
  | _, [] => []
  | i, c :: l => (if c = 32 ∧ b i = true then [32] else []) ++ (c :: wide b (i + 1) l)
section
variable {a b d : Nat → Bool}
theorem spr_cons (i n : Nat) (c : UInt8) (l : Bs) : spr a b d i n (c :: l) = (if c = 10 ∧ a (n + 1) = true then moreB else []) ++ ((if c = 32 ∧ b i = true then [32] else []) ++ ([c] ++ ((if c = 10 ∧ d (n + 1) = true then blankB else []) ++ spr a b d (i + 1) (if c = 10 then n + 1 else n) l))) := rfl
theorem wide_cons (i : Nat) (c : UInt8) (l : Bs) : wide b i (c :: l) = (if c = 32 ∧ b i = true then [32] else []) ++ (c :: wide b (i + 1) l) := rfl
theorem wide_no {x : UInt8} (hx : x ≠ 32) : ∀ {l : Bs} {i : Nat}, x ∉ l → x ∉ wide b i l
  | [], _, _ => by simp [wide]
  | c :: l, i, h => by
    simp only [List.mem_cons, not_or] at h
    have ih := wide_no (l := l) (i := i + 1) hx h.2
    unfold wide
    simp only [List.mem_append, List.mem_cons, not_or]
    refine ⟨?_, h.1, ih⟩
    split <;> simp [hx]
theorem spr_line : ∀ {l : Bs} {i n : Nat} {r : Bs}, (10 : UInt8) ∉ l → ∃ j, spr a b d i n (l ++ 10 :: r) = wide b i l ++ ((if a (n + 1) = true then moreB else []) ++ (10 :: ((if d (n + 1) = true then blankB else []) ++ spr a b d j (n + 1) r)))
  | [], i, n, r, _ => ⟨i + 1, by simp [spr, wide]⟩
  | c :: l, i, n, r, h => by
    simp only [List.mem_cons, not_or] at h
    have hc : ¬ c = 10 := fun e => h.1 e.symm
    obtain ⟨j, ih⟩ := spr_line (l := l) (i := i + 1) (n := n) (r := r) h.2
    refine ⟨j, ?_⟩
    rw [List.cons_append, spr_cons, wide_cons]
    simp only [hc, false_and, if_false, List.nil_append]
    rw [ih]
    simp only [List.append_assoc, List.cons_append, List.nil_append]
theorem cut_cons {c : UInt8} {l : Bs} {h : Bs} {r : List Bs} (e : cutAt 32 l = h :: r) : cutAt 32 (c :: l) = if c = 32 then [] :: h :: r else (c :: h) :: r := by
  unfold cutAt
  rw [e]
theorem noE_cons (h : Bs) (r : List Bs) : noE (h :: r) = noE [h] ++ noE r := by
  unfold noE
  rw [← List.filter_append]; rfl
theorem wide_cut {sfx : Bs} (hs : sfx = [] ∨ sfx = [32, 32]) : ∀ (l : Bs) (i : Nat), ∃ h r r', cutAt 32 l = h :: r ∧ cutAt 32 (wide b i l ++ sfx) = h :: r' ∧ noE r' = noE r
  | [], i => by
    rcases hs with rfl | rfl
    · exact ⟨[], [], [], rfl, rfl, rfl⟩
    · exact ⟨[], [], [[], []], rfl, rfl, rfl⟩
  | c :: l, i => by
    obtain ⟨h, r, r', e1, e2, e3⟩ := wide_cut hs l (i + 1)
    by_cases hc : c = 32
    · subst hc
      refine ⟨[], h :: r, (if b i = true then [[]] else []) ++ h :: r', ?_, ?_, ?_⟩
      · rw [cut_cons e1]; rfl
      · unfold wide
        cases hb : b i with
        | true =>
          have e4 := cut_cons (c := 32) e2
          rw [if_pos rfl] at e4
          have e5 := cut_cons (c := 32) e4
          rw [if_pos rfl] at e5
          simpa using e5
        | false =>
          have e4 := cut_cons (c := 32) e2
          rw [if_pos rfl] at e4
          simpa using e4
      · have h0 : noE ((if b i = true then [[]] else []) ++ h :: r') = noE (h :: r') := by
          cases b i with
          | true => simp [noE]
          | false => rfl
        rw [h0, noE_cons h r', noE_cons h r, e3]
    · refine ⟨c :: h, r, r', ?_, ?_, e3⟩
      · rw [cut_cons e1, if_neg hc]
      · unfold wide
        have e4 := cut_cons (c := c) e2
        rw [if_neg hc] at e4
        simpa [hc] using e4
theorem wide_words {l : Bs} {i : Nat} (h35 : (35 : UInt8) ∉ l) (m : Bool) : wordsOf (wide b i l ++ (if m = true then moreB else [])) = wordsOf l := by
  have hw := wide_no (b := b) (x := 35) (by decide) (l := l) (i := i) h35
  unfold wordsOf
  have e0 : l.takeWhile (· ≠ 35) = l := by
    have := tw_app (r := []) h35
    rw [List.append_nil] at this
    rw [this]; simp
  rw [e0, tw_app hw]
  have : ∃ sfx : Bs, (sfx = [] ∨ sfx = [32, 32]) ∧ (if m = true then moreB else []).takeWhile (· ≠ 35) = sfx := by
    cases m with
    | true => exact ⟨_, .inr rfl, rfl⟩
    | false => exact ⟨_, .inl rfl, rfl⟩
  obtain ⟨sfx, hs, e⟩ := this
  rw [e]
  obtain ⟨h, r, r', e1, e2, e3⟩ := wide_cut (b := b) hs l i
  rw [e1, e2, noE_cons h r', noE_cons h r, e3]
theorem spr_lines : ∀ (ls : List Bs) (i n : Nat), (∀ l ∈ ls, (10 : UInt8) ∉ l ∧ (35 : UInt8) ∉ l) →
    ∃ ls', spr a b d i n (linesB ls) = linesB ls' ∧ (∀ l ∈ ls', (10 : UInt8) ∉ l) ∧ ∀ j k, (rowsL j ls').map (·.2) = (rowsL k ls).map (·.2)
  | [], _, _, _ => ⟨[], rfl, by simp, fun _ _ => rfl⟩
  | l :: ls, i, n, h => by
    have hl := h l (by simp)
    have e0 : linesB (l :: ls) = l ++ 10 :: linesB ls := by simp [linesB]
    obtain ⟨j0, e1⟩ := spr_line (a := a) (b := b) (d := d) (l := l) (i := i) (n := n) (r := linesB ls) hl.1
    obtain ⟨ls', e2, h2, h3⟩ := spr_lines ls j0 (n + 1) fun x hx => h x (by simp [hx])
    refine ⟨(wide b i l ++ (if a (n + 1) = true then moreB else [])) :: ((if d (n + 1) = true then [[32, 32, 32]] else []) ++ ls'), ?_, ?_, ?_⟩
    · rw [e0, e1, e2]
      cases d (n + 1) with
      | true => simp [linesB, blankB]
      | false => simp [linesB]
    · intro x hx
      rcases List.mem_cons.1 hx with rfl | hx
      · simp only [List.mem_append, not_or]
        refine ⟨wide_no (by decide) hl.1, ?_⟩
        split
        · decide
        · simp
      · rcases List.mem_append.1 hx with hx | hx
        · split at hx
          · simp only [List.mem_cons, List.not_mem_nil, or_false] at hx
            subst hx; decide
          · cases hx
        · exact h2 x hx
    · intro j k
      have hw := wide_words (b := b) (l := l) (i := i) hl.2 (a (n + 1))
      have hd : ∀ j, ∃ j', rowsL j ((if d (n + 1) = true then [[32, 32, 32]] else []) ++ ls') = rowsL j' ls' := fun j => by
        cases d (n + 1) with
        | true => exact ⟨j + 1, rfl⟩
        | false => exact ⟨j, rfl⟩
      obtain ⟨j', ej⟩ := hd (j + 1)
      unfold rowsL
      rw [hw, ej]
      by_cases hz : wordsOf l = []
      · rw [if_pos hz, if_pos hz]; exact h3 _ _
      · rw [if_neg hz, if_neg hz, List.map_cons, List.map_cons, h3 j' (k + 1)]
end
/-! ### what is read hangs on the words -/
theorem head_words {l l' : List (Nat × List Bs)} (h : l'.map (·.2) = l.map (·.2)) : headL l' = headL l := by
  match l, l', h with
  | [], [], _ => rfl
  | [(_, w0)], [(_, w0')], h => cases h; rfl
  | [(_, w0), (_, w1)], [(_, w0'), (_, w1')], h => cases h; rfl
  | (_, w0) :: (_, w1) :: (_, w2) :: l, (_, w0') :: (_, w1') :: (_, w2') :: l', h =>
    simp only [List.map_cons, List.cons.injEq] at h
    obtain ⟨rfl, rfl, rfl, _⟩ := h
    rfl
theorem tasks_words : ∀ {l l' : List (Nat × List Bs)} {ts : List TaskL}, l'.map (·.2) = l.map (·.2) → tasksL l = .inl ts → tasksL l' = .inl ts
  | [], [], ts, _, h => h
  | (i, w) :: l, (i', w') :: l', ts, e, h => by
    simp only [List.map_cons, List.cons.injEq] at e
    obtain ⟨rfl, e⟩ := e
    unfold tasksL at h ⊢
    split at h
    · cases h
    · rename_i hk
      rw [if_neg hk]
      split at h
      · cases h
      · rename_i t ht
        split at h
        · rename_i ts' hts
          rw [tasks_words e hts]
          exact h
        · cases h
theorem parse_words {t u : Bs} {s : SetL} {n : Nat} (h : parseL t = .inr (s, n)) (hw : (rowsL 0 (trimE (cutAt 10 u))).map (·.2) = (rowsL 0 (trimE (cutAt 10 t))).map (·.2)) :
    (2000 < u.length ∧ parseL u = .inl (0, 11)) ∨ ∃ m, parseL u = .inr (s, m) := by
  by_cases hu : 2000 < u.length
  · refine .inl ⟨hu, ?_⟩
    unfold parseL
    rw [if_pos hu]
  · refine .inr ⟨(trimE (cutAt 10 u)).length, ?_⟩
    unfold parseL at h ⊢
    rw [if_neg hu]
    have hh := head_words hw
    simp only [] at h ⊢
    rw [hh]
    generalize hhd : headL (rowsL 0 (trimE (cutAt 10 t))) = hd at h ⊢
    by_cases ht : 2000 < t.length
    · rw [if_pos ht] at h; cases h
    rw [if_neg ht] at h
    by_cases hok : hd.ok = false
    · rw [if_pos hok] at h; cases h
    rw [if_neg hok] at h ⊢
    cases hts : tasksL ((rowsL 0 (trimE (cutAt 10 t))).drop hd.k) with
    | inr e => rw [hts] at h; cases h
    | inl ts =>
      have hd2 := tasks_words (l := (rowsL 0 (trimE (cutAt 10 t))).drop hd.k) (l' := (rowsL 0 (trimE (cutAt 10 u))).drop hd.k) (by rw [List.map_drop, List.map_drop, hw]) hts
      rw [hts] at h
      rw [hd2]
      simp only [] at h ⊢
      by_cases hc : (checkE (plainSet hd.p hd.cores hd.homes ts)).2 = 0
      · rw [if_pos hc] at h ⊢
        cases h; rfl
      · rw [if_neg hc] at h
        split at h
        · cases h
        · split at h <;> cases h
/-- What is printed is read again, with more in it too. -/
theorem parse_spread {s : SetL} (hok : (checkE s).2 = 0) (a b d : Nat → Bool) :
    (2000 < (spr a b d 0 0 (printL s)).length ∧ parseL (spr a b d 0 0 (printL s)) = .inl (0, 11)) ∨ ∃ m, parseL (spr a b d 0 0 (printL s)) = .inr (s.plain, m) := by
  have hgood := rows_good hok
  have hls : ∀ l ∈ (rowsP s).map joinB, (10 : UInt8) ∉ l ∧ (35 : UInt8) ∉ l := by
    intro l hl
    obtain ⟨r, hr, rfl⟩ := List.mem_map.1 hl
    refine ⟨(words_join (hgood r hr).1 (hgood r hr).2).2, fun hc => ?_⟩
    rcases mem_join hc with h1 | ⟨w, hw, h1⟩
    · cases h1
    · exact ((hgood r hr).2 w hw).2.2.1 h1
  obtain ⟨ls', e1, e2, e3⟩ := spr_lines (a := a) (b := b) (d := d) ((rowsP s).map joinB) 0 0 hls
  rw [← print_lines] at e1
  refine parse_words (parse_print hok) ?_
  rw [e1, cut_lines ls' e2, trim_lines, print_lines, cut_lines _ (fun l hl => (hls l hl).1), trim_lines]
  exact e3 0 0
theorem rowsP_count {a b d : Nat → Bool} (s : SetL) : (rowsP s).length = ((rowsP s).map joinB).length := by simp
end Go.Mod

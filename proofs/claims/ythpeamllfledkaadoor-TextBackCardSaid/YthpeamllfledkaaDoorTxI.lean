/- Package text: sets parsed: what is said. -/
import Derived.Test.YthpeamllfledkaaDoorTxH
set_option linter.unusedVariables false
set_option linter.unusedSimpArgs false
namespace Go.Mod
open Go.Lib

def plainSet (p : Int) (cores homes : List Int) (ts : List TaskL) : SetL := ⟨p, cores, none, 0, homes, none, 0, ts, none, 0⟩
def SetL.plain (s : SetL) : SetL := plainSet s.proto s.cores s.homes (s.tasks.map TaskL.plain)
theorem taskE_plain (s : SetL) (i : Nat) (t : TaskL) : taskE s.plain i t.plain = taskE s i t := by
  unfold taskE
  have h1 : formOk t.plain = formOk t := rfl
  have h2 : (∃ o ∈ s.plain.tasks.take i, o.name = t.plain.name ∨ o.prio = t.plain.prio) ↔ ∃ o ∈ s.tasks.take i, o.name = t.name ∨ o.prio = t.prio := by
    show (∃ o ∈ (s.tasks.map TaskL.plain).take i, _) ↔ _
    rw [← List.map_take]
    constructor
    · rintro ⟨o, ho, h⟩
      obtain ⟨x, hx, rfl⟩ := List.mem_map.1 ho
      exact ⟨x, hx, h⟩
    · rintro ⟨o, ho, h⟩
      exact ⟨o.plain, List.mem_map_of_mem ho, h⟩
  have h3 : t.plain.cluster = t.cluster := rfl
  have h4 : t.plain.parts = t.parts := rfl
  have h5 : s.plain.cores = s.cores := rfl
  have h6 : s.plain.homes = s.homes := rfl
  rw [h1, h3, h4, h5, h6]
  simp only [h2]
theorem firstE_plain (s : SetL) : ∀ (l : List TaskL) (i : Nat), firstE s.plain i (l.map TaskL.plain) = firstE s i l
  | [], i => rfl
  | t :: l, i => by
    simp only [List.map_cons, firstE, taskE_plain, firstE_plain s l (i + 1)]
theorem checkE_plain (s : SetL) : checkE s.plain = checkE s := by
  unfold checkE
  have h1 : s.plain.proto = s.proto := rfl
  have h2 : s.plain.cores = s.cores := rfl
  have h3 : s.plain.homes = s.homes := rfl
  have h4 : s.plain.tasks = s.tasks.map TaskL.plain := rfl
  have h5 : firstE s.plain 0 (s.tasks.map TaskL.plain) = firstE s 0 s.tasks := firstE_plain s s.tasks 0
  rw [h1, h2, h3, h4, h5]
  simp only [List.length_map, List.map_eq_nil_iff]
theorem firstE_lt (s : SetL) : ∀ (l : List TaskL) (i : Nat), (firstE s i l).1 = -1 ∧ (firstE s i l).2 = 0 ∨ ∃ j : Nat, (firstE s i l).1 = (j : Int) ∧ i ≤ j ∧ j < i + l.length
  | [], i => .inl ⟨rfl, rfl⟩
  | t :: l, i => by
    unfold firstE
    split
    · rcases firstE_lt s l (i + 1) with h | ⟨j, h1, h2, h3⟩
      · exact .inl h
      · exact .inr ⟨j, h1, by omega, by simp; omega⟩
    · exact .inr ⟨i, rfl, by omega, by simp⟩
theorem checkE_cases (s : SetL) : ((checkE s).1 = -1 ∧ ((checkE s).2 = 0 ∨ (checkE s).2 = 10 ∨ (checkE s).2 = 16 ∨ (checkE s).2 = 11 ∨ (checkE s).2 = 14)) ∨ ∃ j : Nat, (checkE s).1 = (j : Int) ∧ j < s.tasks.length := by
  unfold checkE
  split
  · exact .inl ⟨rfl, .inr (.inl rfl)⟩
  split
  · exact .inl ⟨rfl, .inr (.inr (.inl rfl))⟩
  split
  · exact .inl ⟨rfl, .inr (.inr (.inr (.inl rfl)))⟩
  split
  · exact .inl ⟨rfl, .inr (.inr (.inr (.inr rfl)))⟩
  rcases firstE_lt s s.tasks 0 with h | ⟨j, h1, _, h3⟩
  · exact .inl ⟨h.1, .inl h.2⟩
  · exact .inr ⟨j, h1, by omega⟩

def atL (rows : List (Nat × List Bs)) (k all : Nat) : Int := match rows[k]? with
  | some r => (r.1 : Int)
  | none => (all : Int)
/-- What a text is: which line isn't so, and how; or a set, and how many lines there are. -/
noncomputable def parseL (l : Bs) : (Int × Int) ⊕ (SetL × Nat) :=
  if 2000 < l.length then .inl (0, 11) else
  let lines := trimE (cutAt 10 l)
  let rows := rowsL 0 lines
  let h := headL rows
  if h.ok = false then .inl (atL rows h.k lines.length, 10) else
  match tasksL (rows.drop h.k) with
  | .inr e => .inl ((e.1 : Int), e.2)
  | .inl ts =>
    let c := checkE (plainSet h.p h.cores h.homes ts)
    if c.2 = 0 then .inr (plainSet h.p h.cores h.homes ts, lines.length) else
    if 0 ≤ c.1 then .inl (atL rows (h.k + c.1.toNat) lines.length, c.2) else
    if c.2 = 14 ∨ c.2 = 11 then .inl ((lines.length : Int), c.2) else .inl (atL rows 1 lines.length, c.2)

theorem rowsL_mem : ∀ (ls : List Bs) (i : Nat), ∀ r ∈ rowsL i ls, r.2 ≠ [] ∧ ∃ s ∈ ls, r.2 = wordsOf s
  | [], _, r, h => by cases h
  | s :: l, i, r, h => by
    unfold rowsL at h
    split at h
    · obtain ⟨h1, t, ht, h2⟩ := rowsL_mem l (i + 1) r h
      exact ⟨h1, t, by simp [ht], h2⟩
    · rename_i hw
      rcases List.mem_cons.1 h with rfl | h
      · exact ⟨hw, s, by simp, rfl⟩
      · obtain ⟨h1, t, ht, h2⟩ := rowsL_mem l (i + 1) r h
        exact ⟨h1, t, by simp [ht], h2⟩
theorem rowsL_len : ∀ (ls : List Bs) (i : Nat), (rowsL i ls).length ≤ ls.length
  | [], _ => by simp [rowsL]
  | s :: l, i => by
    have := rowsL_len l (i + 1)
    unfold rowsL
    split <;> simp <;> omega
theorem words_bound (s : Bs) : (wordsOf s).length ≤ s.length + 1 ∧ ∀ w ∈ wordsOf s, w.length ≤ s.length := by
  have h4 := cutAt_len 32 (s.takeWhile (· ≠ 35))
  have h5 := tw_len s (· ≠ 35)
  have h6 := List.length_filter_le (fun x : List UInt8 => decide (x ≠ [])) (cutAt 32 (s.takeWhile (· ≠ 35)))
  unfold wordsOf noE
  refine ⟨by omega, fun w hw => ?_⟩
  have := cutAt_mem_len 32 _ w (List.mem_filter.1 hw).1
  omega
theorem trimE_mem : ∀ {p : List Bs} {x : Bs}, x ∈ trimE p → x ∈ p
  | [], x, h => by cases h
  | [y], x, h => by
    rw [trimE_one] at h
    split at h
    · cases h
    · exact h
  | y :: z :: t, x, h => by
    rw [trimE_cons (by simp)] at h
    rcases List.mem_cons.1 h with rfl | h
    · simp
    · exact List.mem_cons_of_mem _ (trimE_mem h)
theorem trimE_len (p : List Bs) : (trimE p).length ≤ p.length := by
  by_cases h : p = []
  · subst h; simp [trimE]
  · rw [trimE_eq h]; split <;> simp <;> omega
theorem headL_bounds (l : List (Nat × List Bs)) (hl : ∀ r ∈ l, r.2.length ≤ 100000) : (headL l).cores.length ≤ 100000 ∧ (headL l).homes.length ≤ 100000 ∧ ((headL l).ok = true → 2 ≤ (headL l).k ∧ (headL l).k ≤ l.length) := by
  unfold headL
  split
  · simp
  rename_i i0 w0 l1
  split
  · simp
  split
  · simp
  split
  · simp
  rename_i i1 w1 l2
  split
  · simp
  split
  · simp
  rename_i cs hcs
  have h1 := numsL_len hcs
  have h2 := hl (i1, w1) (by simp)
  split
  · simp
  split
  · simp at h1 h2 ⊢; omega
  rename_i i2 w2 l3
  have h3 := hl (i2, w2) (by simp)
  split
  · simp at h1 h2 ⊢; omega
  split
  · simp
  rename_i hs hhs
  have h4 := numsL_len hhs
  split
  · simp
  · simp at h1 h2 h3 h4 ⊢; omega
theorem tasksL_len : ∀ {l : List (Nat × List Bs)} {ts : List TaskL}, tasksL l = .inl ts → ts.length = l.length
  | [], ts, h => by cases h; rfl
  | (i, w) :: l, ts, h => by
    unfold tasksL at h
    split at h <;> first | contradiction | skip
    split at h <;> first | contradiction | skip
    split at h <;> first | contradiction | skip
    rename_i ts' hts
    cases h
    simp [tasksL_len hts]
end Go.Mod

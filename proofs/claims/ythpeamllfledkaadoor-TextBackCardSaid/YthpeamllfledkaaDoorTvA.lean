/- Package text: what is printed is read again (plain): words, lines, numbers, parts. -/
import Derived.Test.YthpeamllfledkaaDoorTpE
set_option linter.unusedVariables false
set_option linter.unusedSimpArgs false
namespace Go.Mod
open Go.Lib

/-! ### words with blanks between, lines -/
def joinB : List Bs → Bs
  | [] => []
  | w :: ws => w ++ ws.flatMap fun x => 32 :: x
def linesB (ls : List Bs) : Bs := ls.flatMap (· ++ [10])
theorem cut_join : ∀ (ws : List Bs) (w : Bs), (∀ x ∈ w :: ws, (32 : UInt8) ∉ x) → cutAt 32 (joinB (w :: ws)) = w :: ws
  | [], w, h => by
    simp only [joinB, List.flatMap_nil, List.append_nil]
    exact cutAt_no (h w (by simp))
  | x :: ws, w, h => by
    have ih := cut_join ws x (fun y hy => h y (by simp [List.mem_cons.1 hy]))
    have e : joinB (w :: x :: ws) = w ++ 32 :: joinB (x :: ws) := by simp [joinB]
    rw [e, cutAt_app (h w (by simp)), ih]
theorem cut_lines : ∀ (ls : List Bs), (∀ l ∈ ls, (10 : UInt8) ∉ l) → cutAt 10 (linesB ls) = ls ++ [[]]
  | [], _ => rfl
  | l :: ls, h => by
    have ih := cut_lines ls fun x hx => h x (by simp [hx])
    have e : linesB (l :: ls) = l ++ 10 :: linesB ls := by simp [linesB]
    rw [e, cutAt_app (h l (by simp)), ih]; rfl
theorem trim_lines : ∀ (ls : List Bs), trimE (ls ++ [[]]) = ls
  | [] => rfl
  | l :: ls => by
    rw [List.cons_append, trimE_cons (by simp), trim_lines ls]
/-- A word that stands alone. -/
def GoodW (w : Bs) : Prop := w ≠ [] ∧ (32 : UInt8) ∉ w ∧ (35 : UInt8) ∉ w ∧ (10 : UInt8) ∉ w
theorem mem_join {c : UInt8} {ws : List Bs} (h : c ∈ joinB ws) : c = 32 ∨ ∃ w ∈ ws, c ∈ w := by
  cases ws with
  | nil => cases h
  | cons w ws =>
    simp only [joinB, List.mem_append, List.mem_flatMap] at h
    rcases h with h | ⟨x, hx, h⟩
    · exact .inr ⟨w, by simp, h⟩
    · rcases List.mem_cons.1 h with rfl | h
      · exact .inl rfl
      · exact .inr ⟨x, by simp [hx], h⟩
theorem words_join {ws : List Bs} (hne : ws ≠ []) (h : ∀ w ∈ ws, GoodW w) : wordsOf (joinB ws) = ws ∧ (10 : UInt8) ∉ joinB ws := by
  constructor
  · unfold wordsOf
    have h35 : (joinB ws).takeWhile (· ≠ 35) = joinB ws := by
      have := List.takeWhile_append_of_pos (p := fun b : UInt8 => decide (b ≠ 35)) (l₁ := joinB ws) (l₂ := []) (fun c hc => by
        simp only [decide_eq_true_eq]
        rintro rfl
        rcases mem_join hc with h1 | ⟨w, hw, h1⟩
        · cases h1
        · exact (h w hw).2.2.1 h1)
      simpa using this
    rw [h35]
    obtain ⟨w, ws, rfl⟩ := List.exists_cons_of_ne_nil hne
    rw [cut_join ws w fun x hx => (h x hx).2.1]
    unfold noE
    exact List.filter_eq_self.2 fun x hx => by simpa using (h x hx).1
  · intro hc
    rcases mem_join hc with h1 | ⟨w, hw, h1⟩
    · cases h1
    · exact (h w hw).2.2.2 h1
/-- Rows, numbered. -/
def numR : Nat → List (List Bs) → List (Nat × List Bs)
  | _, [] => []
  | i, w :: l => (i, w) :: numR (i + 1) l
theorem rows_lines : ∀ (rs : List (List Bs)) (i : Nat), (∀ r ∈ rs, r ≠ [] ∧ ∀ w ∈ r, GoodW w) → rowsL i (rs.map joinB) = numR i rs
  | [], _, _ => rfl
  | r :: rs, i, h => by
    have h1 := h r (by simp)
    have h2 := words_join h1.1 h1.2
    rw [List.map_cons]
    unfold rowsL
    rw [h2.1, if_neg h1.1, rows_lines rs (i + 1) fun x hx => h x (by simp [hx])]
    rfl

/-! ### numbers, parts -/
theorem textL_D {n : Int} {c : UInt8} (h : c ∈ textL n) : 48 ≤ c.toNat ∧ c.toNat ≤ 57 := by
  unfold textL at h
  split at h
  · exact dec_D 7 _ c h
  · cases h
theorem textL_num {n : Int} (h : 0 ≤ n ∧ n ≤ 9999999) : numL (textL n) = some n ∧ textL n ≠ [] := by
  unfold textL
  rw [if_pos h]
  refine ⟨?_, fun e => ?_⟩
  · rw [num_dec (by omega)]; congr 1; omega
  · have := dec_pos 7 n.toNat (by omega) (by omega)
    rw [e] at this; cases this
theorem textL_no {n : Int} {c : UInt8} (h : c.toNat < 48 ∨ 57 < c.toNat) : c ∉ textL n := fun hc => by
  have := textL_D hc; omega
theorem good_text {n : Int} (h : 0 ≤ n ∧ n ≤ 9999999) : GoodW (textL n) := ⟨(textL_num h).2, textL_no (.inl (by decide)), textL_no (.inl (by decide)), textL_no (.inl (by decide))⟩
theorem numsL_text : ∀ {ns : List Int}, (∀ n ∈ ns, 0 ≤ n ∧ n ≤ 9999999) → numsL (ns.map textL) = some ns
  | [], _ => rfl
  | n :: ns, h => by
    rw [List.map_cons]
    unfold numsL
    rw [(textL_num (h n (by simp))).1, numsL_text fun x hx => h x (by simp [hx])]
theorem index_no {c : UInt8} {tl : Bs} : ∀ {s : Bs}, c ∉ s → index s (c :: tl) = -1
  | [], _ => rfl
  | b :: s, h => by
    simp only [List.mem_cons, not_or] at h
    unfold index
    have : (c :: tl).isPrefixOf (b :: s) = false := by
      have : (c == b) = false := by simpa using h.1
      simp [List.isPrefixOf, this]
    rw [this, index_no h.2]
    rfl
theorem cut_kind {k : Bs} (hk : (58 : UInt8) ∉ k) (n : Int) : cutAt 58 (k ++ 58 :: textL n) = [k, textL n] := by
  rw [cutAt_app hk, cutAt_no (textL_no (.inr (by decide)))]
theorem reads_part {nh : Nat} {p : PartL} (h : partOk nh p) (hnh : nh ≤ 1000) : readsL (partT p) = (p, 0) ∧ GoodW (partT p) := by
  obtain ⟨k, l, r⟩ := p
  obtain ⟨⟨h1, h2, h3, h4⟩, h5⟩ := h
  simp only [] at h1 h2 h3 h4 h5
  have hl := textL_num (n := l) ⟨by omega, by omega⟩
  have nl : ∀ c : UInt8, (c.toNat < 48 ∨ 57 < c.toNat) → c ∉ textL l := fun c hc => textL_no hc
  unfold readsL
  by_cases k1 : k = 1
  · subst k1
    have hr : r = 0 := by rcases h5 with h | h <;> omega
    subst hr
    have e : partT ⟨1, l, 0⟩ = kRun ++ 58 :: textL l := rfl
    rw [e]
    have hn : nestL (kRun ++ 58 :: textL l) = false := by
      unfold nestL hasPrefix
      have : kLockC.isPrefixOf (kRun ++ 58 :: textL l) = false := rfl
      rw [this]; rfl
    rw [hn, if_neg (by decide)]
    unfold partL
    rw [cut_kind (by decide) l]
    refine ⟨?_, by simp [kRun], ?_, ?_, ?_⟩
    · simp [numsL, hl.1]
    all_goals
      simp only [List.mem_append, List.mem_cons, not_or]
      exact ⟨by decide, by decide, nl _ (.inl (by decide))⟩
  · by_cases k2 : k = 2
    · subst k2
      have hr : r = 0 := by rcases h5 with h | h <;> omega
      subst hr
      have e : partT ⟨2, l, 0⟩ = kSleep ++ 58 :: textL l := rfl
      rw [e]
      have hn : nestL (kSleep ++ 58 :: textL l) = false := by
        unfold nestL hasPrefix
        have : kLockC.isPrefixOf (kSleep ++ 58 :: textL l) = false := rfl
        rw [this]; rfl
      rw [hn, if_neg (by decide)]
      unfold partL
      rw [cut_kind (by decide) l]
      refine ⟨?_, by simp [kSleep], ?_, ?_, ?_⟩
      · simp [numsL, hl.1, kRun, kSleep]
      all_goals
        simp only [List.mem_append, List.mem_cons, not_or]
        exact ⟨by decide, by decide, nl _ (.inl (by decide))⟩
    · have k3 : k = 3 := by omega
      subst k3
      have hr : 0 ≤ r ∧ r < (nh : Int) := by rcases h5 with h | h <;> omega
      have hr2 := textL_num (n := r) ⟨by omega, by omega⟩
      have nr : ∀ c : UInt8, (c.toNat < 48 ∨ 57 < c.toNat) → c ∉ textL r := fun c hc => textL_no hc
      have e : partT ⟨3, l, r⟩ = kLock ++ 58 :: (textL r ++ 58 :: textL l) := rfl
      rw [e]
      have hn : nestL (kLock ++ 58 :: (textL r ++ 58 :: textL l)) = false := by
        unfold nestL
        have e2 : (kLock ++ 58 :: (textL r ++ 58 :: textL l)).drop 5 = textL r ++ 58 :: textL l := rfl
        rw [e2]
        have e3 : Lib.contains (textL r ++ 58 :: textL l) kLockC = false := by
          unfold Lib.contains kLockC
          rw [index_no]
          · rfl
          · simp only [List.mem_append, List.mem_cons, not_or]
            exact ⟨nr _ (.inr (by decide)), by decide, nl _ (.inr (by decide))⟩
        rw [e3, Bool.and_false]
      rw [hn, if_neg (by decide)]
      unfold partL
      rw [cutAt_app (by decide), cut_kind (nr _ (.inr (by decide))) l]
      refine ⟨?_, by simp [kLock], ?_, ?_, ?_⟩
      · simp [numsL, hl.1, hr2.1, kRun, kSleep, kLock]
      all_goals
        simp only [List.mem_append, List.mem_cons, not_or]
        exact ⟨by decide, by decide, nr _ (.inl (by decide)), by decide, nl _ (.inl (by decide))⟩
end Go.Mod

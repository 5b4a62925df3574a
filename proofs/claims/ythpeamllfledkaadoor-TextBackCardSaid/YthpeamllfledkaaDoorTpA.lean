/- Package text: what is printed: numbers, parts, what a builder holds. -/
import Derived.Test.YthpeamllfledkaaDoorTxI
import Derived.Test.YthpeamllfledkaaDoorWuA
set_option linter.unusedVariables false
set_option linter.unusedSimpArgs false
namespace Go.Mod
open Go.Lib

theorem s_addM {l m : Bs} (h : l.length ≤ 100000) (h2 : m.length ≤ 100000) : mbin .add (.string (B l)) (.string (B m)) = some (.string (B (l ++ m))) := by
  rw [ev_s_add, if_pos (by rw [B_size, B_size]; omega), B_append]
def numsT (ns : List Int) : Bs := ns.flatMap fun n => 32 :: textL n
def partT (p : PartL) : Bs := if p.kind = 1 then kRun ++ 58 :: textL p.len else if p.kind = 2 then kSleep ++ 58 :: textL p.len else kLockC ++ (textL p.res ++ 58 :: textL p.len)
theorem textL_le (n : Int) : (textL n).length ≤ 7 := by
  unfold textL
  split
  · exact dec_len 7 _
  · simp
theorem numsT_len (ns : List Int) : (numsT ns).length ≤ 8 * ns.length := by
  induction ns with
  | nil => simp [numsT]
  | cons n l ih =>
    have := textL_le n
    unfold numsT at ih ⊢
    rw [List.flatMap_cons, List.length_append, List.length_cons, List.length_cons]; omega
section
variable {mp : FuncId → Option MDef} {H : MH}
theorem numsT_loop (h22 : mp 22 = some (.code m22)) (h31 : mp 31 = some (.intr (scalS itoaG))) {ns : List Int} (hl : ns.length ≤ 1000) {a : Option Addr} {n c : Nat} (hr : Row 1 H (.slice a n c) (i64s ns)) : ∀ (k i : Nat), i + k = ns.length →
    Rc mp (.loop m39_0) [(3, .string (B (numsT (ns.take i)))), (6, .slice a n c), (7, .int .i64 (n : Int)), (8, .int .i64 (i : Int))] H =
      some (.exit 0, [(3, .string (B (numsT ns))), (6, .slice a n c), (7, .int .i64 (n : Int)), (8, .int .i64 (n : Int)), (9, .bool false)], H) := by
  have hn := row_len hr
  rw [i64s_len] at hn
  intro k
  induction k with
  | zero =>
    intro i hi
    have : i = ns.length := by omega
    subst this
    rw [Rc_loop, List.take_length]
    simp [m39_0, hn]
  | succ k ih =>
    intro i hi
    have hil : i < ns.length := by omega
    have hil' : i < n := by omega
    have hget := List.getElem?_eq_getElem hil
    obtain ⟨b, o, rfl, l1, h1⟩ := row_get hr (k := i) (x := .int .i64 ns[i]) (i64s_get hget)
    have htk : ns.take (i + 1) = ns.take i ++ [ns[i]] := by rw [List.take_add_one, hget]; rfl
    have w : IntKind.i64.wrap ((i : Int) + 1) = (i : Int) + 1 := wrap_i64 (by omega) (by omega)
    have h := ih (i + 1) (by omega)
    have hnt : numsT (ns.take (i + 1)) = numsT (ns.take i) ++ 32 :: textL ns[i] := by rw [htk]; unfold numsT; rw [List.flatMap_append]; simp
    rw [hnt] at h
    have hq := R_text (mp := mp) (H := H) h22 h31 ns[i]
    have hb := numsT_len (ns.take i)
    have hb2 := textL_le ns[i]
    rw [List.length_take] at hb
    generalize numsT (ns.take i) = t0 at h hb
    generalize textL ns[i] = tx at h hq hb2
    generalize ns[i] = x at l1 hq
    obtain ⟨t1, ht1, f1⟩ : ∃ t1 : Bs, t1 = 32 :: tx ∧ mbin .add (.string ⟨#[32]⟩) (.string (B tx)) = some (.string (B t1)) := ⟨_, rfl, s_addM (l := [32]) (by simp) (by omega)⟩
    have l2 : t1.length = 1 + tx.length := by rw [ht1]; simp; omega
    obtain ⟨t2, ht2, f2⟩ : ∃ t2 : Bs, t2 = t0 ++ t1 ∧ mbin .add (.string (B t0)) (.string (B t1)) = some (.string (B t2)) := ⟨_, rfl, s_addM (by omega) (by omega)⟩
    rw [← ht1, ← ht2] at h
    clear ht1 ht2
    rw [Rc_loop]
    simp [-ev_s_add, m39_0, hil', h1, l1, hq, f1, f2, w]
    exact h
theorem R_numsT (hf : mp 39 = some (.code m39)) (h22 : mp 22 = some (.code m22)) (h31 : mp 31 = some (.intr (scalS itoaG))) {ns : List Int} (hl : ns.length ≤ 1000) {a : Option Addr} {n c : Nat} (hr : Row 1 H (.slice a n c) (i64s ns)) :
    R mp 39 [.slice a n c] H = some (.string (B (numsT ns)), H) := by
  have h := numsT_loop h22 h31 hl hr ns.length 0 (by omega)
  have e : (B (numsT (ns.take 0))) = ⟨#[]⟩ := rfl
  rw [e] at h
  simp at h
  rw [R_code hf]
  simp [m39, h]
theorem R_partT (hf : mp 40 = some (.code m40)) (h22 : mp 22 = some (.code m22)) (h31 : mp 31 = some (.intr (scalS itoaG))) (p : PartL) : ∃ X, R mp 40 [.agg (partC p).toArray] H = some (.string (B (partT p)), H ++ [X]) := by
  obtain ⟨k, l, r⟩ := p
  have hq := fun H => R_text (mp := mp) (H := H) h22 h31 l
  have hq2 := fun H => R_text (mp := mp) (H := H) h22 h31 r
  have hl := textL_le l
  have hl2 := textL_le r
  unfold partT
  simp only [partC]
  generalize textL l = tl at hq hl ⊢
  generalize textL r = tr at hq2 hl2 ⊢
  refine ⟨.cells ⟨0, true, false⟩ [.int .i64 k, .int .i64 l, .int .i64 r], ?_⟩
  rw [R_code hf]
  by_cases h1 : k = 1
  · have f1 : mbin .add (.string ⟨#[114, 117, 110, 58]⟩) (.string (B tl)) = some (.string (B (kRun ++ 58 :: tl))) := s_addM (l := [114, 117, 110, 58]) (by simp) (by omega)
    rw [if_pos h1]
    generalize kRun ++ 58 :: tl = t at f1
    simp [-ev_s_add, m40, h1, ldx, hq, f1]
  · rw [if_neg h1]
    by_cases h2 : k = 2
    · have f1 : mbin .add (.string ⟨#[115, 108, 101, 101, 112, 58]⟩) (.string (B tl)) = some (.string (B (kSleep ++ 58 :: tl))) := s_addM (l := [115, 108, 101, 101, 112, 58]) (by simp) (by omega)
      rw [if_pos h2]
      generalize kSleep ++ 58 :: tl = t at f1
      simp [-ev_s_add, m40, h1, h2, ldx, hq, f1]
    · rw [if_neg h2]
      obtain ⟨t1, ht1, f1⟩ : ∃ t1 : Bs, t1 = kLockC ++ tr ∧ mbin .add (.string ⟨#[108, 111, 99, 107, 58]⟩) (.string (B tr)) = some (.string (B t1)) := ⟨_, rfl, s_addM (l := kLockC) (by simp [kLockC]) (by omega)⟩
      have l1 : t1.length = 5 + tr.length := by rw [ht1]; simp [kLockC]; omega
      obtain ⟨t2, ht2, f2⟩ : ∃ t2 : Bs, t2 = t1 ++ [58] ∧ mbin .add (.string (B t1)) (.string ⟨#[58]⟩) = some (.string (B t2)) := ⟨_, rfl, s_addM (m := [58]) (by omega) (by simp)⟩
      have l2 : t2.length = t1.length + 1 := by rw [ht2]; simp
      have f3 := s_addM (l := t2) (m := tl) (by omega) (by omega)
      have e : kLockC ++ (tr ++ 58 :: tl) = t2 ++ tl := by rw [ht2, ht1]; simp
      rw [e]
      generalize t2 ++ tl = t3 at f3
      clear ht1 ht2 e
      simp [-ev_s_add, m40, h1, h2, ldx, hq, hq2, f1, f2, f3, mdraw_full]
end
end Go.Mod

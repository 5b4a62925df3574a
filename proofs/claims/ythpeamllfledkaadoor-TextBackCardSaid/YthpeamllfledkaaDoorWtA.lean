/- The document's words: Words, Name. -/
import Derived.Test.YthpeamllfledkaaDoorWdR
import Derived.Test.YthpeamllfledkaaDoorGrF
set_option linter.unusedVariables false
set_option linter.unusedSimpArgs false
namespace Go.Mod

theorem noE_trimE : ∀ p : List (List UInt8), noE (trimE p) = noE p
  | [] => rfl
  | [x] => by
    unfold trimE
    split
    · rename_i h; subst h; rfl
    · rfl
  | x :: y :: t => by
    rw [trimE_cons (by simp)]
    have := noE_trimE (y :: t)
    unfold noE at this ⊢
    rw [List.filter_cons, List.filter_cons, this]
section
variable {mp : FuncId → Option MDef} {H : MH}
theorem m21_eq : m21 = cNameR := rfl
theorem m20_eq : m20 = cNameP := rfl
theorem scan_loop {l : List UInt8} (hl : l.length ≤ 100000) : ∀ (m i : Nat), i + m = l.length → (∀ b ∈ l.take i, b ≠ 35) →
    ∃ e, e ≤ l.length ∧ l.takeWhile (· ≠ 35) = l.take e ∧ Rc mp (.loop m19_1) [(0, .string (B l)), (3, .int .i64 (i : Int))] H = some (.exit 0, [(0, .string (B l)), (3, .int .i64 (e : Int)), (16, .bool false)], H) := by
  intro m
  induction m with
  | zero =>
    intro i hi hg
    have : i = l.length := by omega
    subst this
    rw [List.take_length] at hg
    refine ⟨l.length, Nat.le_refl _, ?_, ?_⟩
    · rw [List.take_length]
      have := List.takeWhile_append_of_pos (p := fun b : UInt8 => decide (b ≠ 35)) (l₁ := l) (l₂ := []) (fun b hb => by simpa using hg b hb)
      simpa using this
    · rw [Rc_loop]
      simp [m19_1]
  | succ m ih =>
    intro i hi hg
    have hil : i < l.length := by omega
    have hgx := List.getElem?_eq_getElem hil
    have w : IntKind.i64.wrap ((i : Int) + 1) = (i : Int) + 1 := wrap_i64 (by omega) (by omega)
    have hdrop : l.drop i = l[i] :: l.drop (i + 1) := List.drop_eq_getElem_cons hil
    generalize hz : l[i] = z at hgx hdrop
    by_cases h1 : z = 35
    · refine ⟨i, by omega, ?_, ?_⟩
      · have := List.takeWhile_append_of_pos (p := fun b : UInt8 => decide (b ≠ 35)) (l₁ := l.take i) (l₂ := l.drop i) (fun b hb => by simpa using hg b hb)
        rw [List.take_append_drop, hdrop, h1] at this
        rw [this]; simp
      · have hz1 : (z.toNat : Int) = 35 := by rw [h1]; rfl
        rw [Rc_loop]
        simp [m19_1, hil, hz, hz1]
    · have n1 : ¬ (z.toNat : Int) = 35 := fun e => h1 (UInt8.toNat_inj.1 (by show z.toNat = 35; omega))
      obtain ⟨e, q1, q2, q3⟩ := ih (i + 1) (by omega) (by
        intro b hb
        rw [List.take_add_one, hgx] at hb
        rcases List.mem_append.1 hb with hb | hb
        · exact hg b hb
        · simp at hb; subst hb; exact h1)
      refine ⟨e, q1, q2, ?_⟩
      rw [Rc_loop]
      simp [m19_1, hil, hz, n1, w]
      exact q3
theorem R_wordsR (hf : mp 19 = some (.code m19)) (h33 : mp 33 = some (.code m33)) {l : List UInt8} (hl : l.length ≤ 100000) : GivesS H (R mp 19 [.string (B l)] H) (wordsOf l) := by
  obtain ⟨e, h1, h2, h3⟩ := scan_loop (mp := mp) (H := H) hl l.length 0 (by omega) (by simp)
  unfold wordsOf
  rw [h2]
  obtain ⟨a1, n1, c1, H1, q1, v1, x1⟩ := R_cutR (H := H) h33 (b := 32) (l := l.take e) (by simp; omega) (q := 32) rfl
  rw [← noE_trimE]
  have hlen : (trimE (cutAt 32 (l.take e))).length ≤ 100001 := by
    have h4 := cutAt_len 32 (l.take e)
    have h5 := trimE_eq (cutAt_ne 32 (l.take e))
    rw [h5]
    split <;> simp at h4 ⊢ <;> omega
  generalize trimE (cutAt 32 (l.take e)) = p at v1 hlen ⊢
  obtain ⟨H2, G2, a2, n2, c2, q2, o2, u2⟩ := wordsR_loop (mp := mp) hlen p.length 0 H1 [] [] none 0 0 (by omega) (by simp) ⟨v1, by simp⟩ (.inl ⟨rfl, rfl, rfl⟩)
  simp at q2 o2 h3
  refine ⟨a2, n2, c2, H2, ?_, Own.row o2, x1.trans u2.toExt.1⟩
  have hle : (e : Int) ≤ (l.length : Int) := by omega
  rw [R_code hf]
  simp [m19, h3, h1, q1, q2]
end
end Go.Mod

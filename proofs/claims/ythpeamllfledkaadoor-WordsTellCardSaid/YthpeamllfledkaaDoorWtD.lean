/- WordsTell: package words is as the document tells. -/
import Derived.Test.YthpeamllfledkaaDoorWtC
set_option linter.unusedVariables false
set_option linter.unusedSimpArgs false
namespace Go.Mod

theorem row_ext {es : Nat} {H H1 : MH} {v : Value} {l : List Value} (h : Row es H v l) (e : Ext H H1) : Row es H1 v l := by
  obtain ⟨X, rfl⟩ := e; exact h.app

theorem wordsTell {H : MH} (s : ByteArray) (n : Int) : ∃ H', R mpW 3 [.string s, .int .i64 n] H = some (.bool true, H') := by
  obtain ⟨l, rfl⟩ := B_eta s
  have hkn : R mpW 12 [] H = some (.bool true, H) := R_intr (s := constS (.bool true)) rfl
  by_cases hbig : (400 : Int) < (l.length : Int)
  · refine ⟨H, ?_⟩
    rw [R_code (fn := m3) rfl]
    simp [m3, hkn, hbig]
  · have hl : l.length ≤ 100000 := by omega
    obtain ⟨H1, q1, x1⟩ := R_num (mp := mpW) (H := H) (t := 105) rfl rfl rfl (l := l) hl
    have q2 := R_numR (mp := mpW) (H := H1) rfl (l := l)
    obtain ⟨a1, n1, c1, H2, q3, r3, x3⟩ := R_lines (mp := mpW) (H := H1) rfl rfl (l := l) hl
    obtain ⟨a2, n2, c2, H3, q4, r4, x4⟩ := R_linesR (mp := mpW) (H := H2) rfl rfl (l := l) hl
    have hlen1 : (trimE (cutAt 10 l)).length ≤ 100000 := by
      have h4 := cutAt_len 10 l
      have h5 := trimE_eq (cutAt_ne 10 l)
      rw [h5]
      split <;> simp at h4 ⊢ <;> omega
    have q5 := R_sameW (mp := mpW) (H := H3) rfl hlen1 (row_ext r3 x4) r4
    obtain ⟨a3, n3, c3, H4, q6, r6, x6⟩ := R_words (mp := mpW) (H := H3) rfl rfl rfl (l := l) hl
    obtain ⟨a4, n4, c4, H5, q7, r7, x7⟩ := R_wordsR (mp := mpW) (H := H4) rfl rfl (l := l) hl
    have hlen2 : (wordsOf l).length ≤ 100000 := by
      have h4 := cutAt_len 32 (l.takeWhile (· ≠ 35))
      have h5 := tw_len l (· ≠ 35)
      have h6 := List.length_filter_le (fun x : List UInt8 => decide (x ≠ [])) (cutAt 32 (l.takeWhile (· ≠ 35)))
      unfold wordsOf noE
      omega
    have q8 := R_sameW (mp := mpW) (H := H5) rfl hlen2 (row_ext r6 x7) r7
    obtain ⟨b1, e1, p1⟩ := R_nameP (mp := mpW) (H := H5) (fn := 20) rfl (s := B l) (by simp; omega)
    obtain ⟨b2, e2, p2⟩ := R_nameR (mp := mpW) (H := H5) (fn := 21) rfl (s := B l) (by simp; omega)
    have hb : b1 = b2 := by rw [Bool.eq_iff_iff, p1, p2]
    subst hb
    have q9 := R_text (mp := mpW) (H := H5) rfl rfl n
    obtain ⟨H6, q10, x10⟩ := R_textR (mp := mpW) (H := H5) rfl n
    rw [decide_eq_true rfl] at q5 q8
    refine ⟨H6, ?_⟩
    rw [R_code (fn := m3) rfl]
    simp [m3, hkn, hbig, q1, q2, q3, q4, q5, q6, q7, q8, e1, e2, q9, q10]
end Go.Mod
namespace Go.Mod
theorem wordsTell2 {H : MH} {v : Value} {x : D} {n : Int} (hr : Rep H .str v x) : ∃ H', R mpW 3 [v, .int .i64 n] H = some (.bool true, H') := by
  cases hr
  exact wordsTell _ _
end Go.Mod

/- LockGates: one taken out of a row, by appends. -/
import Derived.Test.YthpeamllfledkaaLhC
set_option linter.unusedVariables false
set_option linter.unusedSimpArgs false
namespace Go.Mod

theorem own_cut {H : MH} {v : Value} {l : List Value} {F : List Nat} (h : OwnA 1 v l H F) (hl : l.all one = true) (hb : l.length ≤ 1000) {k : Nat} (hk : k < l.length) :
    ∃ (a : Option Addr) (c : Nat) (s1 s2 v1 : Value) (H1 H2 : MH) (a2 : Option Addr) (n2 c2 : Nat) (G : List Nat), v = .slice a l.length c ∧ mread (.sl 1 false true false) [v, .int .i64 (k : Int)] H = some s1 ∧ meff (.app 1 8) [.slice none 0 0, s1] H = some (v1, H1) ∧
      mread (.sl 1 true false false) [v, .int .i64 ((k : Int) + 1)] H = some s2 ∧ mread (.sl 1 true false false) [v, .int .i64 ((k : Int) + 1)] H1 = some s2 ∧ meff (.app 1 8) [v1, s2] H1 = some (.slice a2 n2 c2, H2) ∧
      OwnA 1 (.slice a2 n2 c2) (l.eraseIdx k) H2 G ∧ Ext H H2 ∧ (∀ id ∈ G, H.length ≤ id) ∧ one s1 = true ∧ one s2 = true ∧ one v1 = true ∧ (∃ b o n c, s2 = .slice (some ⟨b, o, none⟩) n c) := by
  rcases h with ⟨_, h2, _⟩ | ⟨b, n, c, cs, rfl, hnc, hB, hcs, htk, rfl⟩
  · rw [h2] at hk; simp at hk
  · have hln : l.length = n := by rw [← htk, List.length_take]; omega
    subst hln
    have htk' : cs.take l.length = l := by simpa using htk
    have t1 : cs.take k = l.take k := by
      have := congrArg (List.take k) htk'
      rw [List.take_take, Nat.min_eq_left (by omega)] at this
      exact this
    have t2 : (cs.drop (k + 1)).take (l.length - (k + 1)) = l.drop (k + 1) := by
      have := congrArg (List.drop (k + 1)) htk'
      rw [List.drop_take] at this
      exact this
    have r1 : Row 1 H (.slice (some ⟨b, 0, none⟩) k c) (l.take k) := Row.part hB rfl (by omega) (by omega) (by rw [List.drop_zero]; exact t1)
    obtain ⟨v1, H1, fp1, a1, o1, x1, n1⟩ := own_new (bytes := 8) r1 (all_take hl _) (by omega) (by simp; omega) (by omega)
    have hB1 := x1.get hB
    have r2 : Row 1 H1 (.slice (some ⟨b, k + 1, none⟩) (l.length - (k + 1)) (c - (k + 1))) (l.drop (k + 1)) := Row.part hB1 rfl (by omega) (by omega) t2
    obtain ⟨v2, H2, fp2, a2, o2, f2, n2⟩ := own_app (bytes := 8) o1 (all_take hl _) r2 (all_drop hl _) (by omega) (by simp; omega) (by omega)
    obtain ⟨aa, nn, cc, rfl, _⟩ := (Own.row o2).slice
    have hone1 : one v1 = true := by rcases o1 with ⟨rfl, _⟩ | ⟨b, n, c, cs, rfl, _⟩ <;> rfl
    refine ⟨some ⟨b, 0, none⟩, c, .slice (some ⟨b, 0, none⟩) k c, .slice (some ⟨b, k + 1, none⟩) (l.length - (k + 1)) (c - (k + 1)), v1, H1, H2, aa, nn, cc, fp2, rfl, ?_, a1, ?_, ?_, a2, ?_, x1.of_fp f2 n1, fun id hid => ?_, rfl, rfl, hone1, _, _, _, _, rfl⟩
    · rw [sl_at hB rfl]; simp [slBound]; omega
    · rw [sl_at hB rfl]; simp [slBound]; omega
    · rw [sl_at hB1 rfl]; simp [slBound]; omega
    · rw [List.eraseIdx_eq_take_drop_succ]; exact o2
    · rcases n2 id hid with h | h
      · exact n1 id h
      · have := x1.len; omega
end Go.Mod

/- What is said of tapes. -/
import Derived.Test.YtfeaopbeiahbnaaTapeP
set_option linter.unusedVariables false
set_option linter.unusedSimpArgs false
namespace Go.Mod
open Go.Proofs

theorem known_ok : ∃ H0, R mp 16 [] [] = some (.bool true, H0) := known_of (k := 40) (by kernel_rfl)
def mpk (f : FuncId) : Option MDef := if f = 16 then some (.intr (constS (.bool true))) else mp f
theorem mpk_ok : MapOk Try.prog mpk := by
  obtain ⟨H0, h⟩ := known_ok
  refine ⟨mp_ok.mixed, fun f fn hf => ?_, fun f s hf => ?_⟩
  · unfold mpk at hf
    split at hf
    · cases hf
    · exact mp_code f fn hf
  · unfold mpk at hf
    split at hf
    · rename_i e; subst e
      cases hf
      exact closed_intr mp_ok h rfl
    · exact mp_ok.intr f s hf

theorem TapeAt.ext {H H' : MH} {t : Nat} {i : Info} {v : Value} {xs : List Int} {p u : Int} (h : TapeAt H t i v xs p u) (e : Ext H H') : TapeAt H' t i v xs p u := by
  obtain ⟨X, rfl⟩ := e; exact h.app
theorem TapeAt.lt {H : MH} {t : Nat} {i : Info} {v : Value} {xs : List Int} {p u : Int} (h : TapeAt H t i v xs p u) : t < H.length := (List.getElem?_eq_some_iff.1 h.obj).1

theorem new_ext {H : MH} {v : Value} {xs : List Int} (hr : Row 1 H v (u8s xs)) (hn : xs.length ≤ 1000000) :
    ∃ t H' v', R mpk 17 [v] H = some (.pointer (some ⟨t, 0, none⟩), H') ∧ Ext H H' ∧ H.length ≤ t ∧ TapeAt H' t ⟨0, true, false⟩ v' xs 0 0 := by
  obtain ⟨t, X, v', h1, h2, h3⟩ := R_new (mp := mpk) rfl rfl hr hn
  exact ⟨t, _, v', h1, ⟨X, rfl⟩, h2, h3⟩
theorem known_R {H : MH} : R mpk 16 [] H = some (.bool true, H) := by rw [R_intr (s := constS (.bool true)) rfl]; simp

theorem tapeNothing {H : MH} {v : Value} {xs : List Int} {lo less : Int} (hr : Row 1 H v (u8s xs)) (hlo : -32768 ≤ lo ∧ lo < 32768) (hle : 0 ≤ less ∧ less < 256) :
    ∃ H', R mpk 5 [v, .int .i16 lo, .int .u8 less] H = some (.bool true, H') := by
  refine isTrue_ex ?_
  obtain ⟨a, n, c, rfl, hl⟩ := hr.slice
  have hn : n = xs.length := by rw [u8s_len] at hl; omega
  subst hn
  by_cases hbig : 50 < xs.length
  · rw [R_code (fn := m5) rfl]
    have : (50 : Int) < (xs.length : Int) := by omega
    simp [m5, known_R, this]
  · have hsm : ¬ (50 : Int) < (xs.length : Int) := by omega
    obtain ⟨t, H1, v1, e1, x1, l1, t1⟩ := new_ext hr (by omega)
    obtain ⟨s, H2, v2, e2, x2, l2, t2⟩ := new_ext (H := H1) (v := .slice none 0 0) (xs := []) (.inl ⟨rfl, rfl⟩) (by simp)
    have t1' := t1.ext x2
    have hne : t ≠ s := by have := t1.lt; omega
    have w1 : IntKind.i64.wrap lo = lo := wrap_i64 (by omega) (by omega)
    have w2 : IntKind.i64.wrap less = less := wrap_i64 (by omega) (by omega)
    have w3 : IntKind.i64.wrap (lo - less) = lo - less := wrap_i64 (by omega) (by omega)
    have w4 : IntKind.i64.wrap (lo + less) = lo + less := wrap_i64 (by omega) (by omega)
    have p1 := R_pick_none (mp := mpk) rfl (H := H2) (v := .pointer (some ⟨t, 0, none⟩)) (lo := lo) (hi := lo - less) (by omega)
    by_cases h0 : 0 < less
    · have p2 := R_pick0 (mp := mpk) rfl rfl t2 (by omega) (by omega) (lo := lo) (hi := lo + less) (by omega)
      have t1'' := t1'.chg (Chg.set s (.cells ⟨0, true, false⟩ [v2, .int .i64 0, .int .i64 (0 + 1)])) t2.obj rfl hne
      have u1 := R_used (mp := mpk) rfl t1''
      have u2 := R_used (mp := mpk) rfl (t2.put 0 (0 + 1))
      rw [R_code (fn := m5) rfl]
      simp at p2 u1 u2
      simp [m5, known_R, hsm, e1, e2, w1, w2, w3, w4, p1, p2, h0, u1, u2]
    · have e0 : less = 0 := by omega
      subst e0
      have p2 := R_pick_none (mp := mpk) rfl (H := H2) (v := .pointer (some ⟨s, 0, none⟩)) (lo := lo) (hi := lo + 0) (by omega)
      have u1 := R_used (mp := mpk) rfl t1'
      have u2 := R_used (mp := mpk) rfl t2
      rw [R_code (fn := m5) rfl]
      simp at p1 p2 w3 w4
      simp [m5, known_R, hsm, e1, e2, w1, w2, w3, w4, p1, p2, u1, u2]
end Go.Mod

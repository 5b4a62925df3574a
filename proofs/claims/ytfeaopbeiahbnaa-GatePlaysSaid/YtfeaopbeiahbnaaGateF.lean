/- GateFull: the model's side. -/
import Derived.Test.YtfeaopbeiahbnaaGateP
import Derived.Test.YtfeaopbeiahbnaaLineL
set_option linter.unusedVariables false
set_option linter.unusedSimpArgs false
namespace Go.Mod
open Go.Proofs

theorem knownG_ok : ∃ H0, R mpG 53 [] [] = some (.bool true, H0) := known_of (k := 40) (by kernel_rfl)
def mpGk (f : FuncId) : Option MDef := if f = 53 then some (.intr (constS (.bool true))) else mpG f
theorem mpGk_ok : MapOk Try.prog mpGk := by
  obtain ⟨H0, h⟩ := knownG_ok
  refine ⟨mpG_ok.mixed, fun f fn hf => ?_, fun f s hf => ?_⟩
  · unfold mpGk at hf
    split at hf
    · cases hf
    · exact mpG_code f fn hf
  · unfold mpGk at hf
    split at hf
    · rename_i e; subst e
      cases hf
      exact closed_intr mpG_ok h rfl
    · exact mpG_ok.intr f s hf
theorem knownG_R {H : MH} : R mpGk 53 [] H = some (.bool true, H) := by rw [R_intr (s := constS (.bool true)) rfl]; simp

def rng (a b : Nat) : List Int := (List.range (b - a)).map fun (i : Nat) => ((a + i : Nat) : Int)
theorem rng_len (a b : Nat) : (rng a b).length = b - a := by simp [rng]
theorem mem_rng {a b : Nat} {x : Int} : x ∈ rng a b ↔ (a : Int) ≤ x ∧ x < b := by
  simp only [rng, List.mem_map, List.mem_range]
  constructor
  · rintro ⟨i, hi, rfl⟩; omega
  · intro h; exact ⟨x.toNat - a, by omega, by omega⟩
theorem rng_succ {a b : Nat} (h : a ≤ b) : rng a (b + 1) = rng a b ++ [(b : Int)] := by
  unfold rng
  rw [show b + 1 - a = (b - a) + 1 by omega, List.range_succ]
  simp; omega
theorem rng_nil {a b : Nat} (h : b ≤ a) : rng a b = [] := by
  unfold rng; rw [show b - a = 0 by omega]; rfl
theorem rng_cons {a b : Nat} (h : a < b) : rng a b = (a : Int) :: rng (a + 1) b := by
  unfold rng
  rw [show b - a = (b - (a + 1)) + 1 by omega, List.range_succ_eq_map]
  simp [Function.comp_def]
  intro i _; omega

theorem gfull_loop {g t k : Nat} {id : Value} (hk : 1 ≤ k ∧ k ≤ 20) : ∀ (m i : Nat) (H : MH) (F : List Nat), i + m = k + 64 → GateA g t (upto (min i k)) (rng k i) k H F →
    ∃ H' F', Rc mpGk (.loop m15_0) [(1, id), (5, .int .i64 (k : Int)), (6, .pointer (some ⟨g, 0, none⟩)), (7, .int .i64 (i : Int))] H = some (.exit 0, [(1, id), (5, .int .i64 (k : Int)), (6, .pointer (some ⟨g, 0, none⟩)), (7, .int .i64 ((k : Int) + 64)), (29, .bool false)], H') ∧ GateA g t (upto k) (rng k (k + 64)) k H' F'
  | 0, i, H, F, hm, h => by
    have hi : i = k + 64 := by omega
    subst hi
    rw [Nat.min_eq_right (by omega)] at h
    refine ⟨H, F, ?_, h⟩
    have w : IntKind.i64.wrap ((k : Int) + 64) = (k : Int) + 64 := wrap_i64 (by omega) (by omega)
    rw [Rc_loop]
    simp [m15_0, w]
  | m + 1, i, H, F, hm, h => by
    have w : IntKind.i64.wrap ((k : Int) + 64) = (k : Int) + 64 := wrap_i64 (by omega) (by omega)
    have w2 : IntKind.i64.wrap ((i : Int) + 1) = (i : Int) + 1 := wrap_i64 (by omega) (by omega)
    have hlt : (i : Int) < (k : Int) + 64 := by omega
    have n1 : (i : Int) ∉ upto (min i k) := fun h => by have := mem_upto.1 h; omega
    have n2 : (i : Int) ∉ rng k i := fun h => by have := mem_rng.1 h; omega
    by_cases hik : i < k
    · obtain ⟨H1, F1, e1, g1, _⟩ := R_gask_in (mp := mpGk) rfl rfl rfl rfl rfl h n1 n2 (by rw [upto_len]; omega)
      rw [Nat.min_eq_left (by omega), ← upto_succ, rng_nil (by omega)] at g1
      obtain ⟨H2, F2, e2, g2⟩ := gfull_loop (id := id) hk m (i + 1) H1 F1 (by omega) (by rw [Nat.min_eq_left (by omega), rng_nil (by omega)]; exact g1)
      refine ⟨H2, F2, ?_, g2⟩
      rw [Rc_loop]
      simp at e2
      simp [m15_0, w, hlt, e1, hik, w2]
      exact e2
    · rcases R_gask_full (mp := mpGk) rfl rfl rfl rfl rfl rfl h n1 n2 (by rw [upto_len]; omega) with ⟨h64, _⟩ | ⟨_, H1, F1, e1, g1, _⟩
      · rw [rng_len] at h64; omega
      · rw [Nat.min_eq_right (by omega), ← rng_succ (by omega)] at g1
        obtain ⟨H2, F2, e2, g2⟩ := gfull_loop (id := id) hk m (i + 1) H1 F1 (by omega) (by rw [Nat.min_eq_right (by omega)]; exact g1)
        refine ⟨H2, F2, ?_, g2⟩
        rw [Rc_loop]
        simp at e2
        simp [m15_0, w, hlt, e1, hik, w2]
        exact e2

theorem gateFull {H : MH} {most id : Int} (hm : 0 ≤ most ∧ most < 256) (hi : 0 ≤ id ∧ id < 256) : ∃ H', R mpGk 15 [.int .u8 most, .int .u8 id] H = some (.bool true, H') := by
  refine isTrue_ex ?_
  obtain ⟨k, hk⟩ : ∃ k : Nat, (k : Int) = most.tmod 20 + 1 := ⟨(most.tmod 20 + 1).toNat, by have := Int.tmod_nonneg (20 : Int) hm.1; omega⟩
  have ht : most.tmod 20 < 20 := Int.tmod_lt_of_pos _ (by omega)
  have ht0 := Int.tmod_nonneg (20 : Int) hm.1
  have hk20 : 1 ≤ k ∧ k ≤ 20 := by omega
  have w0 : IntKind.i64.wrap (most.tmod 20) = most.tmod 20 := wrap_i64 (by omega) (by omega)
  have w1 : IntKind.i64.wrap (most.tmod 20 + 1) = (k : Int) := by rw [hk]; exact wrap_i64 (by omega) (by omega)
  have w2 : IntKind.i64.wrap id = id := wrap_i64 (by omega) (by omega)
  have w3 : IntKind.i64.wrap ((k : Int) + 64) = (k : Int) + 64 := wrap_i64 (by omega) (by omega)
  obtain ⟨H1, e1, x1, g1⟩ := R_gnew (mp := mpGk) rfl rfl (H := H) (most := (k : Int))
  have hmm : min (max (k : Int) 1) 64 = (k : Int) := by omega
  rw [hmm] at g1
  obtain ⟨H2, F2, e2, g2⟩ := gfull_loop (id := .int .u8 id) hk20 (k + 64) 0 H1 _ (by omega) (by simpa [upto, rng] using g1)
  rcases R_gask_full (mp := mpGk) rfl rfl rfl rfl rfl rfl g2 (x := 999) (fun h => by have := mem_upto.1 h; omega) (fun h => by have := mem_rng.1 h; omega) (by rw [upto_len]; omega) with ⟨_, e3⟩ | ⟨h64, _⟩
  · obtain ⟨j, hj⟩ : ∃ j : Nat, (j : Int) = id.tmod ((k : Int) + 64) := ⟨(id.tmod ((k : Int) + 64)).toNat, by have := Int.tmod_nonneg ((k : Int) + 64) hi.1; omega⟩
    have hjlt : id.tmod ((k : Int) + 64) < (k : Int) + 64 := Int.tmod_lt_of_pos _ (by omega)
    have hj2 : j < k + 64 := by omega
    have e4 := R_gask_twice (mp := mpGk) rfl rfl rfl rfl rfl g2 (x := (j : Int)) (by
      by_cases h : j < k
      · exact .inl (mem_upto.2 (by omega))
      · exact .inr (mem_rng.2 (by omega)))
    have hz : ¬ ((k : Int) + 64 = 0) := by omega
    simp at e2
    rw [R_code (fn := m15) rfl]
    by_cases hjk : j < k
    · obtain ⟨H5, F5, e5, g5, _⟩ := R_gleave (mp := mpGk) rfl rfl rfl rfl g2 (x := (j : Int)) (mem_upto.2 (by omega))
      obtain ⟨v6, H6, e6, _, r6⟩ := R_gin (mp := mpGk) rfl rfl g5
      obtain ⟨a6, n6, c6, rfl, hl6⟩ := r6.slice
      rw [rng_cons (show k < k + 64 by omega)] at e5 hl6
      have hn6 : n6 = k := by
        rw [i64s_len] at hl6
        have := List.length_erase_of_mem (mem_upto.2 (show (0 : Int) ≤ (j : Int) ∧ (j : Int) < (k : Int) by omega) : (j : Int) ∈ upto k)
        rw [upto_len] at this
        simp at hl6; omega
      subst hn6
      simp at e5
      simp [m15, knownG_R, w0, w1, w2, w3, e1, e2, e3, ← hj, hz, e4, e5, hjk, e6]
    · have e5 := R_gleave_none (mp := mpGk) rfl g2 (x := (j : Int)) (fun h => by have := mem_upto.1 h; omega)
      obtain ⟨v6, H6, e6, _, r6⟩ := R_gin (mp := mpGk) rfl rfl g2
      obtain ⟨a6, n6, c6, rfl, hl6⟩ := r6.slice
      have hn6 : n6 = k := by rw [i64s_len, upto_len] at hl6; omega
      subst hn6
      simp [m15, knownG_R, w0, w1, w2, w3, e1, e2, e3, ← hj, hz, e4, e5, hjk, e6]
  · rw [rng_len] at h64; omega
end Go.Mod

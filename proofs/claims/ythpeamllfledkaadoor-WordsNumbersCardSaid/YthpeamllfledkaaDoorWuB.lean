/- WordsNumbers in the model. -/
import Derived.Test.YthpeamllfledkaaDoorWuA
set_option linter.unusedVariables false
set_option linter.unusedSimpArgs false
namespace Go.Mod

theorem B_addl (a : Array UInt8) (l : List UInt8) : (⟨a⟩ : ByteArray) ++ B l = B (a.toList ++ l) := by rw [B_mk, B_append]
theorem noughts {n : Nat} (h1 : 1 ≤ n) (h7 : n ≤ 7) : mpure (.slstr false true) [.string ⟨#[48, 48, 48, 48, 48, 48, 48]⟩, .int .i64 ((7 - n : Nat) : Int)] = some (.string (B (List.replicate (7 - n) 48))) := by
  have : n = 1 ∨ n = 2 ∨ n = 3 ∨ n = 4 ∨ n = 5 ∨ n = 6 ∨ n = 7 := by omega
  rcases this with rfl | rfl | rfl | rfl | rfl | rfl | rfl <;> rfl

theorem wordsNumbers {H : MH} {x c : Int} (hx : 0 ≤ x) (hc : 0 ≤ c ∧ c < 256) : ∃ H', R mpW 5 [.int .u32 x, .int .u8 c] H = some (.bool true, H') := by
  obtain ⟨n, hn, hn7⟩ : ∃ n : Nat, x.tmod 10000000 = (n : Int) ∧ n < 10 ^ 7 := by
    refine ⟨(x.tmod 10000000).toNat, ?_, ?_⟩ <;> rw [Int.tmod_eq_emod_of_nonneg hx] <;> omega
  obtain ⟨d, rfl⟩ : ∃ d : UInt8, c = (d.toNat : Int) := ⟨UInt8.ofNat c.toNat, by simp [UInt8.toNat_ofNat']; omega⟩
  have hkn : R mpW 12 [] H = some (.bool true, H) := R_intr (s := constS (.bool true)) rfl
  have w1 : IntKind.i64.wrap (n : Int) = (n : Int) := wrap_i64 (by omega) (by omega)
  have w2 : IntKind.i64.wrap (10000000 + (n : Int)) = 10000000 + (n : Int) := wrap_i64 (by omega) (by omega)
  have ht := fun H : MH => R_text (mp := mpW) (H := H) rfl rfl (n : Int)
  have ht2 := fun H : MH => R_text (mp := mpW) (H := H) rfl rfl (10000000 + (n : Int))
  have e1 : textL (n : Int) = decD 7 n := by unfold textL; rw [if_pos (by omega)]; simp
  have e2 : textL (10000000 + (n : Int)) = [] := by unfold textL; rw [if_neg (by omega)]
  have hp := dec_pos 7 n hn7 (by omega)
  have hl := dec_len 7 n
  have hfirst := dec_first hn7
  have k1 := num_dec hn7
  have k2 := num_nought hn7
  have k4 := num_sign n
  have k5 := num_odd hn7 d
  rw [e1] at ht
  rw [e2] at ht2
  generalize decD 7 n = s at *
  have k3 : (numL (49 :: (List.replicate (7 - s.length) 48 ++ s))).isSome = false := num_long (by simp; omega)
  have hns := noughts (n := s.length) (by omega) hl
  have w3 : IntKind.i64.wrap (7 - (s.length : Int).tmod 8) = ((7 - s.length : Nat) : Int) := by
    rw [Int.tmod_eq_emod_of_nonneg (by omega), wrap_i64 (by omega) (by omega)]; omega
  have w4 : IntKind.i64.wrap ((s.length : Int) - 1) = ((s.length - 1 : Nat) : Int) := by rw [wrap_i64 (by omega) (by omega)]; omega
  have hsl : mpure (.slstr false true) [.string (B s), .int .i64 ((s.length - 1 : Nat) : Int)] = some (.string (B (s.take (s.length - 1)))) := by
    simp
  obtain ⟨H1, f1, x1⟩ := R_num (mp := mpW) (H := H) (t := 105) rfl rfl rfl (l := s) (by omega)
  obtain ⟨H2, f2, x2⟩ := R_num (mp := mpW) (H := H1) (t := 105) rfl rfl rfl (l := 48 :: s) (by simp; omega)
  obtain ⟨H3, f3, x3⟩ := R_num (mp := mpW) (H := H2) (t := 105) rfl rfl rfl (l := 49 :: (List.replicate (7 - s.length) 48 ++ s)) (by simp; omega)
  obtain ⟨H4, f4, x4⟩ := R_num (mp := mpW) (H := H3) (t := 105) rfl rfl rfl (l := 45 :: s) (by simp; omega)
  have hB : (H4 ++ [MObj.cells ⟨1, true, true⟩ [.int .u8 (d.toNat : Int)]])[H4.length]? = some (.cells ⟨1, true, true⟩ (u8v [d])) := by simp [u8v]
  have hsb := strb_u8 hB (n := 1) rfl 1
  obtain ⟨H5, f5, x5⟩ := R_num (mp := mpW) (H := H4 ++ [.cells ⟨1, true, true⟩ [.int .u8 (d.toNat : Int)]]) (t := 105) rfl rfl rfl (l := s.take (s.length - 1) ++ [d]) (by simp; omega)
  rw [k1] at f1
  simp only [Option.getD_some, Option.isSome_some] at f1
  rw [k2] at f2; rw [k3] at f3; rw [k4] at f4; rw [k5] at f5
  generalize (numL (48 :: s)).getD 0 = y2 at f2
  generalize (numL (49 :: (List.replicate (7 - s.length) 48 ++ s))).getD 0 = y3 at f3
  generalize (numL (45 :: s)).getD 0 = y4 at f4
  generalize (numL (s.take (s.length - 1) ++ [d])).getD 0 = y5 at f5
  have hset : (H4 ++ [MObj.dead]).set H4.length (.cells ⟨1, true, true⟩ [.int .u8 (d.toNat : Int)]) = H4 ++ [.cells ⟨1, true, true⟩ [.int .u8 (d.toNat : Int)]] := by simp
  generalize hH6 : H4 ++ [MObj.cells ⟨1, true, true⟩ [.int .u8 (d.toNat : Int)]] = H6 at hsb f5 hset
  refine ⟨H5, ?_⟩
  rw [R_code (show mpW 5 = some (.code m5) from rfl)]
  have z1 : 1 + s.length ≤ 9223372036854775807 := by omega
  have z2 : 7 - s.length + 1 ≤ 9223372036854775807 := by omega
  have z2' : 1 + (7 - s.length) ≤ 9223372036854775807 := by omega
  have z3 : 7 - s.length + 1 + s.length ≤ 9223372036854775807 := by omega
  have z4 : s.length - 1 + 1 ≤ 9223372036854775807 := by omega
  have hmin : min (s.length - 1) s.length = s.length - 1 := by omega
  have hdd : (d.toNat < 48 ∧ ¬ isD d) ∨ (48 ≤ d.toNat ∧ 57 < d.toNat ∧ ¬ isD d) ∨ (48 ≤ d.toNat ∧ d.toNat ≤ 57 ∧ isD d) := by unfold isD; omega
  rcases hdd with ⟨g1, g2⟩ | ⟨g1, g2, g3⟩ | ⟨g1, g2, g3⟩
  · have g1' : ¬ (48 : Int) ≤ (d.toNat : Int) := by omega
    rw [decide_eq_false g2] at f5
    simp [-ev_slstr_ft, m5, hkn, hn, w1, w2, w3, w4, ht, ht2, hns, hsl, f1, f2, f3, f4, f5, hsb, hH6, B_addl, B_add, size_mk, mdraw_full, hset, z1, z2, z2', z3, z4, hmin, g1']
  · have g1' : (48 : Int) ≤ (d.toNat : Int) := by omega
    have g2' : ¬ (d.toNat : Int) ≤ 57 := by omega
    rw [decide_eq_false g3] at f5
    simp [-ev_slstr_ft, m5, hkn, hn, w1, w2, w3, w4, ht, ht2, hns, hsl, f1, f2, f3, f4, f5, hsb, hH6, B_addl, B_add, size_mk, mdraw_full, hset, z1, z2, z2', z3, z4, hmin, g1', g2']
  · have g1' : (48 : Int) ≤ (d.toNat : Int) := by omega
    have g2' : (d.toNat : Int) ≤ 57 := by omega
    rw [decide_eq_true g3] at f5
    rcases hfirst with h1 | ⟨q, h1, h2⟩
    · have h1 : ((s.length : Int) = 1) = True := eq_true (by omega)
      simp [-ev_slstr_ft, m5, hkn, hn, w1, w2, w3, w4, ht, ht2, hns, hsl, f1, f2, f3, f4, f5, hsb, hH6, B_addl, B_add, size_mk, mdraw_full, hset, z1, z2, z2', z3, z4, hmin, g1', g2', h1]
    · have hg : (B s)[0]? = some q := by rw [B_get]; exact h1
      by_cases h3 : (s.length : Int) = 1
      · have h3 := eq_true h3
        simp [-ev_slstr_ft, m5, hkn, hn, w1, w2, w3, w4, ht, ht2, hns, hsl, f1, f2, f3, f4, f5, hsb, hH6, B_addl, B_add, size_mk, mdraw_full, hset, z1, z2, z2', z3, z4, hmin, g1', g2', h3]
      · simp [-ev_slstr_ft, m5, hkn, hn, w1, w2, w3, w4, ht, ht2, hns, hsl, f1, f2, f3, f4, f5, hsb, hH6, B_addl, B_add, size_mk, mdraw_full, hset, z1, z2, z2', z3, z4, hmin, g1', g2', h3, h1, h2, hg]
end Go.Mod

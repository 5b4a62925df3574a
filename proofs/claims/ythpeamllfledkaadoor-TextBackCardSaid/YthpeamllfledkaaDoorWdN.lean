/- Package words: numbers read and told. -/
import Derived.Test.YthpeamllfledkaaDoorWdR
set_option linter.unusedVariables false
set_option linter.unusedSimpArgs false
namespace Go.Mod
open Go.Lib

theorem parse_lt : ∀ (l : List UInt8) (acc u : Nat), parseUint10 acc l = .ok u → u < (acc + 1) * 10 ^ l.length
  | [], acc, u, h => by
    simp only [parseUint10] at h
    injection h with h
    simp; omega
  | c :: r, acc, u, h => by
    simp only [parseUint10] at h
    split at h
    · split at h
      · cases h
      · split at h
        · cases h
        · have := parse_lt r _ u h
          have h2 : (acc * 10 + (c.toNat - 48) + 1) * 10 ^ r.length ≤ ((acc + 1) * 10) * 10 ^ r.length := Nat.mul_le_mul_right _ (by omega)
          rw [List.length_cons, Nat.pow_succ, Nat.mul_comm (10 ^ r.length) 10, ← Nat.mul_assoc]
          omega
    · cases h
theorem mag_lt {l : List UInt8} {u : Nat} (h : parseMag l = .ok u) : u < 10 ^ l.length := by
  unfold parseMag at h
  split at h
  · cases h
  · have := parse_lt l 0 u h
    simpa using this
theorem atoi_lt {l : List UInt8} {v : Int} (h : atoiAll l = .ok v) (h0 : 0 ≤ v) : v < 10 ^ l.length := by
  unfold atoiAll at h
  split at h
  · cases h
  · rename_i c r
    simp only at h
    have key : ∀ m : List UInt8, m.length ≤ (c :: r).length → ∀ u, parseMag m = .ok u → (u : Int) < 10 ^ (c :: r).length := fun m hm u hu => by
      have h1 := mag_lt hu
      have h2 : 10 ^ m.length ≤ 10 ^ (c :: r).length := Nat.pow_le_pow_right (by omega) hm
      have h3 : u < 10 ^ (c :: r).length := by omega
      exact_mod_cast h3
    split at h <;> first | (cases h; done) | skip
    rename_i u hu
    have hlen : (if c.toNat = 43 ∨ c.toNat = 45 then r else c :: r).length ≤ (c :: r).length := by split <;> simp
    have := key _ hlen u hu
    split at h
    · cases h
    · split at h
      · cases h
      · injection h with h
        split at h <;> omega
/-- What is read as a number. -/
def numL (l : List UInt8) : Option Int :=
  match atoiAll l with
  | .ok v => if l.length ≤ 7 ∧ 0 ≤ v ∧ decD 7 v.toNat = l then some v else none
  | _ => none
def textL (n : Int) : List UInt8 := if 0 ≤ n ∧ n ≤ 9999999 then decD 7 n.toNat else []

section
variable {mp : FuncId → Option MDef} {H : MH}
theorem R_itoa (h31 : mp 31 = some (.intr (scalS itoaG))) {n : Int} (h0 : 0 ≤ n) (h1 : n ≤ 9999999) : R mp 31 [.int .i64 n] H = some (.string (B (decD 7 n.toNat)), H) := by
  rw [R_intr h31]
  simp only [scalS, itoaG]
  rw [if_pos ⟨h0, h1⟩]; rfl
theorem R_text (hf : mp 22 = some (.code m22)) (h31 : mp 31 = some (.intr (scalS itoaG))) (n : Int) : R mp 22 [.int .i64 n] H = some (.string (B (textL n)), H) := by
  rw [R_code hf]
  unfold textL
  by_cases h0 : n < 0
  · have : ¬ (0 ≤ n ∧ n ≤ 9999999) := by omega
    rw [if_neg this]
    simp [m22, h0]; rfl
  · by_cases h1 : 9999999 < n
    · have : ¬ (0 ≤ n ∧ n ≤ 9999999) := by omega
      rw [if_neg this]
      simp [m22, h0, h1]; rfl
    · have : 0 ≤ n ∧ n ≤ 9999999 := by omega
      rw [if_pos this]
      simp [m22, h0, h1, R_itoa (H := H) h31 this.1 this.2]
theorem R_num {t : TypeId} (hf : mp 13 = some (.code m13)) (h30 : mp 30 = some (.intr (atoiS t))) (h31 : mp 31 = some (.intr (scalS itoaG))) {l : List UInt8} (hl : l.length ≤ 100000) :
    ∃ H', R mp 13 [.string (B l)] H = some (.tuple #[.int .i64 ((numL l).getD 0), .bool (numL l).isSome], H') ∧ Ext H H' := by
  have ha : R mp 30 [.string (B l)] H = atoiS t [.string (B l)] H := R_intr h30
  simp only [atoiS, B_data, B_size] at ha
  rw [if_pos (by omega)] at ha
  unfold numL
  cases hq : atoiAll l with
  | ok v =>
    rw [hq] at ha
    simp only at ha ⊢
    by_cases h7 : l.length ≤ 7
    · have h7' : ¬ (7 : Int) < (l.length : Int) := by omega
      by_cases h0 : 0 ≤ v
      · have h0' : ¬ v < 0 := by omega
        have hlt := atoi_lt hq h0
        have hp : (10 : Int) ^ l.length ≤ 10 ^ 7 := by exact_mod_cast Nat.pow_le_pow_right (by omega) h7
        have hi := R_itoa (H := H) h31 h0 (by omega)
        by_cases he : decD 7 v.toNat = l
        · rw [if_pos ⟨h7, h0, he⟩]
          rw [he] at hi
          refine ⟨H, ?_, Ext.refl _⟩
          rw [R_code hf]
          simp [m13, ha, h7', h0', hi]
        · rw [if_neg fun h => he h.2.2]
          refine ⟨H, ?_, Ext.refl _⟩
          rw [R_code hf]
          simp [m13, ha, h7', h0', hi, he]
      · have h0' : v < 0 := by omega
        rw [if_neg fun h => h0 h.2.1]
        refine ⟨H, ?_, Ext.refl _⟩
        rw [R_code hf]
        simp [m13, ha, h7', h0']
    · have h7' : (7 : Int) < (l.length : Int) := by omega
      rw [if_neg fun h => h7 h.1]
      refine ⟨H, ?_, Ext.refl _⟩
      rw [R_code hf]
      simp [m13, ha, h7']
  | range =>
    rw [hq] at ha
    refine ⟨_, ?_, ⟨[.dead], rfl⟩⟩
    rw [R_code hf]
    simp [m13, ha]
  | _ =>
    rw [hq] at ha
    refine ⟨_, ?_, ⟨[.dead], rfl⟩⟩
    rw [R_code hf]
    simp [m13, ha]
end
end Go.Mod

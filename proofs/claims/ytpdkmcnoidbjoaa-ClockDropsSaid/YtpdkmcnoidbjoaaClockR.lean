/- ClockFull, ClockDrops: the model's side. -/
import Derived.Test.YtpdkmcnoidbjoaaClockQ
set_option linter.unusedVariables false
set_option linter.unusedSimpArgs false
namespace Go.Mod
open Go.Proofs

theorem step_none {now : Int} {ps : List (Int × Int)} (h : ∀ p ∈ ps, now < p.1) : posR now ps = 0 := posR_of (by omega) (fun j p hj => by omega) fun p hp => h p (List.mem_of_getElem? hp)

section
variable {t q : Nat} {n late steps : Int}
theorem full1 (hst : 0 ≤ steps ∧ steps < 256) : ∀ (k i : Nat) (H : MH) (F : List Nat), (i + k : Nat) = steps.toNat → ClkA t q (i : Int) [] H F →
    ∃ (H' : MH) (F' : List Nat), Rc mpCk (.loop m11_1) [(0, .int .u8 n), (1, .int .u16 late), (2, .int .u8 steps), (7, .pointer (some ⟨t, 0, none⟩)), (8, .int .i64 (i : Int))] H =
      some (.exit 0, [(0, .int .u8 n), (1, .int .u16 late), (2, .int .u8 steps), (7, .pointer (some ⟨t, 0, none⟩)), (8, .int .i64 steps), (21, .bool false)], H') ∧ ClkA t q steps [] H' F'
  | 0, i, H, F, hk, h => by
    have e : (i : Int) = steps := by omega
    have w : IntKind.i64.wrap steps = steps := wrap_i64 (by omega) (by omega)
    rw [e] at h
    refine ⟨H, F, ?_, h⟩
    rw [Rc_loop]
    simp [m11_1, w, e]
  | k + 1, i, H, F, hk, h => by
    have hlt : (i : Int) < steps := by omega
    have w : IntKind.i64.wrap steps = steps := wrap_i64 (by omega) (by omega)
    obtain ⟨al, nl, cl, H1, F1, G, e3, g3, o3, d3, u3, n3⟩ := R_cstep (mp := mpCk) rfl rfl rfl h
    have hnl := (Own.row o3).i64n
    simp [idsR] at hnl
    subst hnl
    have hmn : min ((i : Int) + 1) 1000000 = ((i + 1 : Nat) : Int) := by omega
    rw [hmn] at g3
    obtain ⟨H', F', f1, f2⟩ := full1 hst k (i + 1) H1 F1 (by omega) (by simpa using g3)
    refine ⟨H', F', ?_, f2⟩
    have w1 : IntKind.i64.wrap ((i : Int) + 1) = (i : Int) + 1 := wrap_i64 (by omega) (by omega)
    simp at f1
    rw [Rc_loop]
    simp [m11_1, w, hlt, e3, w1]
    exact f1
/-- k puts, all due at one time. -/
theorem full0 {a b kk : Int} (hst : 0 ≤ steps ∧ steps < 256) (hla : 0 ≤ late ∧ late < 65536) (hkk : 0 ≤ kk ∧ kk ≤ 100) : ∀ (k i : Nat) (H : MH) (F : List Nat) (ps : List (Int × Int)), (i + k : Nat) = kk.toNat → ClkA t q steps ps H F → ps.length = min i 64 →
    ∃ (H' : MH) (F' : List Nat) (ps' : List (Int × Int)), Rc mpCk (.loop m11_0) [(1, .int .u16 late), (7, .pointer (some ⟨t, 0, none⟩)), (9, .int .i64 steps), (10, .int .i64 a), (11, .int .i64 b), (12, .int .i64 kk), (13, .int .i64 (i : Int))] H =
      some (.exit 2, [(1, .int .u16 late), (7, .pointer (some ⟨t, 0, none⟩)), (9, .int .i64 steps), (10, .int .i64 a), (11, .int .i64 b), (12, .int .i64 kk), (13, .int .i64 kk), (47, .bool false)], H') ∧ ClkA t q steps ps' H' F' ∧ (ps'.length : Int) = min kk 64
  | 0, i, H, F, ps, hk, h, hl => by
    have e : (i : Int) = kk := by omega
    refine ⟨H, F, ps, ?_, h, by omega⟩
    rw [Rc_loop]
    simp [m11_0, e]
  | k + 1, i, H, F, ps, hk, h, hl => by
    have hlt : (i : Int) < kk := by omega
    have w : IntKind.i64.wrap late = late := wrap_i64 (by omega) (by omega)
    have w1 : IntKind.i64.wrap ((i : Int) + 1) = (i : Int) + 1 := wrap_i64 (by omega) (by omega)
    have w2 : IntKind.i64.wrap (steps + late) = steps + late := wrap_i64 (by omega) (by omega)
    by_cases h64 : i < 64
    · obtain ⟨H1, F1, e1, g1, u1⟩ := R_cput (mp := mpCk) rfl rfl h (k := steps + late) (d := (i : Int)) (by omega) (by omega) (by omega)
      obtain ⟨H', F', ps', f1, f2⟩ := full0 (a := a) (b := b) hst hla hkk k (i + 1) H1 F1 _ (by omega) g1 (by rw [putAt_len (posR_le ..)]; omega)
      refine ⟨H', F', ps', ?_, f2⟩
      have hi64 : (i : Int) < 64 := by omega
      simp at f1
      rw [Rc_loop]
      simp [m11_0, hlt, w, w2, e1, hi64, w1]
      exact f1
    · obtain ⟨H1, e1, g1, x1⟩ := R_cput_full (mp := mpCk) rfl h (k := steps + late) (d := (i : Int)) (by omega) (by omega) (by omega)
      obtain ⟨H', F', ps', f1, f2⟩ := full0 (a := a) (b := b) hst hla hkk k (i + 1) H1 F ps (by omega) g1 (by omega)
      refine ⟨H', F', ps', ?_, f2⟩
      have hi64 : ¬ (i : Int) < 64 := by omega
      simp at f1
      rw [Rc_loop]
      simp [m11_0, hlt, w, w2, e1, hi64, w1]
      exact f1
end
theorem clockFull {H : MH} {n late steps : Int} (hn : 0 ≤ n ∧ n < 256) (hla : 0 ≤ late ∧ late < 65536) (hst : 0 ≤ steps ∧ steps < 256) : ∃ H', R mpCk 11 [.int .u8 n, .int .u16 late, .int .u8 steps] H = some (.bool true, H') := by
  refine isTrue_ex ?_
  obtain ⟨H1, e1, g1, x1⟩ := R_cnew (mp := mpCk) rfl (H := H)
  obtain ⟨H2, F2, e2, g2⟩ := full1 (n := n) (late := late) hst steps.toNat 0 H1 _ (by omega) g1
  obtain ⟨H3, e3, g3, x3⟩ := R_cput_form (mp := mpCk) rfl g2 (k := steps - 1) (d := 0) (by omega)
  obtain ⟨H4, e4, g4, x4⟩ := R_cput_form (mp := mpCk) rfl g3 (k := 1000001 + late) (d := 0) (by omega)
  have t3 : n.tmod 3 = n % 3 := Int.tmod_eq_emod_of_nonneg (by omega)
  have hb3 : 0 ≤ n % 3 ∧ n % 3 < 3 := by omega
  generalize n % 3 = n3 at *
  obtain ⟨H5, F5, ps, e5, g5, l5⟩ := full0 (a := 10) (b := 10) (kk := 63 + n3) hst hla (by omega) (63 + n3).toNat 0 H4 F2 [] (by omega) g4 (by simp)
  have h6 := R_clen (mp := mpCk) rfl g5
  have h7 := R_cnow (mp := mpCk) rfl g5
  rw [l5] at h6
  have w1 : IntKind.i64.wrap steps = steps := wrap_i64 (by omega) (by omega)
  have w2 : IntKind.i64.wrap (steps - 1) = steps - 1 := wrap_i64 (by omega) (by omega)
  have w3 : IntKind.i64.wrap late = late := wrap_i64 (by omega) (by omega)
  have w4 : IntKind.i64.wrap (1000001 + late) = 1000001 + late := wrap_i64 (by omega) (by omega)
  have w5 : IntKind.i64.wrap n3 = n3 := wrap_i64 (by omega) (by omega)
  have w6 : IntKind.i64.wrap (63 + n3) = 63 + n3 := wrap_i64 (by omega) (by omega)
  simp at e2 e5
  rw [R_code (fn := m11) rfl]
  simp [m11, knownC_R, e1, e2, w1, w2, e3, w3, w4, e4, t3, w5, w6, e5, h6, h7]
end Go.Mod

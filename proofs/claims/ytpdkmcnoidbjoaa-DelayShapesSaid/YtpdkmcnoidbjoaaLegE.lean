/- DelayShapes: the model's side, whole. -/
import Derived.Test.YtpdkmcnoidbjoaaLegD
set_option linter.unusedVariables false
set_option linter.unusedSimpArgs false
namespace Go.Mod
open Classical

section
variable {mp : FuncId → Option MDef} {H : MH}
theorem R_two26 (h62 : mp 26 = some (.code m26)) (h80 : mp 68 = some (.code m80)) {p r l r2 l2 : Int} : R mp 26 [.int .i64 p, .int .i64 r, .int .i64 l, .int .i64 r2, .int .i64 l2] H = some (.agg (s2 H.length p r l r2 l2).cells.toArray, H ++ twoObjs H.length p r l r2 l2) := by
  have h80 : ∀ H' (a : Option Addr) (n c : Nat), R mp 68 [.int .i64 p, .slice a n c] H' = some (.agg #[.int .i64 p, .slice (some ⟨H'.length + 1, 0, none⟩) 1 1, .slice (some ⟨H'.length + 2, 0, none⟩) 1 1, .slice (some ⟨H'.length + 3, 0, none⟩) 1 1], H' ++ [.cells ⟨0, true, false⟩ [.int .i64 p, .slice (some ⟨H'.length + 1, 0, none⟩) 1 1, .slice (some ⟨H'.length + 2, 0, none⟩) 1 1, .slice (some ⟨H'.length + 3, 0, none⟩) 1 1], .cells ⟨1, true, true⟩ [.int .i64 1], .cells ⟨1, true, true⟩ [.int .i64 0], .cells ⟨6, true, true⟩ [.string ⟨#[97]⟩, .int .i64 100, .int .i64 100, .int .i64 1, .int .i64 0, .slice a n c]]) := by
    intro H' a n c
    rw [R_code h80]
    simp (maxDischargeDepth := 12) [m80, ldnx, ldx, stx]
  rw [R_code h62]
  simp (maxDischargeDepth := 12) [m26, ldnx, ldx, stx, srcx, appx, h80, s2, SetL.cells, twoObjs, Nat.add_assoc]
end
def tB3 (b : Nat) : TaskL := ⟨⟨#[98]⟩, 200, 200, 2, 0, some ⟨b + 14, 0, none⟩, 3, [⟨1, 1, 0⟩, ⟨3, 9, 0⟩, ⟨3, 9, 1⟩]⟩
def sD (b : Nat) : SetL := ⟨1, [1], some ⟨b + 3, 0, none⟩, 1, [0, 0], some ⟨b + 11, 0, none⟩, 2, [tA b 1 9, tB3 b], some ⟨b + 9, 0, none⟩, 2⟩
def dObjs (b : Nat) (a g o l xt xp : Int) : MH :=
  [.cells ⟨0, true, false⟩ [.int .i64 1, .slice (some ⟨b + 3, 0, none⟩) 1 1, .slice (some ⟨b + 4, 0, none⟩) 1 1, .slice (some ⟨b + 9, 0, none⟩) 2 2],
   .cells ⟨3, true, true⟩ [.int .i64 1, .int .i64 1, .int .i64 0, .int .i64 3, .int .i64 9, .int .i64 0],
   .cells ⟨0, true, false⟩ [.int .i64 1, .slice (some ⟨b + 3, 0, none⟩) 1 1, .slice (some ⟨b + 4, 0, none⟩) 1 1, .slice (some ⟨b + 5, 0, none⟩) 1 1],
   .cells ⟨1, true, true⟩ [.int .i64 1], .cells ⟨1, true, true⟩ [.int .i64 0],
   .cells ⟨6, true, true⟩ [.string ⟨#[97]⟩, .int .i64 100, .int .i64 100, .int .i64 1, .int .i64 0, .slice (some ⟨b + 1, 0, none⟩) 2 2],
   .cells ⟨0, true, false⟩ [.int .i64 1, .slice (some ⟨b + 3, 0, none⟩) 1 1, .slice (some ⟨b + 4, 0, none⟩) 1 1, .slice (some ⟨b + 9, 0, none⟩) 2 2],
   .cells ⟨3, true, true⟩ [.int .i64 1, .int .i64 1, .int .i64 0, .int .i64 3, .int .i64 9, .int .i64 0],
   .cells ⟨6, true, true⟩ [.string ⟨#[98]⟩, .int .i64 200, .int .i64 200, .int .i64 2, .int .i64 0, .slice (some ⟨b + 7, 0, none⟩) 2 2],
   .cells ⟨6, true, false⟩ ((sD b).tasks.flatMap taskC),
   .cells ⟨0, true, false⟩ (sD b).cells, .cells ⟨1, true, true⟩ [.int .i64 0, .int .i64 0], .cells ⟨3, true, true⟩ [.int .i64 3, .int .i64 9, .int .i64 1], .dead,
   .cells ⟨3, true, false⟩ [.int .i64 1, .int .i64 1, .int .i64 0, .int .i64 3, .int .i64 9, .int .i64 0, .int .i64 3, .int .i64 9, .int .i64 1],
   .cells ⟨0, true, false⟩ [.int .i64 0, .int .i64 1, .int .i64 a, .int .i64 (a + g), .int .i64 (a + g + 5)],
   .cells ⟨0, true, false⟩ [.int .i64 xt, .int .i64 xp, .int .i64 0, .int .i64 o, .int .i64 (o + l + 1)],
   .cells ⟨5, true, true⟩ [.int .i64 xt, .int .i64 xp, .int .i64 0, .int .i64 o, .int .i64 (o + l + 1), .int .i64 0, .int .i64 1, .int .i64 a, .int .i64 (a + g), .int .i64 (a + g + 5)]]
def tD (b : Nat) (a g o l xt xp : Int) : TraceL := ⟨200, [], none, 0, [], none, 0, [⟨xt, xp, 0, o, o + l + 1⟩, ⟨0, 1, a, a + g, a + g + 5⟩], some ⟨b + 17, 0, none⟩, 2⟩
theorem sD_ok {b : Nat} : okSet (sD b) := by
  have nA : nameB ⟨#[97]⟩ := name1 (by decide)
  have nB : nameB ⟨#[98]⟩ := name1 (by decide)
  have pl : placesB (sD b).cores (sD b).homes := by simp [sD, placesB]
  have pA : partsOk (sD b).homes.length (tA b 1 9).parts := by
    refine ⟨fun p hp => ?_, by simp [tA], by simp [tA]⟩
    simp [tA] at hp
    rcases hp with rfl | rfl <;> simp [partOk, sD]
  have pB : partsOk (sD b).homes.length (tB3 b).parts := by
    refine ⟨fun p hp => ?_, by simp [tB3], by simp [tB3]⟩
    simp [tB3] at hp
    rcases hp with rfl | rfl | rfl <;> simp [partOk, sD]
  have eA : taskE (sD b) 0 (tA b 1 9) = 0 := by
    unfold taskE
    rw [if_neg (by simp only [Classical.not_not]; exact ⟨nA, by simp [tA], by simp [tA], by simp [tA]⟩), if_neg (by simp [tA, sD]), if_neg (by simp), if_neg (by simpa using pA)]
  have eB : taskE (sD b) 1 (tB3 b) = 0 := by
    unfold taskE
    rw [if_neg (by simp only [Classical.not_not]; exact ⟨nB, by simp [tB3], by simp [tB3], by simp [tB3]⟩), if_neg (by simp [tB3, sD]), if_neg (by simp [sD, tA, tB3]), if_neg (by simpa using pB)]
  unfold okSet checkE
  rw [if_neg (by simp [sD]), if_neg (by simpa using pl), if_neg (by simp [sD]), if_neg (by simp [sD])]
  simp only [show (sD b).tasks = [tA b 1 9, tB3 b] from rfl, firstE, eA, eB, if_true]
theorem sD_lk {b : Nat} : lk (sD b) 1 1 = (⟨3, 9, 0⟩, true) ∧ lk (sD b) 1 2 = (⟨3, 9, 1⟩, true) ∧ lk (sD b) 0 1 = (⟨3, 9, 0⟩, true) := by
  refine ⟨?_, ?_, ?_⟩ <;> simp [lk, lkT, sD, tA, tB3]
theorem d_call {H : MH} {a g o l xt xp : Int} {n : Nat} (hn : passN (sD H.length) ⟨0, 1, a, a + g, a + g + 5⟩ [⟨xt, xp, 0, o, o + l + 1⟩, ⟨0, 1, a, a + g, a + g + 5⟩] = n) :
    ∃ H1, R mpGk 22 [.agg (sD H.length).cells.toArray, .agg (tD H.length a g o l xt xp).cells.toArray, .agg (wtC ⟨0, 1, a, a + g, a + g + 5⟩).toArray] (H ++ dObjs H.length a g o l xt xp) = some (.int .i64 (n : Int), H1) := by
  have hs : SetAt (H ++ dObjs H.length a g o l xt xp) (sD H.length) := by
    refine ⟨?_, ?_, ?_, fun t ht => ?_, by simp [sD, tA, tB3]; decide⟩
    · exact RowG.litF (b := H.length + 3) (i := ⟨1, true, true⟩) (by simp [dObjs, sD, intC]) rfl (by omega) intC_ok
    · exact RowG.litF (b := H.length + 11) (i := ⟨1, true, true⟩) (by simp [dObjs, sD, intC]) rfl (by omega) intC_ok
    · exact RowG.litF (b := H.length + 9) (i := ⟨6, true, false⟩) (by simp [dObjs]) rfl (by omega) taskC_ok
    · simp [sD] at ht
      rcases ht with rfl | rfl
      · exact RowG.litF (b := H.length + 1) (i := ⟨3, true, true⟩) (by simp [dObjs, tA, partC]) rfl (by omega) partC_ok
      · exact RowG.litF (b := H.length + 14) (i := ⟨3, true, false⟩) (by simp [dObjs, tB3, partC]) rfl (by omega) partC_ok
  have ht : TraceAt (H ++ dObjs H.length a g o l xt xp) (tD H.length a g o l xt xp) :=
    ⟨RowG.nil, RowG.nil, RowG.litF (b := H.length + 17) (i := ⟨5, true, true⟩) (by simp [dObjs, tD, wtC]) rfl (by omega) wtC_ok, by simp [tD]⟩
  obtain ⟨H1, h1, _⟩ := G_passed (mp := mpGk) cpG rfl rfl hs ht ⟨0, 1, a, a + g, a + g + 5⟩ (Ext.refl _) sD_ok (by rw [sD_lk.2.2])
  rw [show (tD H.length a g o l xt xp).waits = [⟨xt, xp, 0, o, o + l + 1⟩, ⟨0, 1, a, a + g, a + g + 5⟩] from rfl, hn] at h1
  exact ⟨H1, h1⟩
theorem p_two {s : SetL} {x w : WaitL} (hw : ¬ passB s w w) : passN s w [x, w] = if passB s w x then 1 else 0 := by
  rw [passN_cons, passN_cons, if_neg hw]
  simp [passN]
set_option maxHeartbeats 4000000 in
theorem delayShapes {H : MH} {ask got other long : Int} {res same : Bool} (h0 : 0 ≤ ask ∧ ask < 256) (h1 : 0 ≤ got ∧ got < 256) (h2 : 0 ≤ other ∧ other < 256) (h3 : 0 ≤ long ∧ long < 256) : ∃ H', R mpGk 4 [.int .u8 ask, .int .u8 got, .int .u8 other, .int .u8 long, .bool res, .bool same] H = some (.bool true, H') := by
  refine isTrue_ex ?_
  rw [R_code (fn := m4) rfl]
  have t1 : ask.tmod 50 = ask % 50 := Int.tmod_eq_emod_of_nonneg (by omega)
  have t2 : got.tmod 20 = got % 20 := Int.tmod_eq_emod_of_nonneg (by omega)
  have t3 : other.tmod 80 = other % 80 := Int.tmod_eq_emod_of_nonneg (by omega)
  have t4 : long.tmod 9 = long % 9 := Int.tmod_eq_emod_of_nonneg (by omega)
  have hT := fun (H' : MH) => R_two26 (mp := mpGk) (H := H') rfl rfl (p := 1) (r := 1) (l := 9) (r2 := 1) (l2 := 9)
  obtain ⟨a, ha⟩ : ∃ g, ask % 50 = g := ⟨_, rfl⟩
  obtain ⟨g, hg⟩ : ∃ g, got % 20 = g := ⟨_, rfl⟩
  obtain ⟨o, ho⟩ : ∃ g, other % 80 = g := ⟨_, rfl⟩
  obtain ⟨l, hl⟩ : ∃ g, long % 9 = g := ⟨_, rfl⟩
  rw [ha] at t1; rw [hg] at t2; rw [ho] at t3; rw [hl] at t4
  have w1 : IntKind.i64.wrap a = a := wrap_i64 (by omega) (by omega)
  have w2 : IntKind.i64.wrap g = g := wrap_i64 (by omega) (by omega)
  have w3 : IntKind.i64.wrap o = o := wrap_i64 (by omega) (by omega)
  have w4 : IntKind.i64.wrap l = l := wrap_i64 (by omega) (by omega)
  have w5 : IntKind.i64.wrap (a + g) = a + g := wrap_i64 (by omega) (by omega)
  have w6 : IntKind.i64.wrap (a + g + 5) = a + g + 5 := wrap_i64 (by omega) (by omega)
  have w7 : IntKind.i64.wrap (o + l) = o + l := wrap_i64 (by omega) (by omega)
  have w8 : IntKind.i64.wrap (o + l + 1) = o + l + 1 := wrap_i64 (by omega) (by omega)
  have hww : ∀ b, ¬ passB (sD b) ⟨0, 1, a, a + g, a + g + 5⟩ ⟨0, 1, a, a + g, a + g + 5⟩ := fun b h => h.2.1 rfl
  -- who is counted
  have c11 : ∀ {n : Nat}, (n = if (a ≤ o ∧ o < a + g) ∨ (o < a ∧ a < o + l + 1) then 1 else 0) → passN (sD H.length) ⟨0, 1, a, a + g, a + g + 5⟩ [⟨1, 1, 0, o, o + l + 1⟩, ⟨0, 1, a, a + g, a + g + 5⟩] = n := by
    intro n hn
    rw [p_two (hww _), hn]
    have : passB (sD H.length) ⟨0, 1, a, a + g, a + g + 5⟩ ⟨1, 1, 0, o, o + l + 1⟩ ↔ (a ≤ o ∧ o < a + g) ∨ (o < a ∧ a < o + l + 1) := by
      unfold passB
      simp only [sD_lk.1, sD_lk.2.2]
      simp
    simp only [this]
  have c12 : passN (sD H.length) ⟨0, 1, a, a + g, a + g + 5⟩ [⟨1, 2, 0, o, o + l + 1⟩, ⟨0, 1, a, a + g, a + g + 5⟩] = 0 := by
    rw [p_two (hww _), if_neg]
    rintro ⟨_, _, h, _⟩
    simp only [sD_lk.2.1, sD_lk.2.2] at h
    simp at h
  have c01 : passN (sD H.length) ⟨0, 1, a, a + g, a + g + 5⟩ [⟨0, 1, 0, o, o + l + 1⟩, ⟨0, 1, a, a + g, a + g + 5⟩] = 0 := by
    rw [p_two (hww _), if_neg]
    exact fun h => h.2.1 rfl
  obtain ⟨X12, x12⟩ := d_call c12
  obtain ⟨X01, x01⟩ := d_call c01
  simp [dObjs, tD, sD, tA, tB3, SetL.cells, TraceL.cells, wtC, taskC] at x12 x01
  by_cases p1 : a ≤ o
  · have p3 : ¬ o < a := by omega
    by_cases p2 : o < a + g
    · obtain ⟨X11, x11⟩ := d_call (c11 (n := 1) (by rw [if_pos (.inl ⟨p1, p2⟩)]))
      simp [dObjs, tD, sD, tA, tB3, SetL.cells, TraceL.cells, wtC, taskC] at x11
      cases res <;> cases same <;> simp (maxDischargeDepth := 12) [m4, knownG26_R, hT, s2, twoObjs, SetL.cells, stx, ldx, ldnx, srcx, appx0, appx, mdraw_full, t1, t2, t3, t4, w1, w2, w3, w4, w5, w6, w7, w8, p1, p2, x11, x12, x01]
    · obtain ⟨X11, x11⟩ := d_call (c11 (n := 0) (by rw [if_neg (by omega)]))
      simp [dObjs, tD, sD, tA, tB3, SetL.cells, TraceL.cells, wtC, taskC] at x11
      cases res <;> cases same <;> simp (maxDischargeDepth := 12) [m4, knownG26_R, hT, s2, twoObjs, SetL.cells, stx, ldx, ldnx, srcx, appx0, appx, mdraw_full, t1, t2, t3, t4, w1, w2, w3, w4, w5, w6, w7, w8, p1, p2, p3, x11, x12, x01]
  · have p3 : o < a := by omega
    by_cases p4 : a < o + l + 1
    · obtain ⟨X11, x11⟩ := d_call (c11 (n := 1) (by rw [if_pos (.inr ⟨p3, p4⟩)]))
      simp [dObjs, tD, sD, tA, tB3, SetL.cells, TraceL.cells, wtC, taskC] at x11
      cases res <;> cases same <;> simp (maxDischargeDepth := 12) [m4, knownG26_R, hT, s2, twoObjs, SetL.cells, stx, ldx, ldnx, srcx, appx0, appx, mdraw_full, t1, t2, t3, t4, w1, w2, w3, w4, w5, w6, w7, w8, p1, p3, p4, x11, x12, x01]
    · obtain ⟨X11, x11⟩ := d_call (c11 (n := 0) (by rw [if_neg (by omega)]))
      simp [dObjs, tD, sD, tA, tB3, SetL.cells, TraceL.cells, wtC, taskC] at x11
      cases res <;> cases same <;> simp (maxDischargeDepth := 12) [m4, knownG26_R, hT, s2, twoObjs, SetL.cells, stx, ldx, ldnx, srcx, appx0, appx, mdraw_full, t1, t2, t3, t4, w1, w2, w3, w4, w5, w6, w7, w8, p1, p3, p4, x11, x12, x01]
end Go.Mod

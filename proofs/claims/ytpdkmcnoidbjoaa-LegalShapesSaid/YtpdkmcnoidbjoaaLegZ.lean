/- LegalShapes: the model's side. -/
import Derived.Test.YtpdkmcnoidbjoaaLegY
import Derived.Test.YtpdkmcnoidbjoaaGrG
set_option linter.unusedVariables false
set_option linter.unusedSimpArgs false
namespace Go.Mod
open Classical

def gS (k : Int) : List SlotL := [⟨k, 0, 0, false⟩, ⟨k + 1, 0, 1, false⟩]
def gJ (k : Int) : List DoneL := [⟨0, k, k + 5⟩, ⟨0, k + 100, k + 105⟩]
def gW (k : Int) : List WaitL := [⟨0, 1, k, k, k + 3⟩, ⟨1, 1, k, k + 3, k + 6⟩]
def sS (b : Nat) : SetL := s2 b 1 1 3 1 3
def tG (b : Nat) (k : Int) : TraceL := ⟨500, gS k, some ⟨b + 11, 0, none⟩, 2, gJ k, some ⟨b + 12, 0, none⟩, 2, gW k, some ⟨b + 13, 0, none⟩, 2⟩
def tBad (b : Nat) (tk : Int) (sl : List SlotL) (jb : List DoneL) (wt : List WaitL) : TraceL := ⟨tk, sl, some ⟨b + 16, 0, none⟩, 2, jb, some ⟨b + 17, 0, none⟩, 2, wt, some ⟨b + 18, 0, none⟩, 2⟩
def shObjs (b : Nat) (k tk : Int) (sl : List SlotL) (jb : List DoneL) (wt : List WaitL) : MH :=
  [.cells ⟨0, true, false⟩ (sS b).cells, .cells ⟨4, true, true⟩ ((gS k).flatMap slC), .cells ⟨3, true, true⟩ ((gJ k).flatMap dnC), .cells ⟨5, true, true⟩ ((gW k).flatMap wtC), .cells ⟨0, true, false⟩ (tG b k).cells,
   .cells ⟨0, true, false⟩ (tBad b tk [⟨0, 0, 0, false⟩, ⟨0, 0, 0, false⟩] [⟨0, 0, 0⟩, ⟨0, 0, 0⟩] [⟨0, 0, 0, 0, 0⟩, ⟨0, 0, 0, 0, 0⟩]).cells, .cells ⟨4, true, false⟩ (sl.flatMap slC), .cells ⟨3, true, false⟩ (jb.flatMap dnC), .cells ⟨5, true, false⟩ (wt.flatMap wtC)]
theorem sS_ok {b : Nat} : okSet (sS b) := two_ok (b := b) (r := 1) (l := 3) (r2 := 1) (l2 := 3) (by simp [sS, s2]) rfl (.inl rfl) rfl (by decide) (by decide) (by decide) (by decide)
theorem sS_lk {b : Nat} : lk (sS b) 1 1 = (⟨3, 3, 0⟩, true) ∧ lk (sS b) 0 1 = (⟨3, 3, 0⟩, true) ∧ lk (sS b) 0 0 = (⟨1, 1, 0⟩, false) := lk_two (s := sS b) (b := b) rfl
theorem good_slots {b : Nat} {k : Int} (h : 0 ≤ k ∧ k < 20) : slotsB (sS b) (tG b k) := by
  have e : ¬ k = k + 1 := by omega
  refine ⟨?_, ?_⟩
  · rw [pair_sorted]
    simp [tG, gS, ltS]; omega
  · simp [tG, gS, allGood, goodS, slottedB, rangeS, ruleS, runS, cntS, sS, s2, tA, tB, e]
    omega
theorem good_jobs {b : Nat} {k : Int} (h : 0 ≤ k ∧ k < 20) : allJ (sS b) 500 [] (gJ k) := by
  simp [gJ, allJ, jobB, sS, s2, tA, tB]
  omega
theorem good_waits {b : Nat} {k : Int} (h : 0 ≤ k ∧ k < 20) : allW (sS b) 500 [] (gW k) := by
  simp [gW, allW, waitB, sS_lk]
  omega
theorem good_legal {b : Nat} {k : Int} (h : 0 ≤ k ∧ k < 20) : legalB (sS b) (tG b k) := ⟨sS_ok, by simp [tG], by simp [tG], good_slots h, good_jobs h, good_waits h⟩

section
variable {H : MH}
theorem sh_at {k tk : Int} {sl : List SlotL} {jb : List DoneL} {wt : List WaitL} (h1 : sl.length = 2) (h2 : jb.length = 2) (h3 : wt.length = 2) :
    SetAt (H ++ (twoObjs H.length 1 1 3 1 3 ++ shObjs H.length k tk sl jb wt)) (sS H.length) ∧ TraceAt (H ++ (twoObjs H.length 1 1 3 1 3 ++ shObjs H.length k tk sl jb wt)) (tG H.length k) ∧ TraceAt (H ++ (twoObjs H.length 1 1 3 1 3 ++ shObjs H.length k tk sl jb wt)) (tBad H.length tk sl jb wt) := by
  refine ⟨?_, ⟨?_, ?_, ?_, by simp [tG, gS, gJ, gW]⟩, ⟨?_, ?_, ?_, by simp [tBad, h1, h2, h3]⟩⟩
  · rw [← List.append_assoc]; exact two_at.ext ⟨_, rfl⟩
  · exact RowG.litF (b := H.length + 11) (i := ⟨4, true, true⟩) (by simp [twoObjs, shObjs, tG]) rfl (by omega) slC_ok
  · exact RowG.litF (b := H.length + 12) (i := ⟨3, true, true⟩) (by simp [twoObjs, shObjs, tG]) rfl (by omega) dnC_ok
  · exact RowG.litF (b := H.length + 13) (i := ⟨5, true, true⟩) (by simp [twoObjs, shObjs, tG]) rfl (by omega) wtC_ok
  · exact RowG.litF (b := H.length + 16) (i := ⟨4, true, false⟩) (by simp [twoObjs, shObjs, tBad]) rfl (by omega) slC_ok
  · exact RowG.litF (b := H.length + 17) (i := ⟨3, true, false⟩) (by simp [twoObjs, shObjs, tBad]) rfl (by omega) dnC_ok
  · exact RowG.litF (b := H.length + 18) (i := ⟨5, true, false⟩) (by simp [twoObjs, shObjs, tBad]) rfl (by omega) wtC_ok
/-- Both calls. -/
theorem sh_calls {k tk : Int} (h : 0 ≤ k ∧ k < 20) {sl : List SlotL} {jb : List DoneL} {wt : List WaitL} (h1 : sl.length = 2) (h2 : jb.length = 2) (h3 : wt.length = 2) (hbad : ¬ legalB (sS H.length) (tBad H.length tk sl jb wt)) :
    ∃ H1, Ext (H ++ (twoObjs H.length 1 1 3 1 3 ++ shObjs H.length k tk sl jb wt)) H1 ∧ R mpGk 58 [.agg (sS H.length).cells.toArray, .agg (tG H.length k).cells.toArray] (H ++ (twoObjs H.length 1 1 3 1 3 ++ shObjs H.length k tk sl jb wt)) = some (.bool true, H1) ∧
      mread (.ld (some 4)) [.pointer (some ⟨H.length + 10, 0, none⟩)] H1 = some (.agg (sS H.length).cells.toArray) ∧ mread (.ld (some 4)) [.pointer (some ⟨H.length + 15, 0, none⟩)] H1 = some (.agg (tBad H.length tk sl jb wt).cells.toArray) ∧
      ∃ H2, R mpGk 58 [.agg (sS H.length).cells.toArray, .agg (tBad H.length tk sl jb wt).cells.toArray] H1 = some (.bool false, H2) := by
  obtain ⟨a1, a2, a3⟩ := sh_at (H := H) (k := k) (tk := tk) h1 h2 h3
  obtain ⟨H1, b1, b2⟩ := G_legal legG a1 a2 (Ext.refl _)
  obtain ⟨H2, c1, c2⟩ := G_legal legG a1 a3 b2
  rw [decide_eq_true (good_legal h)] at b1
  rw [decide_eq_false hbad] at c1
  have x1 : (H ++ (twoObjs H.length 1 1 3 1 3 ++ shObjs H.length k tk sl jb wt))[H.length + 10]? = some (.cells ⟨0, true, false⟩ (sS H.length).cells) := by simp [twoObjs, shObjs]
  have x2 : (H ++ (twoObjs H.length 1 1 3 1 3 ++ shObjs H.length k tk sl jb wt))[H.length + 15]? = some (.cells ⟨0, true, false⟩ (tBad H.length tk sl jb wt).cells) := by simp [twoObjs, shObjs, tBad, TraceL.cells, h1, h2, h3]
  exact ⟨H1, b2, b1, by rw [ldn_at (b2.get x1) 0 4 (by simp [SetL.cells]) (by simp [SetL.cells])]; simp [SetL.cells], by rw [ldn_at (b2.get x2) 0 4 (by simp [TraceL.cells]) (by simp [TraceL.cells])]; simp [TraceL.cells], H2, c1⟩
end
set_option maxHeartbeats 4000000 in
theorem legalShapes {H : MH} {which n : Int} (h0 : 0 ≤ which ∧ which < 256) (h1 : 0 ≤ n ∧ n < 256) : ∃ H', R mpGk 14 [.int .u8 which, .int .u8 n] H = some (.bool true, H') := by
  refine isTrue_ex ?_
  rw [R_code (fn := m14) rfl]
  have t1 : n.tmod 20 = n % 20 := Int.tmod_eq_emod_of_nonneg (by omega)
  have t2 : which.tmod 9 = which % 9 := Int.tmod_eq_emod_of_nonneg (by omega)
  have hT := fun (H' : MH) => R_two (mp := mpGk) (H := H') rfl rfl (p := 1) (r := 1) (l := 3) (r2 := 1) (l2 := 3)
  obtain ⟨k, hk⟩ : ∃ k, n % 20 = k := ⟨_, rfl⟩
  obtain ⟨w, hw⟩ : ∃ w, which % 9 = w := ⟨_, rfl⟩
  have hk2 : 0 ≤ k ∧ k < 20 := by omega
  rw [hk] at t1; rw [hw] at t2
  have w1 : IntKind.i64.wrap k = k := wrap_i64 (by omega) (by omega)
  have wr : ∀ j : Int, 0 ≤ j → j ≤ 1000 → IntKind.i64.wrap (k + j) = k + j := fun j h1 h2 => wrap_i64 (by omega) (by omega)
  have r1 := wr 1 (by omega) (by omega)
  have r2 := wr 2 (by omega) (by omega)
  have r3 := wr 3 (by omega) (by omega)
  have r5 := wr 5 (by omega) (by omega)
  have r6 := wr 6 (by omega) (by omega)
  have r99 := wr 99 (by omega) (by omega)
  have r100 := wr 100 (by omega) (by omega)
  have r105 := wr 105 (by omega) (by omega)
  have hw9 : w = 0 ∨ w = 1 ∨ w = 2 ∨ w = 3 ∨ w = 4 ∨ w = 5 ∨ w = 6 ∨ w = 7 ∨ w = 8 := by omega
  rcases hw9 with rfl | rfl | rfl | rfl | rfl | rfl | rfl | rfl | rfl
  · obtain ⟨H1, e1, c1, l1, l2, H2, c2⟩ := sh_calls (H := H) (tk := 500) hk2 (sl := [⟨k + 1, 0, 1, false⟩, ⟨k, 0, 0, false⟩]) (jb := gJ k) (wt := gW k) rfl rfl rfl (fun h => by
      have := h.2.2.2.1.1 0 _ _ rfl rfl
      simp [ltS] at this; omega)
    simp [shObjs, twoObjs, SetL.cells, TraceL.cells, sS, s2, tG, tBad, gS, gJ, gW, slC, dnC, wtC] at c1 c2 l1 l2
    simp (maxDischargeDepth := 12) [m14, knownG_R, hT, s2, twoObjs, SetL.cells, stx, ldx, ldnx, srcx, appx0, mdraw_full, t1, t2, w1, r1, r2, r3, r5, r6, r99, r100, r105, c1, c2, l1, l2]
  · obtain ⟨H1, e1, c1, l1, l2, H2, c2⟩ := sh_calls (H := H) (tk := 500) hk2 (sl := [⟨k, 0, 0, false⟩, ⟨k, 0, 1, false⟩]) (jb := gJ k) (wt := gW k) rfl rfl rfl (fun h => by
      have := h.2.2.2.1.2
      simp [tBad, allGood, goodS, slottedB, rangeS, ruleS, runS, cntS, sS, s2, tA, tB] at this)
    simp [shObjs, twoObjs, SetL.cells, TraceL.cells, sS, s2, tG, tBad, gS, gJ, gW, slC, dnC, wtC] at c1 c2 l1 l2
    simp (maxDischargeDepth := 12) [m14, knownG_R, hT, s2, twoObjs, SetL.cells, stx, ldx, ldnx, srcx, appx0, mdraw_full, t1, t2, w1, r1, r2, r3, r5, r6, r99, r100, r105, c1, c2, l1, l2]
  · obtain ⟨H1, e1, c1, l1, l2, H2, c2⟩ := sh_calls (H := H) (tk := 500) hk2 (sl := [⟨k, 1, 0, false⟩, ⟨k + 1, 0, 1, false⟩]) (jb := gJ k) (wt := gW k) rfl rfl rfl (fun h => by
      have := h.2.2.2.1.2.1.1.1.2.1
      simp [sS, s2] at this)
    simp [shObjs, twoObjs, SetL.cells, TraceL.cells, sS, s2, tG, tBad, gS, gJ, gW, slC, dnC, wtC] at c1 c2 l1 l2
    simp (maxDischargeDepth := 12) [m14, knownG_R, hT, s2, twoObjs, SetL.cells, stx, ldx, ldnx, srcx, appx0, mdraw_full, t1, t2, w1, r1, r2, r3, r5, r6, r99, r100, r105, c1, c2, l1, l2]
  · obtain ⟨H1, e1, c1, l1, l2, H2, c2⟩ := sh_calls (H := H) (tk := 500) hk2 (sl := gS k) (jb := [⟨0, k, k + 5⟩, ⟨0, k + 99, k + 105⟩]) (wt := gW k) rfl rfl rfl (fun h => by
      have := h.2.2.2.2.1.2.1.2 _ rfl
      simp [sS, s2, tA, tB] at this; omega)
    simp [shObjs, twoObjs, SetL.cells, TraceL.cells, sS, s2, tG, tBad, gS, gJ, gW, slC, dnC, wtC] at c1 c2 l1 l2
    simp (maxDischargeDepth := 12) [m14, knownG_R, hT, s2, twoObjs, SetL.cells, stx, ldx, ldnx, srcx, appx0, mdraw_full, t1, t2, w1, r1, r2, r3, r5, r6, r99, r100, r105, c1, c2, l1, l2]
  · obtain ⟨H1, e1, c1, l1, l2, H2, c2⟩ := sh_calls (H := H) (tk := 500) hk2 (sl := gS k) (jb := [⟨0, k, k⟩, ⟨0, k + 100, k + 105⟩]) (wt := gW k) rfl rfl rfl (fun h => by
      have := h.2.2.2.2.1.1.1.2.2.2.1
      simp at this)
    simp [shObjs, twoObjs, SetL.cells, TraceL.cells, sS, s2, tG, tBad, gS, gJ, gW, slC, dnC, wtC] at c1 c2 l1 l2
    simp (maxDischargeDepth := 12) [m14, knownG_R, hT, s2, twoObjs, SetL.cells, stx, ldx, ldnx, srcx, appx0, mdraw_full, t1, t2, w1, r1, r2, r3, r5, r6, r99, r100, r105, c1, c2, l1, l2]
  · obtain ⟨H1, e1, c1, l1, l2, H2, c2⟩ := sh_calls (H := H) (tk := 500) hk2 (sl := gS k) (jb := gJ k) (wt := [⟨0, 1, k, k, k + 3⟩, ⟨1, 1, k, k + 2, k + 6⟩]) rfl rfl rfl (fun h => by
      have := h.2.2.2.2.2.2.1.2 _ (by simp; exact rfl) (by simp [sS_lk])
      simp at this; omega)
    simp [shObjs, twoObjs, SetL.cells, TraceL.cells, sS, s2, tG, tBad, gS, gJ, gW, slC, dnC, wtC] at c1 c2 l1 l2
    simp (maxDischargeDepth := 12) [m14, knownG_R, hT, s2, twoObjs, SetL.cells, stx, ldx, ldnx, srcx, appx0, mdraw_full, t1, t2, w1, r1, r2, r3, r5, r6, r99, r100, r105, c1, c2, l1, l2]
  · obtain ⟨H1, e1, c1, l1, l2, H2, c2⟩ := sh_calls (H := H) (tk := 500) hk2 (sl := gS k) (jb := gJ k) (wt := [⟨0, 0, k, k, k + 3⟩, ⟨1, 1, k, k + 3, k + 6⟩]) rfl rfl rfl (fun h => by
      have := h.2.2.2.2.2.1.1.1
      simp [sS_lk] at this)
    simp [shObjs, twoObjs, SetL.cells, TraceL.cells, sS, s2, tG, tBad, gS, gJ, gW, slC, dnC, wtC] at c1 c2 l1 l2
    simp (maxDischargeDepth := 12) [m14, knownG_R, hT, s2, twoObjs, SetL.cells, stx, ldx, ldnx, srcx, appx0, mdraw_full, t1, t2, w1, r1, r2, r3, r5, r6, r99, r100, r105, c1, c2, l1, l2]
  · obtain ⟨H1, e1, c1, l1, l2, H2, c2⟩ := sh_calls (H := H) (tk := 500) hk2 (sl := gS k) (jb := gJ k) (wt := [⟨0, 1, k + 1, k, k + 3⟩, ⟨1, 1, k, k + 3, k + 6⟩]) rfl rfl rfl (fun h => by
      have := h.2.2.2.2.2.1.1.2.2.1
      simp at this; omega)
    simp [shObjs, twoObjs, SetL.cells, TraceL.cells, sS, s2, tG, tBad, gS, gJ, gW, slC, dnC, wtC] at c1 c2 l1 l2
    simp (maxDischargeDepth := 12) [m14, knownG_R, hT, s2, twoObjs, SetL.cells, stx, ldx, ldnx, srcx, appx0, mdraw_full, t1, t2, w1, r1, r2, r3, r5, r6, r99, r100, r105, c1, c2, l1, l2]
  · obtain ⟨H1, e1, c1, l1, l2, H2, c2⟩ := sh_calls (H := H) (tk := (-1)) hk2 (sl := gS k) (jb := gJ k) (wt := gW k) rfl rfl rfl (fun h => by
      have := h.2.1
      simp [tBad] at this)
    simp [shObjs, twoObjs, SetL.cells, TraceL.cells, sS, s2, tG, tBad, gS, gJ, gW, slC, dnC, wtC] at c1 c2 l1 l2
    simp (maxDischargeDepth := 12) [m14, knownG_R, hT, s2, twoObjs, SetL.cells, stx, ldx, ldnx, srcx, appx0, mdraw_full, t1, t2, w1, r1, r2, r3, r5, r6, r99, r100, r105, c1, c2, l1, l2]
end Go.Mod

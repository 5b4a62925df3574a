/- The document's Same. -/
import Derived.Test.YthpeamllfledkaaDoorTqA
set_option linter.unusedVariables false
set_option linter.unusedSimpArgs false
namespace Go.Mod

section
variable {mp : FuncId → Option MDef} {H H0 : MH}
open Classical in
theorem sameS_loop (h47 : mp 47 = some (.code m47)) {s u : SetL} (hs : SetAt H0 s) (hu : SetAt H0 u) {b2 b3 : Nat} (h2 : H0[b2]? = some (.cells ⟨0, true, false⟩ s.cells)) (h3 : H0[b3]? = some (.cells ⟨0, true, false⟩ u.cells)) (hlen : s.tasks.length = u.tasks.length) : ∀ (k i : Nat) (H : MH), i + k = s.tasks.length → Ext H0 H → (s.tasks.map TaskL.plain).take i = (u.tasks.map TaskL.plain).take i →
    (s.tasks.map TaskL.plain = u.tasks.map TaskL.plain ∧ ∃ H', Rc mp (.loop m29_0) [(2, .pointer (some ⟨b2, 0, none⟩)), (3, .pointer (some ⟨b3, 0, none⟩)), (5, .int .i64 (i : Int))] H = some (.exit 0, [(2, .pointer (some ⟨b2, 0, none⟩)), (3, .pointer (some ⟨b3, 0, none⟩)), (5, .int .i64 (s.tasks.length : Int)), (40, .bool false)], H') ∧ Ext H H') ∨
    (s.tasks.map TaskL.plain ≠ u.tasks.map TaskL.plain ∧ ∃ H', Rc mp (.loop m29_0) [(2, .pointer (some ⟨b2, 0, none⟩)), (3, .pointer (some ⟨b3, 0, none⟩)), (5, .int .i64 (i : Int))] H = some (.ret, [(4, .bool false)], H') ∧ Ext H H') := by
  intro k
  induction k with
  | zero =>
    intro i H hi e ht
    have : i = s.tasks.length := by omega
    subst this
    have l2 := ld_at (e.get h2) 3
    simp only [SetL.cells] at l2
    refine .inl ⟨?_, H, ?_, Ext.refl _⟩
    · have h1 : (s.tasks.map TaskL.plain).length = s.tasks.length := by simp
      have h2 : (u.tasks.map TaskL.plain).length = s.tasks.length := by simp [hlen]
      rw [List.take_of_length_le (by omega), List.take_of_length_le (by omega)] at ht
      exact ht
    · rw [Rc_loop]
      simp at l2
      simp [m29_0, l2]
  | succ k ih =>
    intro i H hi e ht
    have hia : i < s.tasks.length := by omega
    have hib : i < u.tasks.length := by omega
    have hia' : (i : Int) < (s.tasks.length : Int) := by omega
    have hszt := hs.few.2.2.1
    have hga := List.getElem?_eq_getElem hia
    have hgb := List.getElem?_eq_getElem hib
    have hma := List.getElem_mem hia
    have hmb := List.getElem_mem hib
    have l2 := ld_at (e.get h2) 3
    have l3 := ld_at (e.get h3) 3
    simp only [SetL.cells] at l2 l3
    have i1 := hs.tasks.ia s.tc .i64 (i : Int)
    rw [if_pos ⟨by omega, by omega⟩, Int.toNat_natCast] at i1
    have i2 := hu.tasks.ia u.tc .i64 (i : Int)
    rw [if_pos ⟨by omega, by omega⟩, Int.toNat_natCast] at i2
    have r1 := hs.tasks.rdn hga H e
    have r2 := hu.tasks.rdn hgb H e
    have w : IntKind.i64.wrap ((i : Int) + 1) = (i : Int) + 1 := wrap_i64 (by omega) (by omega)
    obtain ⟨H1, q1, x1⟩ := R_sameT (mp := mp) (H := H) h47 (t := s.tasks[i]) (u := u.tasks[i]) ((hs.parts _ hma).ext e) ((hu.parts _ hmb).ext e) ((hs.few.2.2.2.2 _ hma).2)
    simp only [taskC] at r1 r2 q1
    simp at l2 l3 q1
    by_cases hx : s.tasks[i].plain = u.tasks[i].plain
    · rcases ih (i + 1) H1 (by omega) (e.trans x1) (take_grow ht (by rw [List.getElem?_map, hga]; rfl) (by rw [List.getElem?_map, hgb]; rfl) hx) with ⟨g1, H', g2, g3⟩ | ⟨g1, H', g2, g3⟩
      · refine .inl ⟨g1, H', ?_, x1.trans g3⟩
        rw [Rc_loop]
        simp [m29_0, hia, hia', l2, l3, i1, i2, r1, r2, mdraw_plain, w, q1, hx]
        exact g2
      · refine .inr ⟨g1, H', ?_, x1.trans g3⟩
        rw [Rc_loop]
        simp [m29_0, hia, hia', l2, l3, i1, i2, r1, r2, mdraw_plain, w, q1, hx]
        exact g2
    · refine .inr ⟨fun e => hx ?_, H1, ?_, x1⟩
      · have h1 : (s.tasks.map TaskL.plain)[i]? = some s.tasks[i].plain := by rw [List.getElem?_map, hga]; rfl
        have h2 : (u.tasks.map TaskL.plain)[i]? = some u.tasks[i].plain := by rw [List.getElem?_map, hgb]; rfl
        rw [e, h2] at h1
        exact (Option.some.inj h1).symm
      · rw [Rc_loop]
        simp [m29_0, hia, hia', l2, l3, i1, i2, r1, r2, mdraw_plain, w, q1, hx]
theorem sets_iff (s u : SetL) : s.plain = u.plain ↔ (s.proto = u.proto ∧ s.cores = u.cores ∧ s.homes = u.homes ∧ s.tasks.map TaskL.plain = u.tasks.map TaskL.plain) := by
  simp [SetL.plain, plainSet]
open Classical in
theorem R_sameS (hf : mp 29 = some (.code m29)) (h46 : mp 46 = some (.code m46)) (h47 : mp 47 = some (.code m47)) {s u : SetL} (hs : SetAt H s) (hu : SetAt H u) :
    ∃ H', R mp 29 [.agg s.cells.toArray, .agg u.cells.toArray] H = some (.bool (decide (s.plain = u.plain)), H') ∧ Ext H H' := by
  have e2 : Ext H (H ++ [.cells ⟨0, true, false⟩ s.cells, .cells ⟨0, true, false⟩ u.cells]) := ⟨_, rfl⟩
  have hp := sets_iff s u
  have qc := R_sameI (mp := mp) (H := H ++ [.cells ⟨0, true, false⟩ s.cells, .cells ⟨0, true, false⟩ u.cells]) h46 hs.few.1 (n := s.cores.length) (m := u.cores.length) (c := s.cc) (d := u.cc) rfl rfl (hs.cores.ext e2) (hu.cores.ext e2)
  have qh := R_sameI (mp := mp) (H := H ++ [.cells ⟨0, true, false⟩ s.cells, .cells ⟨0, true, false⟩ u.cells]) h46 hs.few.2.1 (n := s.homes.length) (m := u.homes.length) (c := s.hc) (d := u.hc) rfl rfl (hs.homes.ext e2) (hu.homes.ext e2)
  simp only [SetL.cells] at qc qh
  by_cases h1 : s.proto = u.proto
  · by_cases h2 : s.cores = u.cores
    · by_cases h3 : s.homes = u.homes
      · by_cases h4 : s.tasks.length = u.tasks.length
        · have hb2 : (H ++ [MObj.cells ⟨0, true, false⟩ s.cells, .cells ⟨0, true, false⟩ u.cells])[H.length]? = some (.cells ⟨0, true, false⟩ s.cells) := by simp
          have hb3 : (H ++ [MObj.cells ⟨0, true, false⟩ s.cells, .cells ⟨0, true, false⟩ u.cells])[H.length + 1]? = some (.cells ⟨0, true, false⟩ u.cells) := by simp
          rcases sameS_loop (mp := mp) h47 (hs.ext e2) (hu.ext e2) hb2 hb3 h4 s.tasks.length 0 _ (by omega) (Ext.refl _) (by simp) with ⟨q1, H', q2, q3⟩ | ⟨q1, H', q2, q3⟩
          · have hq : s.plain = u.plain := hp.2 ⟨h1, h2, h3, q1⟩
            refine ⟨H', ?_, e2.trans q3⟩
            rw [R_code hf, decide_eq_true hq]
            rw [decide_eq_true h2] at qc
            rw [decide_eq_true h3] at qh
            simp only [SetL.cells, h1, h4] at q2 qc qh
            simp at q2
            simp [m29, SetL.cells, ldx, h1, qc, qh, h4, q2]
          · have hq : ¬ s.plain = u.plain := fun h => q1 (hp.1 h).2.2.2
            refine ⟨H', ?_, e2.trans q3⟩
            rw [R_code hf, decide_eq_false hq]
            rw [decide_eq_true h2] at qc
            rw [decide_eq_true h3] at qh
            simp only [SetL.cells, h1, h4] at q2 qc qh
            simp at q2
            simp [m29, SetL.cells, ldx, h1, qc, qh, h4, q2]
        · have hq : ¬ s.plain = u.plain := fun h => h4 (by have := congrArg List.length (hp.1 h).2.2.2; simpa using this)
          have h4' : ¬ (s.tasks.length : Int) = (u.tasks.length : Int) := by omega
          refine ⟨_, ?_, e2⟩
          rw [R_code hf, decide_eq_false hq]
          rw [decide_eq_true h2] at qc
          rw [decide_eq_true h3] at qh
          simp only [h1] at qc qh
          simp [m29, SetL.cells, ldx, h1, qc, qh, h4, h4']
      · have hq : ¬ s.plain = u.plain := fun h => h3 (hp.1 h).2.2.1
        refine ⟨_, ?_, e2⟩
        rw [R_code hf, decide_eq_false hq]
        rw [decide_eq_true h2] at qc
        rw [decide_eq_false h3] at qh
        simp only [h1] at qc qh
        simp [m29, SetL.cells, ldx, h1, qc, qh]
    · have hq : ¬ s.plain = u.plain := fun h => h2 (hp.1 h).2.1
      refine ⟨_, ?_, e2⟩
      rw [R_code hf, decide_eq_false hq]
      rw [decide_eq_false h2] at qc
      simp only [h1] at qc
      simp [m29, SetL.cells, ldx, h1, qc]
  · have hq : ¬ s.plain = u.plain := fun h => h1 (hp.1 h).1
    refine ⟨_, ?_, e2⟩
    rw [R_code hf, decide_eq_false hq]
    simp [m29, SetL.cells, ldx, h1]
end
end Go.Mod

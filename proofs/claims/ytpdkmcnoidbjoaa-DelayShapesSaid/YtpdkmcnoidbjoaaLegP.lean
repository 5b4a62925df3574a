/- What layer 25's functions come to: the program's. -/
import Derived.Test.YtpdkmcnoidbjoaaLgM
import Derived.Test.YtpdkmcnoidbjoaaLegQ
set_option linter.unusedVariables false
set_option linter.unusedSimpArgs false
namespace Go.Mod

section
variable {mp : FuncId → Option MDef} {H0 H : MH}
/-! ### a task's lock -/
theorem G_lock {f : FuncId} (hf : mp f = some (.code m81)) {s : SetL} (hs : SetAt H0 s) (e : Ext H0 H) (n p : Int) : GR mp f [.agg s.cells.toArray, .int .i64 n, .int .i64 p] H (.tuple #[.agg (partC (lk s n p).1).toArray, .bool (lk s n p).2]) := by
  unfold GR
  rw [R_code hf]
  by_cases h1 : n < 0
  · rw [lk_none (by unfold lkT; rw [if_neg (by omega)])]
    simp (maxDischargeDepth := 12) [m81, SetL.cells, partC, ldx, ldnx, stx, h1]
  obtain ⟨k, rfl⟩ := Int.eq_ofNat_of_zero_le (show 0 ≤ n by omega)
  by_cases h2 : s.tasks.length ≤ k
  · rw [lk_none (by unfold lkT; split; · simp [List.getElem?_eq_none h2]
                    · rfl)]
    simp (maxDischargeDepth := 12) [m81, SetL.cells, partC, ldx, ldnx, stx, h1, h2]
  have hk : k < s.tasks.length := by omega
  obtain ⟨t, ht⟩ : ∃ t, s.tasks[k]? = some t := ⟨_, List.getElem?_eq_getElem hk⟩
  have hrd := hs.tasks.rd ht
  have hpa := hs.parts t (List.mem_of_getElem? ht)
  by_cases h3 : p < 0
  · rw [lk_none (by unfold lkT; rw [if_neg (by omega)])]
    simp (maxDischargeDepth := 12) [m81, SetL.cells, partC, taskC, ldx, ldnx, stx, h1, h2, h3]
  obtain ⟨j, rfl⟩ := Int.eq_ofNat_of_zero_le (show 0 ≤ p by omega)
  by_cases h4 : t.parts.length ≤ j
  · rw [lk_none (by unfold lkT; split; · simp [ht, List.getElem?_eq_none h4]
                    · rfl)]
    simp (maxDischargeDepth := 12) [m81, SetL.cells, partC, taskC, ldx, ldnx, stx, h1, h2, h3, h4, hk, hs.tasks.ia, hrd, e]
  have hj : j < t.parts.length := by omega
  obtain ⟨q, hq⟩ : ∃ q, t.parts[j]? = some q := ⟨_, List.getElem?_eq_getElem hj⟩
  have hrq := hpa.rdn hq
  rw [lk_some (show lkT s (k : Int) (j : Int) = some q by unfold lkT; rw [if_pos (by omega)]; simp [ht, hq])]
  simp only [partC] at hrq
  simp (maxDischargeDepth := 12) [m81, SetL.cells, partC, taskC, ldx, ldnx, stx, h1, h2, h3, h4, hk, hj, hs.tasks.ia, hpa.ia, hrd, hrq, e, mdraw_full]

/-! ### who held -/
theorem find_drop {α : Type} {P : α → Bool} {l : List α} {i : Nat} {w : α} (hw : l[i]? = some w) : (l.drop i).find? P = if P w = true then some w else (l.drop (i + 1)).find? P := by
  rw [drop_at hw, List.find?_cons]
  cases P w <;> rfl
theorem holder_loop {f : FuncId} (hf : mp 81 = some (.code m81)) {s : SetL} {t : TraceL} (hs : SetAt H0 s) (hr : RowG 5 H0 t.wa t.waits wtC) (hn : t.waits.length ≤ 100000) {bs : Nat} {ix : Info} (hx : H0[bs]? = some (.cells ix s.cells)) (tm res : Int) : ∀ (k i : Nat) (H : MH), i + k = t.waits.length → Ext H0 H →
    ((t.waits.drop i).find? (fun w => decide (holdB s tm res w)) = none ∧ GL mp (.loop m56_0) [(2, .int .i64 tm), (3, .int .i64 res), (5, .pointer (some ⟨bs, 0, none⟩)), (24, .slice t.wa t.waits.length t.wc), (25, .int .i64 (t.waits.length : Int)), (26, .int .i64 (i : Int))] H (.exit 0) [(2, .int .i64 tm), (3, .int .i64 res), (5, .pointer (some ⟨bs, 0, none⟩)), (24, .slice t.wa t.waits.length t.wc), (25, .int .i64 (t.waits.length : Int)), (26, .int .i64 (t.waits.length : Int)), (27, .bool false)]) ∨
    (∃ w, (t.waits.drop i).find? (fun w => decide (holdB s tm res w)) = some w ∧ GL mp (.loop m56_0) [(2, .int .i64 tm), (3, .int .i64 res), (5, .pointer (some ⟨bs, 0, none⟩)), (24, .slice t.wa t.waits.length t.wc), (25, .int .i64 (t.waits.length : Int)), (26, .int .i64 (i : Int))] H .ret [(8, .int .i64 w.task), (9, .bool true)]) := by
  have hdn := ldbn hx
  simp only [SetL.cells] at hdn
  intro k
  induction k with
  | zero =>
    intro i H hk e
    have : i = t.waits.length := by omega
    subst this
    refine .inl ⟨by simp, ?_⟩
    unfold GL
    rw [Rc_loop]
    simp [m56_0]
  | succ k ih =>
    intro i H hk e
    have hin : i < t.waits.length := by omega
    obtain ⟨y, hy⟩ : ∃ y, t.waits[i]? = some y := ⟨_, List.getElem?_eq_getElem hin⟩
    have w : IntKind.i64.wrap ((i : Int) + 1) = (i : Int) + 1 := wrap_i64 (by omega) (by omega)
    have hrd := hr.rdn hy
    have hl := fun (H' : MH) (e' : Ext H0 H') => (G_lock (H := H') hf hs e' y.task y.part).eq
    simp only [SetL.cells, partC] at hl
    simp only [wtC] at hrd
    rw [find_drop hy]
    generalize hlk : lk s y.task y.part = q at hl
    by_cases hh : holdB s tm res y
    · rw [if_pos (by simpa using hh)]
      refine .inr ⟨y, rfl, ?_⟩
      obtain ⟨g1, g2, g3, g4⟩ := hh
      rw [hlk] at g1 g2
      unfold GL
      rw [Rc_loop]
      rw [g1, g2] at hl
      simp (maxDischargeDepth := 12) [m56_0, hin, hr.ia, hrd, e, stx, ldx, hdn, hl, g3, g4]
    · rw [if_neg (by simpa using hh)]
      have fin : ∀ (X : Option (MExit × Reg × MH)), True := fun _ => trivial
      rcases ih (i + 1) (aft mp 81 [.agg s.cells.toArray, .int .i64 y.task, .int .i64 y.part] (H ++ [.cells ⟨0, true, false⟩ (wtC y)]) ++ [.cells ⟨0, true, false⟩ (partC q.1)]) (by omega) (by simp (maxDischargeDepth := 12) [e]) with ⟨h1, h2⟩ | ⟨v, h1, h2⟩
      · refine .inl ⟨h1, ?_⟩
        simp only [SetL.cells, wtC, partC] at h2
        unfold GL
        rw [Rc_loop]
        cases c1 : q.2 with
        | false =>
          rw [c1] at hl
          simp (maxDischargeDepth := 12) [m56_0, hin, hr.ia, hrd, e, stx, ldx, hdn, hl, w]
          exact h2.next (by simp (maxDischargeDepth := 12))
        | true =>
          rw [c1] at hl
          by_cases c2 : q.1.res = res
          · by_cases c3 : y.got ≤ tm
            · have c4 : ¬ tm < y.finish := fun c4 => hh ⟨by rw [hlk]; exact c1, by rw [hlk]; exact c2, c3, c4⟩
              simp (maxDischargeDepth := 12) [m56_0, hin, hr.ia, hrd, e, stx, ldx, hdn, hl, w, c2, c3, c4]
              rw [c2] at h2
              exact h2.next (by simp (maxDischargeDepth := 12))
            · simp (maxDischargeDepth := 12) [m56_0, hin, hr.ia, hrd, e, stx, ldx, hdn, hl, w, c2, c3]
              rw [c2] at h2
              exact h2.next (by simp (maxDischargeDepth := 12))
          · simp (maxDischargeDepth := 12) [m56_0, hin, hr.ia, hrd, e, stx, ldx, hdn, hl, w, c2]
            exact h2.next (by simp (maxDischargeDepth := 12))
      · refine .inr ⟨v, h1, ?_⟩
        simp only [SetL.cells, wtC, partC] at h2
        unfold GL
        rw [Rc_loop]
        cases c1 : q.2 with
        | false =>
          rw [c1] at hl
          simp (maxDischargeDepth := 12) [m56_0, hin, hr.ia, hrd, e, stx, ldx, hdn, hl, w]
          exact h2.next (by simp (maxDischargeDepth := 12))
        | true =>
          rw [c1] at hl
          by_cases c2 : q.1.res = res
          · by_cases c3 : y.got ≤ tm
            · have c4 : ¬ tm < y.finish := fun c4 => hh ⟨by rw [hlk]; exact c1, by rw [hlk]; exact c2, c3, c4⟩
              simp (maxDischargeDepth := 12) [m56_0, hin, hr.ia, hrd, e, stx, ldx, hdn, hl, w, c2, c3, c4]
              rw [c2] at h2
              exact h2.next (by simp (maxDischargeDepth := 12))
            · simp (maxDischargeDepth := 12) [m56_0, hin, hr.ia, hrd, e, stx, ldx, hdn, hl, w, c2, c3]
              rw [c2] at h2
              exact h2.next (by simp (maxDischargeDepth := 12))
          · simp (maxDischargeDepth := 12) [m56_0, hin, hr.ia, hrd, e, stx, ldx, hdn, hl, w, c2]
            exact h2.next (by simp (maxDischargeDepth := 12))
abbrev CP (mp : FuncId → Option MDef) : Prop := ChkP mp 89 103 104 105 115 90 107 106 108 116 109 91 63
abbrev CR (mp : FuncId → Option MDef) : Prop := ChkR mp 119 120 114 113 102 85
theorem G_holder (hc : CP mp) (hf : mp 56 = some (.code m56)) (hl : mp 81 = some (.code m81)) {s : SetL} {t : TraceL} (hs : SetAt H0 s) (ht : TraceAt H0 t) (e : Ext H0 H) (tm res : Int) :
    GR mp 56 [.agg t.cells.toArray, .agg s.cells.toArray, .int .i64 tm, .int .i64 res] H (.tuple #[.int .i64 (holderB s t tm res).1, .bool (holderB s t tm res).2]) := by
  have e1 : Ext H (H ++ [.cells ⟨0, true, false⟩ t.cells, .cells ⟨0, true, false⟩ s.cells]) := ⟨_, rfl⟩
  have hx : (H ++ [MObj.cells ⟨0, true, false⟩ t.cells, .cells ⟨0, true, false⟩ s.cells])[H.length + 1]? = some (.cells ⟨0, true, false⟩ s.cells) := by simp
  have hk := fun (H' : MH) (e' : Ext H0 H') => (G_checkP (H := H') hc hs e').eq
  simp only [SetL.cells] at hk
  obtain ⟨n1, n2, n3, n4⟩ := ht.few
  unfold GR
  rw [R_code hf]
  unfold holderB
  by_cases hok : okSet s
  · rw [if_pos hok]
    have h0 : (checkE s).2 = 0 := hok
    rcases holder_loop (mp := mp) (f := 81) hl (hs.ext (e.trans e1)) (ht.waits.ext (e.trans e1)) n3 hx tm res t.waits.length 0 (aft mp 63 [.agg s.cells.toArray] (H ++ [.cells ⟨0, true, false⟩ t.cells, .cells ⟨0, true, false⟩ s.cells])) (by omega) (by simp) with ⟨g1, g2⟩ | ⟨w, g1, g2⟩
    · rw [List.drop_zero] at g1
      rw [g1]
      have g2 := g2.eq
      simp [SetL.cells, TraceL.cells] at g2
      simp (maxDischargeDepth := 12) [m56, SetL.cells, TraceL.cells, ldnx, ldx, e, hk, h0, g2]
    · rw [List.drop_zero] at g1
      rw [g1]
      have g2 := g2.eq
      simp [SetL.cells, TraceL.cells] at g2
      simp (maxDischargeDepth := 12) [m56, SetL.cells, TraceL.cells, ldnx, ldx, e, hk, h0, g2]
  · rw [if_neg hok]
    have h0 : ¬ (checkE s).2 = 0 := hok
    simp (maxDischargeDepth := 12) [m56, SetL.cells, TraceL.cells, ldnx, ldx, e, hk, h0]
end
end Go.Mod

/- DelayShapes: the model's side. -/
import Derived.Test.YtpdkmcnoidbjoaaLegY
import Derived.Test.YtpdkmcnoidbjoaaGrG
set_option linter.unusedVariables false
set_option linter.unusedSimpArgs false
namespace Go.Mod
open Classical

/-- Has one been waited for? -/
def passB (s : SetL) (w : WaitL) (o : WaitL) : Prop := (lk s o.task o.part).2 = true ∧ o.task ≠ w.task ∧ (lk s o.task o.part).1.res = (lk s w.task w.part).1.res ∧ ((w.ask ≤ o.got ∧ o.got < w.got) ∨ (o.got < w.ask ∧ w.ask < o.finish))
noncomputable def passN (s : SetL) (w : WaitL) (l : List WaitL) : Nat := l.countP fun o => decide (passB s w o)
section
variable {mp : FuncId → Option MDef} {H0 H : MH}
theorem passN_cons {s : SetL} {w o : WaitL} {l : List WaitL} : passN s w (o :: l) = if passB s w o then passN s w l + 1 else passN s w l := by
  unfold passN
  rw [List.countP_cons]
  by_cases h : passB s w o
  · simp [h]
  · simp [h]
theorem passN_le {s : SetL} {w : WaitL} {l : List WaitL} : passN s w l ≤ l.length := List.countP_le_length
set_option maxHeartbeats 1000000 in
theorem passed_loop (hf : mp 64 = some (.code m81)) {s : SetL} {t : TraceL} {w : WaitL} {p : PartL} (hs : SetAt H0 s) (ht : TraceAt H0 t) {bs bw bp : Nat} {is iw ip : Info} (hxs : H0[bs]? = some (.cells is s.cells)) (hxw : H0[bw]? = some (.cells iw (wtC w))) (hxp : H0[bp]? = some (.cells ip (partC p))) (hp : p.res = (lk s w.task w.part).1.res) :
    ∀ (k i : Nat) (H : MH) (n : Int), i + k = t.waits.length → Ext H0 H → 0 ≤ n → n ≤ (i : Int) →
    GL mp (.loop m22_0) [(3, .pointer (some ⟨bs, 0, none⟩)), (5, .pointer (some ⟨bw, 0, none⟩)), (9, .pointer (some ⟨bp, 0, none⟩)), (11, .int .i64 n), (37, .slice t.wa t.waits.length t.wc), (38, .int .i64 (t.waits.length : Int)), (39, .int .i64 (i : Int))] H
      (.exit 0) [(3, .pointer (some ⟨bs, 0, none⟩)), (5, .pointer (some ⟨bw, 0, none⟩)), (9, .pointer (some ⟨bp, 0, none⟩)), (11, .int .i64 (n + (passN s w (t.waits.drop i) : Nat))), (37, .slice t.wa t.waits.length t.wc), (38, .int .i64 (t.waits.length : Int)), (39, .int .i64 (t.waits.length : Int)), (40, .bool false)] := by
  obtain ⟨n1, n2, n3, n4⟩ := ht.few
  have hds := ldbn hxs
  have hdw := ldb hxw
  have hdp := ldb hxp
  simp only [SetL.cells] at hds
  simp only [wtC] at hdw
  simp only [partC] at hdp
  intro k
  induction k with
  | zero =>
    intro i H n hk e h0 hi
    have : i = t.waits.length := by omega
    subst this
    unfold GL
    rw [Rc_loop]
    simp [m22_0, passN]
  | succ k ih =>
    intro i H n hk e h0 hi
    have hin : i < t.waits.length := by omega
    obtain ⟨o, ho⟩ : ∃ y, t.waits[i]? = some y := ⟨_, List.getElem?_eq_getElem hin⟩
    have wi : IntKind.i64.wrap ((i : Int) + 1) = (i : Int) + 1 := wrap_i64 (by omega) (by omega)
    have wn : IntKind.i64.wrap (n + 1) = n + 1 := wrap_i64 (by omega) (by omega)
    have hrd := ht.waits.rdn ho
    have hl := fun (H' : MH) (e' : Ext H0 H') => (G_lock (H := H') hf hs e' o.task o.part).eq
    simp only [SetL.cells, partC] at hl
    simp only [wtC] at hrd
    generalize hlk : lk s o.task o.part = q at hl
    rw [drop_at ho, passN_cons]
    have hpb : passB s w o ↔ q.2 = true ∧ o.task ≠ w.task ∧ q.1.res = p.res ∧ ((w.ask ≤ o.got ∧ o.got < w.got) ∨ (o.got < w.ask ∧ w.ask < o.finish)) := by
      unfold passB; rw [hlk, hp]
    obtain ⟨H2, hH2⟩ : ∃ H2, aft mp 64 [.agg s.cells.toArray, .int .i64 o.task, .int .i64 o.part] (H ++ [.cells ⟨0, true, false⟩ (wtC o)]) ++ [.cells ⟨0, true, false⟩ (partC q.1)] = H2 := ⟨_, rfl⟩
    have eH2 : Ext H H2 := by rw [← hH2]; simp (maxDischargeDepth := 12)
    have step : ∀ n', n' = (if passB s w o then n + 1 else n) → Rc mp (.loop m22_0) [(3, .pointer (some ⟨bs, 0, none⟩)), (5, .pointer (some ⟨bw, 0, none⟩)), (9, .pointer (some ⟨bp, 0, none⟩)), (11, .int .i64 n), (37, .slice t.wa t.waits.length t.wc), (38, .int .i64 (t.waits.length : Int)), (39, .int .i64 (i : Int))] H = Rc mp (.loop m22_0) [(3, .pointer (some ⟨bs, 0, none⟩)), (5, .pointer (some ⟨bw, 0, none⟩)), (9, .pointer (some ⟨bp, 0, none⟩)), (11, .int .i64 n'), (37, .slice t.wa t.waits.length t.wc), (38, .int .i64 (t.waits.length : Int)), (39, .int .i64 ((i : Int) + 1))] H2 := by
      intro n' hn'
      rw [Rc_loop, ← hH2]
      simp only [SetL.cells, wtC, partC]
      by_cases c1 : q.2 = true
      case neg =>
        rw [if_neg (fun h => c1 (hpb.1 h).1)] at hn'
        have c1 : q.2 = false := by simpa using c1
        rw [c1] at hl
        simp (maxDischargeDepth := 12) [m22_0, hin, ht.waits.ia, hrd, e, stx, ldx, hds, hl, wi, hn']
      rw [c1] at hl
      by_cases c2 : o.task = w.task
      · rw [if_neg (fun h => (hpb.1 h).2.1 c2)] at hn'
        rw [c2] at hl hrd
        simp (maxDischargeDepth := 12) [m22_0, hin, ht.waits.ia, hrd, e, stx, ldx, hds, hdw, hl, wi, hn', c2]
      by_cases c3 : q.1.res = p.res
      case neg =>
        rw [if_neg (fun h => c3 (hpb.1 h).2.2.1)] at hn'
        simp (maxDischargeDepth := 12) [m22_0, hin, ht.waits.ia, hrd, e, stx, ldx, hds, hdw, hdp, hl, wi, hn', c2, c3]
      rw [c3] at hl
      by_cases c4 : w.ask ≤ o.got
      · have c6 : ¬ o.got < w.ask := by omega
        by_cases c5 : o.got < w.got
        · rw [if_pos (hpb.2 ⟨c1, c2, c3, .inl ⟨c4, c5⟩⟩)] at hn'
          simp (maxDischargeDepth := 12) [m22_0, hin, ht.waits.ia, hrd, e, stx, ldx, hds, hdw, hdp, hl, wi, wn, hn', c2, c3, c4, c5]
        · rw [if_neg (fun h => by have := (hpb.1 h).2.2.2; omega)] at hn'
          simp (maxDischargeDepth := 12) [m22_0, hin, ht.waits.ia, hrd, e, stx, ldx, hds, hdw, hdp, hl, wi, wn, hn', c2, c3, c4, c5, c6]
      · have c6 : o.got < w.ask := by omega
        by_cases c5 : w.ask < o.finish
        · rw [if_pos (hpb.2 ⟨c1, c2, c3, .inr ⟨c6, c5⟩⟩)] at hn'
          simp (maxDischargeDepth := 12) [m22_0, hin, ht.waits.ia, hrd, e, stx, ldx, hds, hdw, hdp, hl, wi, wn, hn', c2, c3, c4, c5, c6]
        · rw [if_neg (fun h => by have := (hpb.1 h).2.2.2; omega)] at hn'
          simp (maxDischargeDepth := 12) [m22_0, hin, ht.waits.ia, hrd, e, stx, ldx, hds, hdw, hdp, hl, wi, wn, hn', c2, c3, c4, c5, c6]
    by_cases hb : passB s w o
    · rw [if_pos hb]
      have := ih (i + 1) H2 (n + 1) (by omega) (e.trans eH2) (by omega) (by omega)
      rw [show n + ((passN s w (t.waits.drop (i + 1)) + 1 : Nat) : Int) = n + 1 + (passN s w (t.waits.drop (i + 1)) : Nat) by omega]
      exact GL.step (step (n + 1) (by rw [if_pos hb])) eH2 this
    · rw [if_neg hb]
      exact GL.step (step n (by rw [if_neg hb])) eH2 (ih (i + 1) H2 n (by omega) (e.trans eH2) (by omega) (by omega))
theorem G_passed (hc : CP mp) (hf : mp 22 = some (.code m22)) (h64 : mp 64 = some (.code m81)) {s : SetL} {t : TraceL} (hs : SetAt H0 s) (ht : TraceAt H0 t) (w : WaitL) (e : Ext H0 H) (hok : okSet s) (hw : (lk s w.task w.part).2 = true) : GR mp 22 [.agg s.cells.toArray, .agg t.cells.toArray, .agg (wtC w).toArray] H (.int .i64 (passN s w t.waits : Nat)) := by
  have hk := fun (H' : MH) (e' : Ext H0 H') => (G_checkP (H := H') hc hs e').eq
  have hl := fun (H' : MH) (e' : Ext H0 H') => (G_lock (H := H') h64 hs e' w.task w.part).eq
  have h0 : (checkE s).2 = 0 := hok
  simp only [h0] at hk
  rw [hw] at hl
  have hx1 : (H ++ [MObj.cells ⟨0, true, false⟩ s.cells, .cells ⟨0, true, false⟩ t.cells, .cells ⟨0, true, false⟩ (wtC w)])[H.length]? = some (.cells ⟨0, true, false⟩ s.cells) := by simp
  have hx2 : (H ++ [MObj.cells ⟨0, true, false⟩ s.cells, .cells ⟨0, true, false⟩ t.cells, .cells ⟨0, true, false⟩ (wtC w)])[H.length + 1]? = some (.cells ⟨0, true, false⟩ t.cells) := by simp
  have hx3 : (H ++ [MObj.cells ⟨0, true, false⟩ s.cells, .cells ⟨0, true, false⟩ t.cells, .cells ⟨0, true, false⟩ (wtC w)])[H.length + 2]? = some (.cells ⟨0, true, false⟩ (wtC w)) := by simp
  obtain ⟨H2, hH2⟩ : ∃ H2, aft mp 64 [.agg s.cells.toArray, .int .i64 w.task, .int .i64 w.part] (aft mp 63 [.agg s.cells.toArray] (H ++ [MObj.cells ⟨0, true, false⟩ s.cells, .cells ⟨0, true, false⟩ t.cells, .cells ⟨0, true, false⟩ (wtC w)])) = H2 := ⟨_, rfl⟩
  have e2 : Ext (H ++ [MObj.cells ⟨0, true, false⟩ s.cells, .cells ⟨0, true, false⟩ t.cells, .cells ⟨0, true, false⟩ (wtC w)]) H2 := by rw [← hH2]; simp (maxDischargeDepth := 12)
  have eH : Ext H H2 := Ext.trans ⟨_, rfl⟩ e2
  have e3 : Ext H2 (H2 ++ [MObj.cells ⟨0, true, false⟩ (partC (lk s w.task w.part).1)]) := ⟨_, rfl⟩
  have hL := passed_loop (mp := mp) (H0 := H2 ++ [MObj.cells ⟨0, true, false⟩ (partC (lk s w.task w.part).1)]) h64 (hs.ext ((e.trans eH).trans e3)) (ht.ext ((e.trans eH).trans e3)) (e3.get (e2.get hx1)) (e3.get (e2.get hx3)) (bp := H2.length) (ip := ⟨0, true, false⟩) (p := (lk s w.task w.part).1) (by simp) rfl t.waits.length 0 _ 0 (by omega) (Ext.refl _) (by omega) (by omega)
  obtain ⟨H5, f1, f2⟩ := hL
  have d1 := ldbn hx1
  have d2 := ldb (e2.get hx2)
  have d3 := ldb hx3
  simp only [SetL.cells, TraceL.cells, wtC, partC] at hk hl d1 d2 d3 hH2 e2
  simp [SetL.cells, TraceL.cells, wtC, partC] at f1 f2
  unfold GR
  rw [R_code hf]
  simp (maxDischargeDepth := 12) [m22, SetL.cells, TraceL.cells, wtC, partC, stx, d1, d2, d3, e, hk, hl, hH2, f1]
  exact eH.trans (e3.trans f2)
end
end Go.Mod

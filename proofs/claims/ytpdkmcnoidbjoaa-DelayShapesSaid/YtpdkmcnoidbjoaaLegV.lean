/- Traces that may be: the reference's. -/
import Derived.Test.YtpdkmcnoidbjoaaLegU
set_option linter.unusedVariables false
set_option linter.unusedSimpArgs false
namespace Go.Mod
open Classical

section
variable {mp : FuncId → Option MDef} {H0 H : MH}
structure RefF (mp : FuncId → Option MDef) : Prop where
  r : CR mp
  h57 : mp 57 = some (.code m57)
  h59 : mp 59 = some (.code m59)
  h61 : mp 61 = some (.code m61)
  h65 : mp 65 = some (.code m65)
  h67 : mp 67 = some (.code m67)
  h86 : mp 86 = some (.code m86)
  h87 : mp 87 = some (.code m87)
  h88 : mp 88 = some (.code m88)
theorem G_there (hc : RefF mp) {s : SetL} (hs : SetAt H0 s) (e : Ext H0 H) (n : Int) : GR mp 67 [.agg s.cells.toArray, .int .i64 n] H (.bool (decide (okSet s ∧ 0 ≤ n ∧ n < (s.tasks.length : Int)))) := by
  have hk := fun (H' : MH) (e' : Ext H0 H') => (G_okR (H := H') hc.r hs e').eq
  simp only [SetL.cells] at hk
  unfold GR
  rw [R_code hc.h67]
  by_cases h1 : okSet s
  · rw [decide_eq_true h1] at hk
    by_cases h2 : 0 ≤ n
    · by_cases h3 : n < (s.tasks.length : Int)
      · simp (maxDischargeDepth := 12) [m67, SetL.cells, ldnx, ldx, e, hk, h1, h2, h3]
      · simp (maxDischargeDepth := 12) [m67, SetL.cells, ldnx, ldx, e, hk, h1, h2, h3]
    · simp (maxDischargeDepth := 12) [m67, SetL.cells, ldnx, ldx, e, hk, h1, h2]
  · rw [decide_eq_false h1] at hk
    simp (maxDischargeDepth := 12) [m67, SetL.cells, ldnx, ldx, e, hk, h1]
/-- The reference's lock of a wait. -/
noncomputable def lkR (s : SetL) (n p : Int) : Int × Bool := if okSet s ∧ (lk s n p).2 = true then ((lk s n p).1.res, true) else (0, false)
theorem G_lockR (hc : RefF mp) {s : SetL} (hs : SetAt H0 s) (e : Ext H0 H) (w : WaitL) : GR mp 65 [.agg s.cells.toArray, .agg (wtC w).toArray] H (.tuple #[.int .i64 (lkR s w.task w.part).1, .bool (lkR s w.task w.part).2]) := by
  have hk := fun (H' : MH) (e' : Ext H0 H') => (G_there (H := H') hc hs e' w.task).eq
  have hx1 : (H ++ [MObj.cells ⟨0, true, false⟩ s.cells, .cells ⟨0, true, false⟩ (wtC w)])[H.length]? = some (.cells ⟨0, true, false⟩ s.cells) := by simp
  have hx2 : (H ++ [MObj.cells ⟨0, true, false⟩ s.cells, .cells ⟨0, true, false⟩ (wtC w)])[H.length + 1]? = some (.cells ⟨0, true, false⟩ (wtC w)) := by simp
  have d1 := ldb hx1
  have d1n := ldbn hx1
  have d2 := ldb hx2
  simp only [SetL.cells, wtC] at hk d1 d1n d2
  unfold GR
  rw [R_code hc.h65]
  by_cases h1 : okSet s ∧ 0 ≤ w.task ∧ w.task < (s.tasks.length : Int)
  case neg =>
    have : lkR s w.task w.part = (0, false) := by
      unfold lkR
      rw [if_neg]
      rintro ⟨h, h2⟩
      refine h1 ⟨h, ?_⟩
      cases hq : lkT s w.task w.part with
      | none => rw [lk_none hq] at h2; cases h2
      | some q =>
        unfold lkT at hq
        split at hq
        · rename_i h3
          refine ⟨h3.1, ?_⟩
          cases ht : s.tasks[w.task.toNat]? with
          | none => rw [ht] at hq; cases hq
          | some t =>
            have := (List.getElem?_eq_some_iff.1 ht).1
            omega
        · cases hq
    rw [this]
    rw [decide_eq_false h1] at hk
    simp (maxDischargeDepth := 12) [m65, mdraw_plain, SetL.cells, wtC, d1, d1n, d2, e, hk]
  rw [decide_eq_true h1] at hk
  obtain ⟨hok, g1, g2⟩ := h1
  obtain ⟨wt, wp, wa, wg, wf⟩ := w
  simp only at g1 g2 hk d2 d1 d1n ⊢
  obtain ⟨kt, rfl⟩ := Int.eq_ofNat_of_zero_le g1
  have hkt : kt < s.tasks.length := by omega
  obtain ⟨t, ht⟩ : ∃ t, s.tasks[kt]? = some t := ⟨_, List.getElem?_eq_getElem hkt⟩
  have hrd := hs.tasks.rd ht
  have hpa := hs.parts t (List.mem_of_getElem? ht)
  by_cases h3 : wp < 0
  · rw [show lkR s (kt : Int) wp = (0, false) by unfold lkR; rw [lk_none (by unfold lkT; rw [if_neg (by omega)])]; simp]
    simp (maxDischargeDepth := 12) [m65, mdraw_plain, SetL.cells, wtC, d1, d1n, d2, e, hk, h3]
  obtain ⟨j, rfl⟩ := Int.eq_ofNat_of_zero_le (show 0 ≤ wp by omega)
  by_cases h4 : t.parts.length ≤ j
  · rw [show lkR s (kt : Int) (j : Int) = (0, false) by
      unfold lkR; rw [lk_none (by unfold lkT; split; · simp [ht, List.getElem?_eq_none h4]
                                  · rfl)]; simp]
    simp (maxDischargeDepth := 12) [m65, mdraw_plain, SetL.cells, wtC, taskC, d1, d1n, d2, e, hk, h3, h4, hkt, hs.tasks.ia, hrd]
  have hj : j < t.parts.length := by omega
  obtain ⟨q, hq⟩ : ∃ q, t.parts[j]? = some q := ⟨_, List.getElem?_eq_getElem hj⟩
  have hrq := hpa.rd hq
  have hrq0 := hpa.rd0 hq (by omega)
  have hlk := lk_some (show lkT s (kt : Int) (j : Int) = some q by unfold lkT; rw [if_pos (by omega)]; simp [ht, hq])
  by_cases h5 : q.kind = 3
  · rw [show lkR s (kt : Int) (j : Int) = (q.res, true) by unfold lkR; rw [hlk, if_pos ⟨hok, by simp [h5]⟩]]
    simp (maxDischargeDepth := 12) [m65, mdraw_plain, SetL.cells, wtC, taskC, partC, d1, d1n, d2, e, hk, h3, h4, hkt, hj, hs.tasks.ia, hrd, hpa.ia, hrq, hrq0, h5]
  · rw [show lkR s (kt : Int) (j : Int) = (0, false) by unfold lkR; rw [hlk, if_neg (by simp [h5])]]
    simp (maxDischargeDepth := 12) [m65, mdraw_plain, SetL.cells, wtC, taskC, partC, d1, d1n, d2, e, hk, h3, h4, hkt, hj, hs.tasks.ia, hrd, hpa.ia, hrq, hrq0, h5]
def holdR (s : SetL) (tm res : Int) (w : WaitL) : Prop := (lkR s w.task w.part).2 = true ∧ (lkR s w.task w.part).1 = res ∧ w.got ≤ tm ∧ tm < w.finish
theorem holdR_iff {s : SetL} {tm res : Int} {w : WaitL} : holdR s tm res w ↔ okSet s ∧ holdB s tm res w := by
  unfold holdR holdB lkR
  by_cases h : okSet s ∧ (lk s w.task w.part).2 = true
  · rw [if_pos h]; simp [h]
  · rw [if_neg h]
    simp only [Bool.false_eq_true, false_and, false_iff]
    exact fun h' => h ⟨h'.1, h'.2.1⟩
theorem holderR_loop (hc : RefF mp) {s : SetL} {t : TraceL} (hs : SetAt H0 s) (ht : TraceAt H0 t) {bs bt : Nat} {is it : Info} (hxs : H0[bs]? = some (.cells is s.cells)) (hxt : H0[bt]? = some (.cells it t.cells)) (tm res : Int) : ∀ (k i : Nat) (H : MH), i + k = t.waits.length → Ext H0 H →
    ((t.waits.drop i).find? (fun w => decide (holdR s tm res w)) = none ∧ GL mp (.loop m57_0) [(2, .int .i64 tm), (3, .int .i64 res), (4, .pointer (some ⟨bt, 0, none⟩)), (5, .pointer (some ⟨bs, 0, none⟩)), (10, .int .i64 (i : Int))] H (.exit 0) [(2, .int .i64 tm), (3, .int .i64 res), (4, .pointer (some ⟨bt, 0, none⟩)), (5, .pointer (some ⟨bs, 0, none⟩)), (10, .int .i64 (t.waits.length : Int)), (18, .bool false)]) ∨
    (∃ w, (t.waits.drop i).find? (fun w => decide (holdR s tm res w)) = some w ∧ GL mp (.loop m57_0) [(2, .int .i64 tm), (3, .int .i64 res), (4, .pointer (some ⟨bt, 0, none⟩)), (5, .pointer (some ⟨bs, 0, none⟩)), (10, .int .i64 (i : Int))] H .ret [(8, .int .i64 w.task), (9, .bool true)]) := by
  obtain ⟨n1, n2, n3, n4⟩ := ht.few
  have hdn := ldbn hxs
  have hdt := ldb hxt
  simp only [SetL.cells] at hdn
  simp only [TraceL.cells] at hdt
  intro k
  induction k with
  | zero =>
    intro i H hk e
    have : i = t.waits.length := by omega
    subst this
    refine .inl ⟨by simp, ?_⟩
    unfold GL
    rw [Rc_loop]
    simp [m57_0, hdt, e]
  | succ k ih =>
    intro i H hk e
    have hin : i < t.waits.length := by omega
    obtain ⟨y, hy⟩ : ∃ y, t.waits[i]? = some y := ⟨_, List.getElem?_eq_getElem hin⟩
    have w : IntKind.i64.wrap ((i : Int) + 1) = (i : Int) + 1 := wrap_i64 (by omega) (by omega)
    have hrd := ht.waits.rdn hy
    have hl := fun (H' : MH) (e' : Ext H0 H') => (G_lockR (H := H') hc hs e' y).eq
    simp only [SetL.cells, wtC] at hl
    simp only [wtC] at hrd
    rw [find_drop hy]
    generalize hlk : lkR s y.task y.part = q at hl
    by_cases hh : holdR s tm res y
    · rw [if_pos (by simpa using hh)]
      refine .inr ⟨y, rfl, ?_⟩
      obtain ⟨g1, g2, g3, g4⟩ := hh
      rw [hlk] at g1 g2
      rw [g1, g2] at hl
      unfold GL
      rw [Rc_loop]
      simp (maxDischargeDepth := 12) [m57_0, hin, ht.waits.ia, hrd, e, stx, ldx, ldnx, hdn, hdt, hl, g3, g4]
    · rw [if_neg (by simpa using hh)]
      have step : ∃ H1, Ext H H1 ∧ Rc mp (.loop m57_0) [(2, .int .i64 tm), (3, .int .i64 res), (4, .pointer (some ⟨bt, 0, none⟩)), (5, .pointer (some ⟨bs, 0, none⟩)), (10, .int .i64 (i : Int))] H = Rc mp (.loop m57_0) [(2, .int .i64 tm), (3, .int .i64 res), (4, .pointer (some ⟨bt, 0, none⟩)), (5, .pointer (some ⟨bs, 0, none⟩)), (10, .int .i64 ((i : Int) + 1))] H1 := by
        refine ⟨aft mp 65 [.agg s.cells.toArray, .agg (wtC y).toArray] (H ++ [.cells ⟨0, true, false⟩ (wtC y)]), by simp (maxDischargeDepth := 12), ?_⟩
        rw [Rc_loop]
        simp only [SetL.cells, wtC]
        cases c1 : q.2 with
        | false =>
          rw [c1] at hl
          simp (maxDischargeDepth := 12) [m57_0, hin, ht.waits.ia, hrd, e, stx, ldx, ldnx, hdn, hdt, hl, w]
        | true =>
          rw [c1] at hl
          by_cases c2 : q.1 = res
          · by_cases c3 : y.got ≤ tm
            · have c4 : ¬ tm < y.finish := fun c4 => hh ⟨by rw [hlk]; exact c1, by rw [hlk]; exact c2, c3, c4⟩
              simp (maxDischargeDepth := 12) [m57_0, hin, ht.waits.ia, hrd, e, stx, ldx, ldnx, hdn, hdt, hl, w, c2, c3, c4]
            · simp (maxDischargeDepth := 12) [m57_0, hin, ht.waits.ia, hrd, e, stx, ldx, ldnx, hdn, hdt, hl, w, c2, c3]
          · simp (maxDischargeDepth := 12) [m57_0, hin, ht.waits.ia, hrd, e, stx, ldx, ldnx, hdn, hdt, hl, w, c2]
      obtain ⟨H1, e1, step⟩ := step
      rcases ih (i + 1) H1 (by omega) (e.trans e1) with ⟨h1, h2⟩ | ⟨v, h1, h2⟩
      · exact .inl ⟨h1, GL.step step e1 h2⟩
      · exact .inr ⟨v, h1, GL.step step e1 h2⟩
theorem find_congr {α : Type} {P Q : α → Bool} {l : List α} (h : ∀ x ∈ l, P x = Q x) : l.find? P = l.find? Q := by
  induction l with
  | nil => rfl
  | cons a l ih =>
    rw [List.find?_cons, List.find?_cons, h a (by simp), ih fun x hx => h x (by simp [hx])]
theorem G_holderR (hc : RefF mp) {s : SetL} {t : TraceL} (hs : SetAt H0 s) (ht : TraceAt H0 t) (e : Ext H0 H) (tm res : Int) :
    GR mp 57 [.agg t.cells.toArray, .agg s.cells.toArray, .int .i64 tm, .int .i64 res] H (.tuple #[.int .i64 (holderB s t tm res).1, .bool (holderB s t tm res).2]) := by
  have e1 : Ext H (H ++ [.cells ⟨0, true, false⟩ t.cells, .cells ⟨0, true, false⟩ s.cells]) := ⟨_, rfl⟩
  have hx1 : (H ++ [MObj.cells ⟨0, true, false⟩ t.cells, .cells ⟨0, true, false⟩ s.cells])[H.length]? = some (.cells ⟨0, true, false⟩ t.cells) := by simp
  have hx : (H ++ [MObj.cells ⟨0, true, false⟩ t.cells, .cells ⟨0, true, false⟩ s.cells])[H.length + 1]? = some (.cells ⟨0, true, false⟩ s.cells) := by simp
  have hb : holderB s t tm res = match t.waits.find? (fun w => decide (holdR s tm res w)) with
      | some w => (w.task, true)
      | none => (0, false) := by
    unfold holderB
    by_cases hok : okSet s
    · rw [if_pos hok]
      rw [find_congr (P := fun w => decide (holdB s tm res w)) (Q := fun w => decide (holdR s tm res w)) fun x _ => by
        rw [decide_eq_decide, holdR_iff]; simp [hok]]
      generalize List.find? (fun w => decide (holdR s tm res w)) t.waits = z
      cases z <;> rfl
    · rw [if_neg hok]
      have : t.waits.find? (fun w => decide (holdR s tm res w)) = none := by
        rw [List.find?_eq_none]; intro x _; simp [holdR_iff, hok]
      rw [this]
  rw [hb]
  unfold GR
  rw [R_code hc.h57]
  rcases holderR_loop (mp := mp) hc (hs.ext (e.trans e1)) (ht.ext (e.trans e1)) hx hx1 tm res t.waits.length 0 _ (by omega) (Ext.refl _) with ⟨g1, g2⟩ | ⟨w, g1, g2⟩
  · rw [List.drop_zero] at g1
    rw [g1]
    have g2 := g2.eq
    simp [SetL.cells, TraceL.cells] at g2
    simp (maxDischargeDepth := 12) [m57, SetL.cells, TraceL.cells, g2]
  · rw [List.drop_zero] at g1
    rw [g1]
    have g2 := g2.eq
    simp [SetL.cells, TraceL.cells] at g2
    simp (maxDischargeDepth := 12) [m57, SetL.cells, TraceL.cells, g2]

/-! ### slots -/
theorem rev_take {α : Type} {l : List α} {m : Nat} {y : α} (hy : l[m]? = some y) : (l.take (m + 1)).reverse = y :: (l.take m).reverse := by
  rw [List.take_add_one, hy]; simp
theorem slotsR_inner {t : TraceL} (ht : TraceAt H0 t) {bt bx : Nat} {it ix : Info} {x : SlotL} {r2 : Value} (hxt : H0[bt]? = some (.cells it t.cells)) (hxx : H0[bx]? = some (.cells ix (slC x))) (i5 : Int) :
    ∀ (m : Nat) (n : Int) (H : MH), m ≤ t.slots.length → 0 ≤ n → n + m ≤ 1000000 → Ext H0 H →
    ((∀ y ∈ runS (t.slots.take m).reverse x.time, y.task ≠ x.task ∧ y.cluster ≤ x.cluster) ∧ ∃ q : Int, GL mp (.loop m86_0) [(2, r2), (3, .pointer (some ⟨bt, 0, none⟩)), (5, .int .i64 i5), (6, .pointer (some ⟨bx, 0, none⟩)), (7, .int .i64 n), (8, .int .i64 ((m : Int) - 1))] H
      (.exit 2) [(2, r2), (3, .pointer (some ⟨bt, 0, none⟩)), (5, .int .i64 i5), (6, .pointer (some ⟨bx, 0, none⟩)), (7, .int .i64 (n + cntS (runS (t.slots.take m).reverse x.time) x.cluster)), (8, .int .i64 q), (91, .bool false)]) ∨
    ((¬ ∀ y ∈ runS (t.slots.take m).reverse x.time, y.task ≠ x.task ∧ y.cluster ≤ x.cluster) ∧ GL mp (.loop m86_0) [(2, r2), (3, .pointer (some ⟨bt, 0, none⟩)), (5, .int .i64 i5), (6, .pointer (some ⟨bx, 0, none⟩)), (7, .int .i64 n), (8, .int .i64 ((m : Int) - 1))] H .ret [(4, .bool false)]) := by
  obtain ⟨n1, n2, n3, n4⟩ := ht.few
  have hdt := ldb hxt
  have hdx := ldb hxx
  simp only [TraceL.cells] at hdt
  simp only [slC] at hdx
  intro m
  induction m with
  | zero =>
    intro n H hm h0 hn e
    refine .inl ⟨by simp [runS], -1, ?_⟩
    unfold GL
    rw [Rc_loop]
    simp [m86_0, mdraw_plain, runS, cntS]
  | succ m ih =>
    intro n H hm h0 hn e
    obtain ⟨y, hy⟩ : ∃ y, t.slots[m]? = some y := ⟨_, List.getElem?_eq_getElem (by omega)⟩
    have hml : m < t.slots.length := by omega
    have hrd := ht.slots.rd hy
    have hrd0 := ht.slots.rd0 hy (by omega)
    have w1 : IntKind.i64.wrap ((m : Int) - 1) = (m : Int) - 1 := wrap_i64 (by omega) (by omega)
    have w2 : IntKind.i64.wrap (n + 1) = n + 1 := wrap_i64 (by omega) (by omega)
    have p0 : (0 : Int) ≤ (m : Int) := by omega
    rw [rev_take hy]
    by_cases c1 : y.time = x.time
    case neg =>
      have hr : runS (y :: (t.slots.take m).reverse) x.time = [] := by
        unfold runS; rw [List.takeWhile_cons, if_neg (by simpa using c1)]
      rw [hr]
      refine .inl ⟨by simp, (m : Int), ?_⟩
      unfold GL
      rw [Rc_loop]
      simp (maxDischargeDepth := 12) [m86_0, mdraw_plain, hdt, hdx, e, ht.slots.ia, hml, hrd0, slC, c1, cntS]
    have hr : runS (y :: (t.slots.take m).reverse) x.time = y :: runS (t.slots.take m).reverse x.time := by
      unfold runS; rw [List.takeWhile_cons, if_pos (by simpa using c1)]
    rw [hr]
    by_cases c2 : y.task = x.task
    · refine .inr ⟨fun h => (h y (by simp)).1 c2, ?_⟩
      unfold GL
      rw [Rc_loop]
      simp (maxDischargeDepth := 12) [m86_0, mdraw_plain, hdt, hdx, e, ht.slots.ia, hml, hrd, hrd0, slC, c1, c2]
    by_cases c3 : x.cluster < y.cluster
    · refine .inr ⟨fun h => by have := (h y (by simp)).2; omega, ?_⟩
      unfold GL
      rw [Rc_loop]
      simp (maxDischargeDepth := 12) [m86_0, mdraw_plain, hdt, hdx, e, ht.slots.ia, hml, hrd, hrd0, slC, c1, c2, c3]
    have hyok : y.task ≠ x.task ∧ y.cluster ≤ x.cluster := ⟨c2, by omega⟩
    by_cases c4 : y.cluster = x.cluster
    · have hcn : n + cntS (y :: runS (t.slots.take m).reverse x.time) x.cluster = n + 1 + cntS (runS (t.slots.take m).reverse x.time) x.cluster := by rw [cnt_cons, if_pos c4]; omega
      rw [hcn]
      rcases ih (n + 1) H (by omega) (by omega) (by omega) e with ⟨h1, q, h2⟩ | ⟨h1, h2⟩
      · refine .inl ⟨fun z hz => ?_, q, ?_⟩
        · rcases List.mem_cons.1 hz with rfl | hz
          · exact hyok
          · exact h1 z hz
        · unfold GL
          rw [Rc_loop]
          have c3' : ¬ x.cluster < x.cluster := by omega
          simp (maxDischargeDepth := 12) [m86_0, mdraw_plain, hdt, hdx, e, ht.slots.ia, hml, hrd, hrd0, slC, c1, c2, c3', c4, w1, w2]
          exact h2
      · refine .inr ⟨fun hz => h1 fun z hz' => hz z (List.mem_cons_of_mem _ hz'), ?_⟩
        unfold GL
        rw [Rc_loop]
        simp (maxDischargeDepth := 12) [m86_0, mdraw_plain, hdt, hdx, e, ht.slots.ia, hml, hrd, hrd0, slC, c1, c2, c4, w1, w2]
        exact h2
    · have hcn : cntS (y :: runS (t.slots.take m).reverse x.time) x.cluster = cntS (runS (t.slots.take m).reverse x.time) x.cluster := by rw [cnt_cons, if_neg c4]
      rw [hcn]
      rcases ih n H (by omega) h0 (by omega) e with ⟨h1, q, h2⟩ | ⟨h1, h2⟩
      · refine .inl ⟨fun z hz => ?_, q, ?_⟩
        · rcases List.mem_cons.1 hz with rfl | hz
          · exact hyok
          · exact h1 z hz
        · unfold GL
          rw [Rc_loop]
          simp (maxDischargeDepth := 12) [m86_0, mdraw_plain, hdt, hdx, e, ht.slots.ia, hml, hrd, hrd0, slC, c1, c2, c3, c4, w1]
          exact h2
      · refine .inr ⟨fun hz => h1 fun z hz' => hz z (List.mem_cons_of_mem _ hz'), ?_⟩
        unfold GL
        rw [Rc_loop]
        simp (maxDischargeDepth := 12) [m86_0, mdraw_plain, hdt, hdx, e, ht.slots.ia, hml, hrd, hrd0, slC, c1, c2, c3, c4, w1]
        exact h2
set_option maxHeartbeats 4000000 in
theorem slotsR_loop {s : SetL} {t : TraceL} (hs : SetAt H0 s) (ht : TraceAt H0 t) {bs bt : Nat} {is it : Info} (hxs : H0[bs]? = some (.cells is s.cells)) (hxt : H0[bt]? = some (.cells it t.cells)) :
    ∀ (k i : Nat) (H : MH), i + k = t.slots.length → Ext H0 H →
    (allR s t.ticks (t.slots.take i).reverse (t.slots.drop i) ∧ GL mp (.loop m86_1) [(2, .pointer (some ⟨bs, 0, none⟩)), (3, .pointer (some ⟨bt, 0, none⟩)), (5, .int .i64 (i : Int))] H (.exit 0) [(2, .pointer (some ⟨bs, 0, none⟩)), (3, .pointer (some ⟨bt, 0, none⟩)), (5, .int .i64 (t.slots.length : Int)), (13, .bool false)]) ∨
    (¬ allR s t.ticks (t.slots.take i).reverse (t.slots.drop i) ∧ GL mp (.loop m86_1) [(2, .pointer (some ⟨bs, 0, none⟩)), (3, .pointer (some ⟨bt, 0, none⟩)), (5, .int .i64 (i : Int))] H .ret [(4, .bool false)]) := by
  obtain ⟨n1, n2, n3, n4⟩ := ht.few
  have hds := ldb hxs
  have hdt := ldb hxt
  simp only [SetL.cells] at hds
  simp only [TraceL.cells] at hdt
  intro k
  induction k with
  | zero =>
    intro i H hk e
    have : i = t.slots.length := by omega
    subst this
    refine .inl ⟨by simp [allR], ?_⟩
    unfold GL
    rw [Rc_loop]
    simp [m86_1, hdt, e]
  | succ k ih =>
    intro i H hk e
    have hin : i < t.slots.length := by omega
    obtain ⟨x, hy⟩ : ∃ y, t.slots[i]? = some y := ⟨_, List.getElem?_eq_getElem hin⟩
    have w : IntKind.i64.wrap ((i : Int) + 1) = (i : Int) + 1 := wrap_i64 (by omega) (by omega)
    have w' : IntKind.i64.wrap ((i : Int) - 1) = (i : Int) - 1 := wrap_i64 (by omega) (by omega)
    have hrd := ht.slots.rdn hy
    have e1 : Ext H (H ++ [MObj.cells ⟨0, true, false⟩ (slC x)]) := ⟨_, rfl⟩
    have hgx : (H ++ [MObj.cells ⟨0, true, false⟩ (slC x)])[H.length]? = some (.cells ⟨0, true, false⟩ (slC x)) := by simp
    have hdx := ldb hgx
    have hinn := slotsR_inner (mp := mp) (H0 := H ++ [MObj.cells ⟨0, true, false⟩ (slC x)]) (ht.ext (e.trans e1)) ((e.trans e1).get hxt) hgx (r2 := .pointer (some ⟨bs, 0, none⟩)) (i : Int) i 1 _ (by omega) (by omega) (by omega) (Ext.refl _)
    rw [drop_at hy]
    have hrv := rev_take hy
    simp only [allR]
    rw [← hrv]
    have hno : ∀ {P : Prop}, (goodR s t.ticks (t.slots.take i).reverse x → P) → ¬ P → ¬ (goodR s t.ticks (t.slots.take i).reverse x ∧ allR s t.ticks (t.slots.take (i + 1)).reverse (t.slots.drop (i + 1))) := fun h hp h' => hp (h h'.1)
    obtain ⟨xt, xc, xk, xh⟩ := x
    simp only [slC] at hrd hdx
    by_cases k1 : xt < 0
    · refine .inr ⟨hno (P := ¬ xt < 0) (fun h => by have := h.1.1.1.2.2.2.2.1; simp at this; omega) (by simpa using k1), ?_⟩
      unfold GL
      rw [Rc_loop]
      simp (maxDischargeDepth := 12) [m86_1, hin, ht.slots.ia, hrd, e, stx, hds, hdt, hdx, k1]
    by_cases k2 : t.ticks ≤ xt
    · refine .inr ⟨hno (P := xt < t.ticks) (fun h => h.1.1.1.2.2.2.2.2) (by omega), ?_⟩
      unfold GL
      rw [Rc_loop]
      simp (maxDischargeDepth := 12) [m86_1, hin, ht.slots.ia, hrd, e, stx, hds, hdt, hdx, k1, k2]
    by_cases k3 : xc < 0
    · refine .inr ⟨hno (P := 0 ≤ xc) (fun h => h.1.1.1.1) (by omega), ?_⟩
      unfold GL
      rw [Rc_loop]
      simp (maxDischargeDepth := 12) [m86_1, hin, ht.slots.ia, hrd, e, stx, hds, hdt, hdx, k1, k2, k3]
    obtain ⟨kc, rfl⟩ := Int.eq_ofNat_of_zero_le (show 0 ≤ xc by omega)
    by_cases k4 : s.cores.length ≤ kc
    · refine .inr ⟨hno (P := (kc : Int) < (s.cores.length : Int)) (fun h => h.1.1.1.2.1) (by omega), ?_⟩
      unfold GL
      rw [Rc_loop]
      simp (maxDischargeDepth := 12) [m86_1, hin, ht.slots.ia, hrd, e, stx, hds, hdt, hdx, k1, k2, k3, k4]
    by_cases k5 : xk < 0
    · refine .inr ⟨hno (P := 0 ≤ xk) (fun h => h.1.1.1.2.2.1) (by omega), ?_⟩
      unfold GL
      rw [Rc_loop]
      simp (maxDischargeDepth := 12) [m86_1, hin, ht.slots.ia, hrd, e, stx, hds, hdt, hdx, k1, k2, k3, k4, k5]
    obtain ⟨kt, rfl⟩ := Int.eq_ofNat_of_zero_le (show 0 ≤ xk by omega)
    by_cases k6 : s.tasks.length ≤ kt
    · refine .inr ⟨hno (P := (kt : Int) < (s.tasks.length : Int)) (fun h => h.1.1.1.2.2.2.1) (by omega), ?_⟩
      unfold GL
      rw [Rc_loop]
      simp (maxDischargeDepth := 12) [m86_1, hin, ht.slots.ia, hrd, e, stx, hds, hdt, hdx, k1, k2, k3, k4, k5, k6]
    have k4' : kc < s.cores.length := by omega
    have k6' : kt < s.tasks.length := by omega
    obtain ⟨tt, htt⟩ : ∃ c, s.tasks[kt]? = some c := ⟨_, List.getElem?_eq_getElem k6'⟩
    obtain ⟨cn, hcn⟩ : ∃ c, s.cores[kc]? = some c := ⟨_, List.getElem?_eq_getElem k4'⟩
    have hrt := hs.tasks.rd htt
    have hrc := hs.cores.rd1 hcn
    have hrg : rangeS s t.ticks ⟨xt, (kc : Int), (kt : Int), xh⟩ := ⟨by simp, by simp; omega, by simp, by simp; omega, by simp; omega, by simp; omega⟩
    have hsi := slotted_iff (s := s) (tk := t.ticks) (x := ⟨xt, (kc : Int), (kt : Int), xh⟩) rfl htt
    -- the rule
    by_cases k7 : slottedB s t.ticks ⟨xt, (kc : Int), (kt : Int), xh⟩
    case neg =>
      refine .inr ⟨hno (P := slottedB s t.ticks ⟨xt, (kc : Int), (kt : Int), xh⟩) (fun h => h.1.1) k7, ?_⟩
      have k8 : ¬ (kc : Int) = tt.cluster := fun h => k7 (hsi.2 ⟨hrg, .inl h⟩)
      have k8' : ¬ tt.cluster = (kc : Int) := fun h => k8 h.symm
      unfold GL
      rw [Rc_loop]
      by_cases k9 : s.proto = 2
      · have k10 : xh = false := by
          cases xh with
          | false => rfl
          | true => exact absurd (hsi.2 ⟨hrg, .inr ⟨k9, rfl⟩⟩) k7
        simp (maxDischargeDepth := 12) [m86_1, mdraw_plain, hin, ht.slots.ia, hrd, e, stx, hds, hdt, hdx, k1, k2, k4, k4', k6, k6', hs.tasks.ia, hrt, taskC, k8', k9, k10]
      · simp (maxDischargeDepth := 12) [m86_1, mdraw_plain, hin, ht.slots.ia, hrd, e, stx, hds, hdt, hdx, k1, k2, k4, k4', k6, k6', hs.tasks.ia, hrt, taskC, k8', k9]
    have rule : (s.proto = 2 ∧ xh = true ∧ True) ∨ (s.proto = 2 ∧ xh = false ∧ tt.cluster = (kc : Int)) ∨ (¬ s.proto = 2 ∧ True ∧ tt.cluster = (kc : Int)) := by
      by_cases r3 : s.proto = 2
      · cases xh with
        | true => exact .inl ⟨r3, rfl, trivial⟩
        | false => exact .inr (.inl ⟨r3, rfl, ((hsi.1 k7).2.resolve_right fun h => by cases h.2).symm⟩)
      · exact .inr (.inr ⟨r3, trivial, ((hsi.1 k7).2.resolve_right fun h => r3 h.1).symm⟩)
    have hpt : ∀ y ∈ runS (t.slots.take i).reverse xt, y ∈ (t.slots.take i).reverse := fun y hy => (runS_mem hy).1
    rcases hinn with ⟨f1, q, f2⟩ | ⟨f1, f2⟩
    case inr =>
      have f2 := f2.eq
      simp [slC] at f2
      refine .inr ⟨hno (P := ∀ y ∈ runS (t.slots.take i).reverse xt, y.task ≠ (kt : Int) ∧ y.cluster ≤ (kc : Int)) (fun h y hy => ⟨h.1.2.2 y hy, h.2.1 y hy⟩) f1, ?_⟩
      unfold GL
      rw [Rc_loop]
      rcases rule with ⟨r1, rfl, r2⟩ | ⟨r1, rfl, r2⟩ | ⟨r1, _, r2⟩ <;>
        simp (maxDischargeDepth := 12) [m86_1, mdraw_plain, hin, ht.slots.ia, hrd, e, stx, hds, hdt, hdx, k1, k2, k4, k4', k6, k6', hs.tasks.ia, hrt, taskC, r1, r2, w', f2]
    have f2 := f2.eq
    generalize hH5 : aftL mp (.loop m86_0) _ _ = H5 at f2
    have e5 : Ext (H ++ [MObj.cells ⟨0, true, false⟩ (slC ⟨xt, (kc : Int), (kt : Int), xh⟩)]) H5 := by rw [← hH5]; exact ext_aftL0
    simp only [slC] at e5
    generalize hcv : 1 + cntS (runS (t.slots.take i).reverse (SlotL.time ⟨xt, (kc : Int), (kt : Int), xh⟩)) (SlotL.cluster ⟨xt, (kc : Int), (kt : Int), xh⟩) = cv at f2
    simp only at hcv
    simp [slC] at f2
    have e05 : Ext H0 H5 := (e.trans e1).trans e5
    have eH5 : Ext H H5 := e1.trans e5
    have hgood : goodR s t.ticks (t.slots.take i).reverse ⟨xt, (kc : Int), (kt : Int), xh⟩ ↔ ¬ cn < cv ∧ ∀ y, (t.slots.take i).reverse.head? = some y → y.time ≤ xt := by
      unfold goodR goodS
      simp only [Int.toNat_natCast]
      constructor
      · rintro ⟨⟨_, ⟨c, h1, h2⟩, _⟩, _, h4⟩
        rw [hcn] at h1; cases h1
        exact ⟨by omega, h4⟩
      · rintro ⟨h2, h4⟩
        exact ⟨⟨k7, ⟨cn, hcn, by omega⟩, fun y hy => (f1 y hy).1⟩, fun y hy => (f1 y hy).2, h4⟩
    have hgs : ∀ o, mread (.ld none) [.pointer (some ⟨bs, o, none⟩)] H5 = _ := fun o => hds H5 o e05
    have hgt : ∀ o, mread (.ld none) [.pointer (some ⟨bt, o, none⟩)] H5 = _ := fun o => hdt H5 o e05
    have hgc := hrc H5 e05
    have hgx5 : ∀ o, mread (.ld none) [.pointer (some ⟨H.length, o, none⟩)] H5 = _ := fun o => hdx H5 o e5
    have cia := hs.cores.ia
    by_cases k8 : cn < cv
    · refine .inr ⟨fun h => (hgood.1 h.1).1 k8, ?_⟩
      unfold GL
      rw [Rc_loop]
      rcases rule with ⟨r1, rfl, r2⟩ | ⟨r1, rfl, r2⟩ | ⟨r1, _, r2⟩ <;>
        simp (maxDischargeDepth := 12) [m86_1, mdraw_plain, hin, ht.slots.ia, hrd, e, stx, hds, hdt, hdx, k1, k2, k4, k4', k6, k6', hs.tasks.ia, hrt, taskC, r1, r2, w', f2, hgs, hgx5, cia, hgc, intC, k8, eH5]
    have fin : ∀ (ok : ∀ y, (t.slots.take i).reverse.head? = some y → y.time ≤ xt) (step : Rc mp (.loop m86_1) [(2, .pointer (some ⟨bs, 0, none⟩)), (3, .pointer (some ⟨bt, 0, none⟩)), (5, .int .i64 (i : Int))] H = Rc mp (.loop m86_1) [(2, .pointer (some ⟨bs, 0, none⟩)), (3, .pointer (some ⟨bt, 0, none⟩)), (5, .int .i64 ((i : Int) + 1))] H5),
        (goodR s t.ticks (t.slots.take i).reverse ⟨xt, (kc : Int), (kt : Int), xh⟩ ∧ allR s t.ticks (t.slots.take (i + 1)).reverse (t.slots.drop (i + 1))) ∧ GL mp (.loop m86_1) [(2, .pointer (some ⟨bs, 0, none⟩)), (3, .pointer (some ⟨bt, 0, none⟩)), (5, .int .i64 (i : Int))] H (.exit 0) [(2, .pointer (some ⟨bs, 0, none⟩)), (3, .pointer (some ⟨bt, 0, none⟩)), (5, .int .i64 (t.slots.length : Int)), (13, .bool false)] ∨
        ¬ (goodR s t.ticks (t.slots.take i).reverse ⟨xt, (kc : Int), (kt : Int), xh⟩ ∧ allR s t.ticks (t.slots.take (i + 1)).reverse (t.slots.drop (i + 1))) ∧ GL mp (.loop m86_1) [(2, .pointer (some ⟨bs, 0, none⟩)), (3, .pointer (some ⟨bt, 0, none⟩)), (5, .int .i64 (i : Int))] H .ret [(4, .bool false)] := by
      intro ok step
      rcases ih (i + 1) H5 (by omega) e05 with ⟨h1, h2⟩ | ⟨h1, h2⟩
      · exact .inl ⟨⟨hgood.2 ⟨k8, ok⟩, h1⟩, GL.step step eH5 h2⟩
      · exact .inr ⟨fun h => h1 h.2, GL.step step eH5 h2⟩
    rcases Nat.eq_zero_or_pos i with i0 | i0
    · refine fin (by intro y hy; rw [i0] at hy; simp at hy) ?_
      have i1 : ¬ 0 < i := by omega
      have i2 : ¬ (0 : Int) < (i : Int) := by omega
      rw [Rc_loop]
      rcases rule with ⟨r1, rfl, r2⟩ | ⟨r1, rfl, r2⟩ | ⟨r1, _, r2⟩ <;>
        simp (maxDischargeDepth := 12) [m86_1, mdraw_plain, hin, ht.slots.ia, hrd, e, stx, hds, hdt, hdx, k1, k2, k4, k4', k6, k6', hs.tasks.ia, hrt, taskC, r1, r2, w, w', f2, hgs, hgx5, cia, hgc, intC, k8, eH5, i1, i2]
    · obtain ⟨j, rfl⟩ : ∃ j, i = j + 1 := ⟨i - 1, by omega⟩
      obtain ⟨y, hyy⟩ : ∃ y, t.slots[j]? = some y := ⟨_, List.getElem?_eq_getElem (by omega)⟩
      have hjl : j < t.slots.length := by omega
      have hry := ht.slots.rd0 hyy (by omega) H5 e05
      have hhead : (t.slots.take (j + 1)).reverse.head? = some y := by rw [rev_take hyy]; rfl
      have i2 : (0 : Int) < (j : Int) + 1 := by omega
      have i3 : (j : Int) + 1 < (t.slots.length : Int) := by omega
      have i4 : ((j : Int) + 1).toNat = j + 1 := by omega
      have i5 : (0 : Int) ≤ (j : Int) + 1 := by omega
      have w3 : IntKind.i64.wrap (j : Int) = (j : Int) := wrap_i64 (by omega) (by omega)
      simp only [Int.natCast_add, Int.cast_ofNat_Int, Int.add_sub_cancel] at f2 w w'
      by_cases c9 : xt < y.time
      · refine .inr ⟨fun h => by have := (hgood.1 h.1).2 y hhead; omega, ?_⟩
        unfold GL
        rw [Rc_loop]
        rcases rule with ⟨r1, rfl, r2⟩ | ⟨r1, rfl, r2⟩ | ⟨r1, _, r2⟩ <;>
          simp (maxDischargeDepth := 12) [m86_1, mdraw_plain, hin, ht.slots.ia, hrd, e, stx, hds, hdt, hdx, k1, k2, k4, k4', k6, k6', hs.tasks.ia, hrt, taskC, r1, r2, w, w', w3, f2, hgs, hgt, hgx5, cia, hgc, intC, k8, eH5, i2, i3, i4, i5, hjl, hry, slC, c9]
      · refine fin (fun z hz => by rw [hhead] at hz; cases hz; omega) ?_
        rw [Rc_loop]
        rcases rule with ⟨r1, rfl, r2⟩ | ⟨r1, rfl, r2⟩ | ⟨r1, _, r2⟩ <;>
          simp (maxDischargeDepth := 12) [m86_1, mdraw_plain, hin, ht.slots.ia, hrd, e, stx, hds, hdt, hdx, k1, k2, k4, k4', k6, k6', hs.tasks.ia, hrt, taskC, r1, r2, w, w', w3, f2, hgs, hgt, hgx5, cia, hgc, intC, k8, eH5, i2, i3, i4, i5, hjl, hry, slC, c9]
theorem G_slotsR (hc : RefF mp) {s : SetL} {t : TraceL} (hs : SetAt H0 s) (ht : TraceAt H0 t) (e : Ext H0 H) : GR mp 86 [.agg s.cells.toArray, .agg t.cells.toArray] H (.bool (decide (slotsB s t))) := by
  have e1 : Ext H (H ++ [.cells ⟨0, true, false⟩ s.cells, .cells ⟨0, true, false⟩ t.cells]) := ⟨_, rfl⟩
  have hx1 : (H ++ [MObj.cells ⟨0, true, false⟩ s.cells, .cells ⟨0, true, false⟩ t.cells])[H.length]? = some (.cells ⟨0, true, false⟩ s.cells) := by simp
  have hx2 : (H ++ [MObj.cells ⟨0, true, false⟩ s.cells, .cells ⟨0, true, false⟩ t.cells])[H.length + 1]? = some (.cells ⟨0, true, false⟩ t.cells) := by simp
  unfold GR
  have hdd : decide (slotsB s t) = decide (allR s t.ticks [] t.slots) := by rw [decide_eq_decide]; exact slotsB_iff
  rw [R_code hc.h86, hdd]
  rcases slotsR_loop (mp := mp) (hs.ext (e.trans e1)) (ht.ext (e.trans e1)) hx1 hx2 t.slots.length 0 _ (by omega) (Ext.refl _) with ⟨g1, g2⟩ | ⟨g1, g2⟩
  · rw [List.drop_zero, List.take_zero, List.reverse_nil] at g1
    rw [decide_eq_true g1]
    have g2 := g2.eq
    simp [SetL.cells, TraceL.cells] at g2
    simp (maxDischargeDepth := 12) [m86, SetL.cells, TraceL.cells, g2]
  · rw [List.drop_zero, List.take_zero, List.reverse_nil] at g1
    rw [decide_eq_false g1]
    have g2 := g2.eq
    simp [SetL.cells, TraceL.cells] at g2
    simp (maxDischargeDepth := 12) [m86, SetL.cells, TraceL.cells, g2]
end
end Go.Mod

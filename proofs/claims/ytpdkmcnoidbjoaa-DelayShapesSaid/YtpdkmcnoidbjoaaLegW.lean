/- Jobs, waits, traces that may be: the reference's. -/
import Derived.Test.YtpdkmcnoidbjoaaLegV
set_option linter.unusedVariables false
set_option linter.unusedSimpArgs false
namespace Go.Mod
open Classical

section
variable {mp : FuncId → Option MDef} {H0 H : MH}
theorem jobsR_inner {s : SetL} {t : TraceL} (hs : SetAt H0 s) (ht : TraceAt H0 t) {bs bt bx kt : Nat} {is it ix : Info} {x : DoneL} {tt : TaskL} (hxs : H0[bs]? = some (.cells is s.cells)) (hxt : H0[bt]? = some (.cells it t.cells)) (hxx : H0[bx]? = some (.cells ix (dnC x)))
    (hkt : x.task = (kt : Int)) (htt : s.tasks[kt]? = some tt) (hr : 0 ≤ x.release ∧ x.release ≤ 20000) (i5 : Int) :
    ∀ (m : Nat) (H : MH), m ≤ t.jobs.length → (∀ y ∈ t.jobs.take m, 0 ≤ y.release ∧ y.release ≤ 20000) → Ext H0 H →
    ((∀ y, (t.jobs.take m).reverse.find? (fun y => y.task == x.task) = some y → y.finish ≤ x.release ∧ tt.period ≤ x.release - y.release) ∧ ∃ T, (T = [(2, .pointer (some ⟨bs, 0, none⟩)), (3, .pointer (some ⟨bt, 0, none⟩)), (5, .int .i64 i5), (86, .bool false)] ∨ T = [(2, .pointer (some ⟨bs, 0, none⟩)), (3, .pointer (some ⟨bt, 0, none⟩)), (5, .int .i64 i5), (6, .pointer (some ⟨bx, 0, none⟩)), (7, .int .i64 (-1)), (54, .bool false)]) ∧
      GL mp (.loop m87_0) [(2, .pointer (some ⟨bs, 0, none⟩)), (3, .pointer (some ⟨bt, 0, none⟩)), (5, .int .i64 i5), (6, .pointer (some ⟨bx, 0, none⟩)), (7, .int .i64 ((m : Int) - 1))] H (.exit 2) T) ∨
    ((¬ ∀ y, (t.jobs.take m).reverse.find? (fun y => y.task == x.task) = some y → y.finish ≤ x.release ∧ tt.period ≤ x.release - y.release) ∧ GL mp (.loop m87_0) [(2, .pointer (some ⟨bs, 0, none⟩)), (3, .pointer (some ⟨bt, 0, none⟩)), (5, .int .i64 i5), (6, .pointer (some ⟨bx, 0, none⟩)), (7, .int .i64 ((m : Int) - 1))] H .ret [(4, .bool false)]) := by
  obtain ⟨n1, n2, n3, n4⟩ := ht.few
  have hds := ldb hxs
  have hdt := ldb hxt
  have hdx := ldb hxx
  simp only [SetL.cells] at hds
  simp only [TraceL.cells] at hdt
  simp only [dnC] at hdx
  have hrt := hs.tasks.rd htt
  have hkl := hs.tasks.lt htt
  intro m
  induction m with
  | zero =>
    intro H hm hrl e
    refine .inl ⟨by simp, _, .inr rfl, ?_⟩
    unfold GL
    rw [Rc_loop]
    simp [m87_0]
  | succ m ih =>
    intro H hm hrl e
    obtain ⟨y, hy⟩ : ∃ y, t.jobs[m]? = some y := ⟨_, List.getElem?_eq_getElem (by omega)⟩
    have hml : m < t.jobs.length := by omega
    have hrd := ht.jobs.rdn hy
    have w1 : IntKind.i64.wrap ((m : Int) - 1) = (m : Int) - 1 := wrap_i64 (by omega) (by omega)
    have hyr := hrl y (by rw [List.take_add_one, hy]; simp)
    have w2 : IntKind.i64.wrap (x.release - y.release) = x.release - y.release := wrap_i64 (by omega) (by omega)
    have hdA : ∀ o, mread (.ld none) [.pointer (some ⟨H.length, o, none⟩)] (H ++ [MObj.cells ⟨0, true, false⟩ (dnC y)]) = knownO (dnC y)[o]? := fun o => ldb (H0 := H ++ [MObj.cells ⟨0, true, false⟩ (dnC y)]) (b := H.length) (i := ⟨0, true, false⟩) (by simp) _ o (Ext.refl _)
    simp only [dnC] at hrd hdA
    rw [rev_take hy, List.find?_cons]
    by_cases c1 : y.task = x.task
    · have : (y.task == x.task) = true := by simpa using c1
      rw [this]
      rw [hkt] at c1 hdx
      rw [c1] at hdA hrd
      by_cases c2 : x.release < y.finish
      · refine .inr ⟨fun h => by have := (h y rfl).1; omega, ?_⟩
        unfold GL
        rw [Rc_loop]
        simp (maxDischargeDepth := 12) [m87_0, mdraw_plain, hdt, hds, hdx, e, stx, ht.jobs.ia, hml, hrd, hdA, c2]
      by_cases c3 : x.release - y.release < tt.period
      · refine .inr ⟨fun h => by have := (h y rfl).2; omega, ?_⟩
        unfold GL
        rw [Rc_loop]
        simp (maxDischargeDepth := 12) [m87_0, mdraw_plain, hdt, hds, hdx, e, stx, ht.jobs.ia, hml, hrd, hdA, c2, w2, hs.tasks.ia, hkl, hrt, taskC, c3]
      · refine .inl ⟨fun z hz => by cases hz; omega, _, .inl rfl, ?_⟩
        unfold GL
        rw [Rc_loop]
        simp (maxDischargeDepth := 12) [m87_0, mdraw_plain, hdt, hds, hdx, e, stx, ht.jobs.ia, hml, hrd, hdA, c2, w2, hs.tasks.ia, hkl, hrt, taskC, c3]
    · have : (y.task == x.task) = false := by simpa using c1
      rw [this]
      have step : Rc mp (.loop m87_0) [(2, .pointer (some ⟨bs, 0, none⟩)), (3, .pointer (some ⟨bt, 0, none⟩)), (5, .int .i64 i5), (6, .pointer (some ⟨bx, 0, none⟩)), (7, .int .i64 (((m + 1 : Nat) : Int) - 1))] H = Rc mp (.loop m87_0) [(2, .pointer (some ⟨bs, 0, none⟩)), (3, .pointer (some ⟨bt, 0, none⟩)), (5, .int .i64 i5), (6, .pointer (some ⟨bx, 0, none⟩)), (7, .int .i64 ((m : Int) - 1))] (H ++ [.cells ⟨0, true, false⟩ (dnC y)]) := by
        rw [Rc_loop]
        simp (maxDischargeDepth := 12) [m87_0, dnC, mdraw_plain, hdt, hds, hdx, e, stx, ht.jobs.ia, hml, hrd, hdA, c1, w1]
      rcases ih (H ++ [.cells ⟨0, true, false⟩ (dnC y)]) (by omega) (fun z hz => hrl z (by rw [List.take_add_one]; simp [hz])) (by simp [e]) with ⟨h1, T, h2, h3⟩ | ⟨h1, h2⟩
      · exact .inl ⟨h1, T, h2, GL.step step ⟨_, rfl⟩ h3⟩
      · exact .inr ⟨h1, GL.step step ⟨_, rfl⟩ h2⟩
theorem allJ_ok {s : SetL} {tk : Int} {rev l : List DoneL} {x : DoneL} : allJ s tk rev (x :: l) ↔ jobB s tk rev x ∧ allJ s tk (x :: rev) l := Iff.rfl
set_option maxHeartbeats 4000000 in
theorem jobsR_loop {s : SetL} {t : TraceL} (hs : SetAt H0 s) (ht : TraceAt H0 t) (htk : t.ticks ≤ 20000) {bs bt : Nat} {is it : Info} (hxs : H0[bs]? = some (.cells is s.cells)) (hxt : H0[bt]? = some (.cells it t.cells)) :
    ∀ (k i : Nat) (H : MH), i + k = t.jobs.length → (∀ y ∈ t.jobs.take i, 0 ≤ y.release ∧ y.release ≤ 20000) → Ext H0 H →
    (allJ s t.ticks (t.jobs.take i).reverse (t.jobs.drop i) ∧ GL mp (.loop m87_1) [(2, .pointer (some ⟨bs, 0, none⟩)), (3, .pointer (some ⟨bt, 0, none⟩)), (5, .int .i64 (i : Int))] H (.exit 0) [(2, .pointer (some ⟨bs, 0, none⟩)), (3, .pointer (some ⟨bt, 0, none⟩)), (5, .int .i64 (t.jobs.length : Int)), (13, .bool false)]) ∨
    (¬ allJ s t.ticks (t.jobs.take i).reverse (t.jobs.drop i) ∧ GL mp (.loop m87_1) [(2, .pointer (some ⟨bs, 0, none⟩)), (3, .pointer (some ⟨bt, 0, none⟩)), (5, .int .i64 (i : Int))] H .ret [(4, .bool false)]) := by
  obtain ⟨n1, n2, n3, n4⟩ := ht.few
  have hds := ldb hxs
  have hdt := ldb hxt
  simp only [SetL.cells] at hds
  simp only [TraceL.cells] at hdt
  intro k
  induction k with
  | zero =>
    intro i H hk hrl e
    have : i = t.jobs.length := by omega
    subst this
    refine .inl ⟨by simp [allJ], ?_⟩
    unfold GL
    rw [Rc_loop]
    simp [m87_1, hdt, e]
  | succ k ih =>
    intro i H hk hrl e
    have hin : i < t.jobs.length := by omega
    obtain ⟨x, hy⟩ : ∃ y, t.jobs[i]? = some y := ⟨_, List.getElem?_eq_getElem hin⟩
    have w : IntKind.i64.wrap ((i : Int) + 1) = (i : Int) + 1 := wrap_i64 (by omega) (by omega)
    have w' : IntKind.i64.wrap ((i : Int) - 1) = (i : Int) - 1 := wrap_i64 (by omega) (by omega)
    have hrd := ht.jobs.rdn hy
    have e1 : Ext H (H ++ [MObj.cells ⟨0, true, false⟩ (dnC x)]) := ⟨_, rfl⟩
    have hgx : (H ++ [MObj.cells ⟨0, true, false⟩ (dnC x)])[H.length]? = some (.cells ⟨0, true, false⟩ (dnC x)) := by simp
    have hdx := ldb hgx
    rw [drop_at hy, allJ_ok, ← rev_take hy]
    obtain ⟨xk, xr, xf⟩ := x
    have hbad : ∀ {P : Prop}, (jobB s t.ticks (t.jobs.take i).reverse ⟨xk, xr, xf⟩ → P) → ¬ P → ¬ (jobB s t.ticks (t.jobs.take i).reverse ⟨xk, xr, xf⟩ ∧ allJ s t.ticks (t.jobs.take (i + 1)).reverse (t.jobs.drop (i + 1))) := fun h hp h' => hp (h h'.1)
    simp only [dnC] at hrd
    by_cases k1 : xk < 0
    · simp only [dnC] at hdx
      refine .inr ⟨hbad (P := 0 ≤ xk) (fun h => h.1.1) (by omega), ?_⟩
      unfold GL
      rw [Rc_loop]
      simp (maxDischargeDepth := 12) [m87_1, hin, ht.jobs.ia, hrd, e, stx, hds, hdt, hdx, k1]
    obtain ⟨kt, rfl⟩ := Int.eq_ofNat_of_zero_le (show 0 ≤ xk by omega)
    by_cases k2 : s.tasks.length ≤ kt
    · simp only [dnC] at hdx
      refine .inr ⟨hbad (P := (kt : Int) < (s.tasks.length : Int)) (fun h => h.1.2.1) (by omega), ?_⟩
      unfold GL
      rw [Rc_loop]
      simp (maxDischargeDepth := 12) [m87_1, hin, ht.jobs.ia, hrd, e, stx, hds, hdt, hdx, k1, k2]
    by_cases k3 : xr < 0
    · simp only [dnC] at hdx
      refine .inr ⟨hbad (P := 0 ≤ xr) (fun h => h.1.2.2.1) (by omega), ?_⟩
      unfold GL
      rw [Rc_loop]
      simp (maxDischargeDepth := 12) [m87_1, hin, ht.jobs.ia, hrd, e, stx, hds, hdt, hdx, k1, k2, k3]
    by_cases k4 : xf ≤ xr
    · simp only [dnC] at hdx
      refine .inr ⟨hbad (P := xr < xf) (fun h => h.1.2.2.2.1) (by omega), ?_⟩
      unfold GL
      rw [Rc_loop]
      simp (maxDischargeDepth := 12) [m87_1, hin, ht.jobs.ia, hrd, e, stx, hds, hdt, hdx, k1, k2, k3, k4]
    by_cases k5 : t.ticks < xf
    · simp only [dnC] at hdx
      refine .inr ⟨hbad (P := xf ≤ t.ticks) (fun h => h.1.2.2.2.2) (by omega), ?_⟩
      unfold GL
      rw [Rc_loop]
      simp (maxDischargeDepth := 12) [m87_1, hin, ht.jobs.ia, hrd, e, stx, hds, hdt, hdx, k1, k2, k3, k4, k5]
    have hkl : kt < s.tasks.length := by omega
    obtain ⟨tt, htt⟩ : ∃ c, s.tasks[kt]? = some c := ⟨_, List.getElem?_eq_getElem hkl⟩
    have hiff : jobB s t.ticks (t.jobs.take i).reverse ⟨kt, xr, xf⟩ ↔ ∀ y, (t.jobs.take i).reverse.find? (fun y => y.task == (kt : Int)) = some y → y.finish ≤ xr ∧ tt.period ≤ xr - y.release := by
      unfold jobB
      constructor
      · rintro ⟨_, h⟩ y hy
        obtain ⟨t', h1, h2⟩ := h y hy
        simp only [Int.toNat_natCast] at h1
        rw [htt] at h1; cases h1
        exact h2
      · intro h
        exact ⟨⟨by simp, by simp; omega, by simp; omega, by simp; omega, by simp; omega⟩, fun y hy => ⟨tt, by simp only [Int.toNat_natCast]; exact htt, h y hy⟩⟩
    have hinn := jobsR_inner (mp := mp) (hs.ext (e.trans e1)) (ht.ext (e.trans e1)) ((e.trans e1).get hxs) ((e.trans e1).get hxt) hgx rfl htt ⟨by simp only; omega, by simp only; omega⟩ (i : Int) i _ (by omega) hrl (Ext.refl _)
    simp only [dnC] at hdx
    rcases hinn with ⟨f1, T, hT, f2⟩ | ⟨f1, f2⟩
    · have hj := hiff.2 f1
      have hrl' : ∀ y ∈ t.jobs.take (i + 1), 0 ≤ y.release ∧ y.release ≤ 20000 := fun y hy' => by
        rw [List.take_add_one, hy] at hy'
        simp at hy'
        rcases hy' with h | h
        · exact hrl y h
        · rw [h]; simp only; omega
      obtain ⟨H5, f3, f4⟩ := f2
      have step : Rc mp (.loop m87_1) [(2, .pointer (some ⟨bs, 0, none⟩)), (3, .pointer (some ⟨bt, 0, none⟩)), (5, .int .i64 (i : Int))] H = Rc mp (.loop m87_1) [(2, .pointer (some ⟨bs, 0, none⟩)), (3, .pointer (some ⟨bt, 0, none⟩)), (5, .int .i64 ((i : Int) + 1))] H5 := by
        rw [Rc_loop]
        simp [dnC] at f3
        rcases hT with rfl | rfl
        · simp (maxDischargeDepth := 12) [m87_1, hin, ht.jobs.ia, hrd, e, stx, hds, hdt, hdx, k1, k2, k3, k4, k5, w', f3, w]
        · simp (maxDischargeDepth := 12) [m87_1, hin, ht.jobs.ia, hrd, e, stx, hds, hdt, hdx, k1, k2, k3, k4, k5, w', f3, w]
      have eH5 : Ext H H5 := e1.trans f4
      rcases ih (i + 1) H5 (by omega) hrl' (e.trans eH5) with ⟨h1, h2⟩ | ⟨h1, h2⟩
      · exact .inl ⟨⟨hj, h1⟩, GL.step step eH5 h2⟩
      · exact .inr ⟨fun h => h1 h.2, GL.step step eH5 h2⟩
    · refine .inr ⟨fun h => f1 (hiff.1 h.1), ?_⟩
      have f2 := f2.eq
      simp [dnC] at f2
      unfold GL
      rw [Rc_loop]
      simp (maxDischargeDepth := 12) [m87_1, hin, ht.jobs.ia, hrd, e, stx, hds, hdt, hdx, k1, k2, k3, k4, k5, w', f2]
theorem G_jobsR (hc : RefF mp) {s : SetL} {t : TraceL} (hs : SetAt H0 s) (ht : TraceAt H0 t) (htk : t.ticks ≤ 20000) (e : Ext H0 H) : GR mp 87 [.agg s.cells.toArray, .agg t.cells.toArray] H (.bool (decide (allJ s t.ticks [] t.jobs))) := by
  have e1 : Ext H (H ++ [.cells ⟨0, true, false⟩ s.cells, .cells ⟨0, true, false⟩ t.cells]) := ⟨_, rfl⟩
  have hx1 : (H ++ [MObj.cells ⟨0, true, false⟩ s.cells, .cells ⟨0, true, false⟩ t.cells])[H.length]? = some (.cells ⟨0, true, false⟩ s.cells) := by simp
  have hx2 : (H ++ [MObj.cells ⟨0, true, false⟩ s.cells, .cells ⟨0, true, false⟩ t.cells])[H.length + 1]? = some (.cells ⟨0, true, false⟩ t.cells) := by simp
  unfold GR
  rw [R_code hc.h87]
  rcases jobsR_loop (mp := mp) (hs.ext (e.trans e1)) (ht.ext (e.trans e1)) htk hx1 hx2 t.jobs.length 0 _ (by omega) (by simp) (Ext.refl _) with ⟨g1, g2⟩ | ⟨g1, g2⟩
  · rw [List.drop_zero, List.take_zero, List.reverse_nil] at g1
    rw [decide_eq_true g1]
    have g2 := g2.eq
    simp [SetL.cells, TraceL.cells] at g2
    simp (maxDischargeDepth := 12) [m87, SetL.cells, TraceL.cells, g2]
  · rw [List.drop_zero, List.take_zero, List.reverse_nil] at g1
    rw [decide_eq_false g1]
    have g2 := g2.eq
    simp [SetL.cells, TraceL.cells] at g2
    simp (maxDischargeDepth := 12) [m87, SetL.cells, TraceL.cells, g2]

/-! ### waits -/
theorem lkR_ok {s : SetL} (h : okSet s) (n p : Int) : lkR s n p = (if (lk s n p).2 = true then (lk s n p).1.res else 0, (lk s n p).2) := by
  unfold lkR
  cases h2 : (lk s n p).2 with
  | true => simp [h]
  | false => simp
theorem lkR_res {s : SetL} (h : okSet s) (n p : Int) : (lkR s n p).1 = (lk s n p).1.res ∧ (lkR s n p).2 = (lk s n p).2 := by
  rw [lkR_ok h]
  refine ⟨?_, rfl⟩
  cases h2 : (lk s n p).2 with
  | true => simp
  | false => simp [lk_no h h2]
theorem waitsR_inner (hc : RefF mp) {s : SetL} {t : TraceL} (hok : okSet s) (hs : SetAt H0 s) (ht : TraceAt H0 t) {bs bt b6 n : Nat} {is it i6 : Info} {x : WaitL} {r : Int} (hxs : H0[bs]? = some (.cells is s.cells)) (hxt : H0[bt]? = some (.cells it t.cells)) (hx6 : H0[b6]? = some (.cells i6 (wtC x))) (hn : n < t.waits.length) :
    ∀ (k j : Nat) (H : MH), j + k = n → Ext H0 H →
    ((∀ y ∈ (t.waits.take n).drop j, (lk s y.task y.part).1.res = r → ¬ (y.got < x.finish ∧ x.got < y.finish)) ∧ GL mp (.loop m88_0) [(2, .pointer (some ⟨bs, 0, none⟩)), (3, .pointer (some ⟨bt, 0, none⟩)), (5, .int .i64 (n : Int)), (6, .pointer (some ⟨b6, 0, none⟩)), (7, .int .i64 r), (9, .int .i64 (j : Int))] H
      (.exit 2) [(2, .pointer (some ⟨bs, 0, none⟩)), (3, .pointer (some ⟨bt, 0, none⟩)), (5, .int .i64 (n : Int)), (6, .pointer (some ⟨b6, 0, none⟩)), (7, .int .i64 r), (9, .int .i64 (n : Int)), (61, .bool false)]) ∨
    ((¬ ∀ y ∈ (t.waits.take n).drop j, (lk s y.task y.part).1.res = r → ¬ (y.got < x.finish ∧ x.got < y.finish)) ∧ GL mp (.loop m88_0) [(2, .pointer (some ⟨bs, 0, none⟩)), (3, .pointer (some ⟨bt, 0, none⟩)), (5, .int .i64 (n : Int)), (6, .pointer (some ⟨b6, 0, none⟩)), (7, .int .i64 r), (9, .int .i64 (j : Int))] H .ret [(4, .bool false)]) := by
  obtain ⟨n1, n2, n3, n4⟩ := ht.few
  have hds := ldbn hxs
  have hdt := ldb hxt
  have hd6 := ldb hx6
  simp only [SetL.cells] at hds
  simp only [TraceL.cells] at hdt
  simp only [wtC] at hd6
  intro k
  induction k with
  | zero =>
    intro j H hk e
    have : j = n := by omega
    subst this
    refine .inl ⟨?_, ?_⟩
    · intro y hy
      rw [List.drop_of_length_le (by rw [List.length_take]; omega)] at hy
      cases hy
    · unfold GL
      rw [Rc_loop]
      simp [m88_0]
  | succ k ih =>
    intro j H hk e
    have hjn : j < n := by omega
    have hjl : j < t.waits.length := by omega
    obtain ⟨y, hy⟩ : ∃ y, t.waits[j]? = some y := ⟨_, List.getElem?_eq_getElem (by omega)⟩
    have hy' : (t.waits.take n)[j]? = some y := by rw [List.getElem?_take_of_lt hjn]; exact hy
    have w : IntKind.i64.wrap ((j : Int) + 1) = (j : Int) + 1 := wrap_i64 (by omega) (by omega)
    have hrd := ht.waits.rdn hy
    have hl := fun (H' : MH) (e' : Ext H0 H') => (G_lockR (H := H') hc hs e' y).eq
    obtain ⟨q1, q2⟩ := lkR_res hok y.task y.part
    simp only [SetL.cells, wtC, q1] at hl
    simp only [wtC] at hrd
    generalize hlk : (lk s y.task y.part).1.res = q at hl
    generalize (lkR s y.task y.part).2 = qb at hl
    rw [drop_at hy']
    by_cases hh : q = r → ¬ (y.got < x.finish ∧ x.got < y.finish)
    · have step : Rc mp (.loop m88_0) [(2, .pointer (some ⟨bs, 0, none⟩)), (3, .pointer (some ⟨bt, 0, none⟩)), (5, .int .i64 (n : Int)), (6, .pointer (some ⟨b6, 0, none⟩)), (7, .int .i64 r), (9, .int .i64 (j : Int))] H = Rc mp (.loop m88_0) [(2, .pointer (some ⟨bs, 0, none⟩)), (3, .pointer (some ⟨bt, 0, none⟩)), (5, .int .i64 (n : Int)), (6, .pointer (some ⟨b6, 0, none⟩)), (7, .int .i64 r), (9, .int .i64 ((j : Int) + 1))] (aft mp 65 [.agg s.cells.toArray, .agg (wtC y).toArray] (H ++ [.cells ⟨0, true, false⟩ (wtC y)])) := by
        rw [Rc_loop]
        simp only [SetL.cells, wtC]
        by_cases c1 : q = r
        · by_cases c2 : x.got < y.finish
          · have c3 : ¬ y.got < x.finish := fun c3 => hh c1 ⟨c3, c2⟩
            simp (maxDischargeDepth := 12) [m88_0, hjn, hjl, ht.waits.ia, hrd, e, stx, ldx, ldnx, hds, hdt, hd6, hl, w, c1, c2, c3]
          · simp (maxDischargeDepth := 12) [m88_0, hjn, hjl, ht.waits.ia, hrd, e, stx, ldx, ldnx, hds, hdt, hd6, hl, w, c1, c2]
        · simp (maxDischargeDepth := 12) [m88_0, hjn, hjl, ht.waits.ia, hrd, e, stx, ldx, ldnx, hds, hdt, hd6, hl, w, c1]
      have eX : Ext H (aft mp 65 [.agg s.cells.toArray, .agg (wtC y).toArray] (H ++ [.cells ⟨0, true, false⟩ (wtC y)])) := by simp (maxDischargeDepth := 12)
      rcases ih (j + 1) _ (by omega) (e.trans eX) with ⟨h1, h2⟩ | ⟨h1, h2⟩
      · refine .inl ⟨fun z hz => ?_, GL.step step eX h2⟩
        rcases List.mem_cons.1 hz with rfl | hz
        · rw [hlk]; exact hh
        · exact h1 z hz
      · exact .inr ⟨fun hz => h1 fun z hz' => hz z (List.mem_cons_of_mem _ hz'), GL.step step eX h2⟩
    · refine .inr ⟨fun hz => hh (by have := hz y (by simp); rw [hlk] at this; exact this), ?_⟩
      have c1 : q = r := Classical.byContradiction fun c => hh fun c' => absurd c' c
      have c23 : y.got < x.finish ∧ x.got < y.finish := Classical.byContradiction fun c => hh fun _ => c
      unfold GL
      rw [Rc_loop]
      simp (maxDischargeDepth := 12) [m88_0, hjn, hjl, ht.waits.ia, hrd, e, stx, ldx, ldnx, hds, hdt, hd6, hl, w, c1, c23.1, c23.2]
set_option maxHeartbeats 4000000 in
theorem waitsR_loop (hc : RefF mp) {s : SetL} {t : TraceL} (hok : okSet s) (hs : SetAt H0 s) (ht : TraceAt H0 t) {bs bt : Nat} {is it : Info} (hxs : H0[bs]? = some (.cells is s.cells)) (hxt : H0[bt]? = some (.cells it t.cells)) :
    ∀ (k i : Nat) (H : MH), i + k = t.waits.length → Ext H0 H →
    (allW s t.ticks (t.waits.take i) (t.waits.drop i) ∧ GL mp (.loop m88_1) [(2, .pointer (some ⟨bs, 0, none⟩)), (3, .pointer (some ⟨bt, 0, none⟩)), (5, .int .i64 (i : Int))] H (.exit 0) [(2, .pointer (some ⟨bs, 0, none⟩)), (3, .pointer (some ⟨bt, 0, none⟩)), (5, .int .i64 (t.waits.length : Int)), (17, .bool false)]) ∨
    (¬ allW s t.ticks (t.waits.take i) (t.waits.drop i) ∧ GL mp (.loop m88_1) [(2, .pointer (some ⟨bs, 0, none⟩)), (3, .pointer (some ⟨bt, 0, none⟩)), (5, .int .i64 (i : Int))] H .ret [(4, .bool false)]) := by
  obtain ⟨n1, n2, n3, n4⟩ := ht.few
  have hds := ldbn hxs
  have hdt := ldb hxt
  simp only [SetL.cells] at hds
  simp only [TraceL.cells] at hdt
  intro k
  induction k with
  | zero =>
    intro i H hk e
    have : i = t.waits.length := by omega
    subst this
    refine .inl ⟨by simp [allW], ?_⟩
    unfold GL
    rw [Rc_loop]
    simp [m88_1, hdt, e]
  | succ k ih =>
    intro i H hk e
    have hin : i < t.waits.length := by omega
    obtain ⟨x, hy⟩ : ∃ y, t.waits[i]? = some y := ⟨_, List.getElem?_eq_getElem hin⟩
    have w : IntKind.i64.wrap ((i : Int) + 1) = (i : Int) + 1 := wrap_i64 (by omega) (by omega)
    have hrd := ht.waits.rdn hy
    have hl := (G_lockR (H := H ++ [.cells ⟨0, true, false⟩ (wtC x)]) hc hs (by simp [e]) x).eq
    obtain ⟨q1, q2⟩ := lkR_res hok x.task x.part
    rw [q1, q2] at hl
    generalize hlk : lk s x.task x.part = q at hl
    obtain ⟨H2, hH2⟩ : ∃ H2, aft mp 65 [.agg s.cells.toArray, .agg (wtC x).toArray] (H ++ [.cells ⟨0, true, false⟩ (wtC x)]) = H2 := ⟨_, rfl⟩
    have eH : Ext H H2 := by rw [← hH2]; simp (maxDischargeDepth := 12)
    have gx : H2[H.length]? = some (.cells ⟨0, true, false⟩ (wtC x)) := by rw [← hH2, get_aft (by simp)]; simp
    rw [hH2] at hl
    have hdA : ∀ o n, o + n ≤ 5 → ((([.int .i64 x.task, .int .i64 x.part, .int .i64 x.ask, .int .i64 x.got, .int .i64 x.finish] : List Value).drop o).take n).all one = true → mread (.ld (some n)) [.pointer (some ⟨H.length, o, none⟩)] (H ++ [MObj.cells ⟨0, true, false⟩ (wtC x)]) = _ := fun o n h1 h2 => ldbn (H0 := H ++ [MObj.cells ⟨0, true, false⟩ (wtC x)]) (b := H.length) (i := ⟨0, true, false⟩) (cs := wtC x) (by simp) _ o n (Ext.refl _) h1 h2
    have hin3 := waitsR_inner (mp := mp) (H0 := H2) (r := q.1.res) hc hok (hs.ext (e.trans eH)) (ht.ext (e.trans eH)) ((e.trans eH).get hxs) ((e.trans eH).get hxt) gx hin i 0 _ (by omega) (Ext.refl _)
    have hd2 := ldb gx
    have e2 : Ext H0 H2 := e.trans eH
    simp only [SetL.cells, wtC] at hl
    simp only [wtC] at hrd hd2 hdA
    have hia := ht.waits.ia
    rw [drop_at hy]
    simp only [allW]
    have htk : t.waits.take i ++ [x] = t.waits.take (i + 1) := by
      rw [List.take_add_one, hy]; rfl
    rw [htk]
    cases c1 : q.2 with
    | false =>
      rw [c1] at hl
      have hno : ¬ waitB s t.ticks (t.waits.take i) x := fun h => absurd h.1.1 (by rw [hlk, c1]; simp)
      refine .inr ⟨fun h => hno h.1, ?_⟩
      unfold GL
      rw [Rc_loop]
      simp (maxDischargeDepth := 12) [m88_1, hin, hia, hrd, e, e2, eH, stx, hds, hdt, hdA, hd2, hl]
    | true =>
    rw [c1] at hl
    by_cases k1 : x.ask < 0
    · refine .inr ⟨fun h => by have := h.1.1.2.1; omega, ?_⟩
      unfold GL
      rw [Rc_loop]
      simp (maxDischargeDepth := 12) [m88_1, hin, hia, hrd, e, e2, eH, stx, hds, hdt, hdA, hd2, hl, k1]
    by_cases k2 : x.got < x.ask
    · refine .inr ⟨fun h => by have := h.1.1.2.2.1; omega, ?_⟩
      unfold GL
      rw [Rc_loop]
      simp (maxDischargeDepth := 12) [m88_1, hin, hia, hrd, e, e2, eH, stx, hds, hdt, hdA, hd2, hl, k1, k2]
    by_cases k3 : x.finish ≤ x.got
    · refine .inr ⟨fun h => by have := h.1.1.2.2.2.1; omega, ?_⟩
      unfold GL
      rw [Rc_loop]
      simp (maxDischargeDepth := 12) [m88_1, hin, hia, hrd, e, e2, eH, stx, hds, hdt, hdA, hd2, hl, k1, k2, k3]
    by_cases k4 : t.ticks < x.finish
    · refine .inr ⟨fun h => by have := h.1.1.2.2.2.2; omega, ?_⟩
      unfold GL
      rw [Rc_loop]
      simp (maxDischargeDepth := 12) [m88_1, hin, hia, hrd, e, e2, eH, stx, hds, hdt, hdA, hd2, hl, k1, k2, k3, k4]
    rcases hin3 with ⟨f1, f2⟩ | ⟨f1, f2⟩
    · rw [List.drop_zero] at f1
      obtain ⟨H5, f2, e5⟩ := f2
      have hw : waitB s t.ticks (t.waits.take i) x := ⟨by rw [hlk]; exact ⟨c1, by omega, by omega, by omega, by omega⟩, by rw [hlk]; exact f1⟩
      simp at f2
      have step : Rc mp (.loop m88_1) [(2, .pointer (some ⟨bs, 0, none⟩)), (3, .pointer (some ⟨bt, 0, none⟩)), (5, .int .i64 (i : Int))] H = Rc mp (.loop m88_1) [(2, .pointer (some ⟨bs, 0, none⟩)), (3, .pointer (some ⟨bt, 0, none⟩)), (5, .int .i64 ((i : Int) + 1))] H5 := by
        rw [Rc_loop]
        simp (maxDischargeDepth := 12) [m88_1, hin, hia, hrd, e, e2, stx, hds, hdt, hdA, hd2, hl, k1, k2, k3, k4, f2, w]
      rcases ih (i + 1) H5 (by omega) (e2.trans e5) with ⟨h1, h2⟩ | ⟨h1, h2⟩
      · exact .inl ⟨⟨hw, h1⟩, GL.step step (eH.trans e5) h2⟩
      · exact .inr ⟨fun h => h1 h.2, GL.step step (eH.trans e5) h2⟩
    · rw [List.drop_zero] at f1
      obtain ⟨H5, f2, e5⟩ := f2
      have eH5 := eH.trans e5
      refine .inr ⟨fun h => f1 (by have := h.1.2; rw [hlk] at this; exact this), ?_⟩
      simp at f2
      unfold GL
      rw [Rc_loop]
      simp (maxDischargeDepth := 12) [m88_1, hin, hia, hrd, e, e2, stx, hds, hdt, hdA, hd2, hl, k1, k2, k3, k4, f2, w, eH5]
theorem G_waitsR (hc : RefF mp) {s : SetL} {t : TraceL} (hok : okSet s) (hs : SetAt H0 s) (ht : TraceAt H0 t) (e : Ext H0 H) : GR mp 88 [.agg s.cells.toArray, .agg t.cells.toArray] H (.bool (decide (allW s t.ticks [] t.waits))) := by
  have e1 : Ext H (H ++ [.cells ⟨0, true, false⟩ s.cells, .cells ⟨0, true, false⟩ t.cells]) := ⟨_, rfl⟩
  have hx1 : (H ++ [MObj.cells ⟨0, true, false⟩ s.cells, .cells ⟨0, true, false⟩ t.cells])[H.length]? = some (.cells ⟨0, true, false⟩ s.cells) := by simp
  have hx2 : (H ++ [MObj.cells ⟨0, true, false⟩ s.cells, .cells ⟨0, true, false⟩ t.cells])[H.length + 1]? = some (.cells ⟨0, true, false⟩ t.cells) := by simp
  unfold GR
  rw [R_code hc.h88]
  rcases waitsR_loop (mp := mp) hc hok (hs.ext (e.trans e1)) (ht.ext (e.trans e1)) hx1 hx2 t.waits.length 0 _ (by omega) (Ext.refl _) with ⟨g1, g2⟩ | ⟨g1, g2⟩
  · rw [List.drop_zero, List.take_zero] at g1
    rw [decide_eq_true g1]
    have g2 := g2.eq
    simp [SetL.cells, TraceL.cells] at g2
    simp (maxDischargeDepth := 12) [m88, SetL.cells, TraceL.cells, g2]
  · rw [List.drop_zero, List.take_zero] at g1
    rw [decide_eq_false g1]
    have g2 := g2.eq
    simp [SetL.cells, TraceL.cells] at g2
    simp (maxDischargeDepth := 12) [m88, SetL.cells, TraceL.cells, g2]
theorem G_legalR (hc : RefF mp) {s : SetL} {t : TraceL} (hs : SetAt H0 s) (ht : TraceAt H0 t) (e : Ext H0 H) : GR mp 59 [.agg s.cells.toArray, .agg t.cells.toArray] H (.bool (decide (legalB s t))) := by
  have hk := fun (H' : MH) (e' : Ext H0 H') => (G_okR (H := H') hc.r hs e').eq
  unfold GR
  rw [R_code hc.h59]
  by_cases h1 : okSet s
  case neg =>
    rw [decide_eq_false fun h => h1 h.1]
    rw [decide_eq_false h1] at hk
    simp only [SetL.cells] at hk
    simp (maxDischargeDepth := 12) [m59, SetL.cells, TraceL.cells, ldnx, ldx, e, hk]
  rw [decide_eq_true h1] at hk
  by_cases h2 : 0 ≤ t.ticks
  case neg =>
    rw [decide_eq_false fun h => h2 h.2.1]
    simp only [SetL.cells] at hk
    simp (maxDischargeDepth := 12) [m59, SetL.cells, TraceL.cells, ldnx, ldx, e, hk, h2]
  by_cases h3 : t.ticks ≤ 20000
  case neg =>
    rw [decide_eq_false fun h => h3 h.2.2.1]
    simp only [SetL.cells] at hk
    simp (maxDischargeDepth := 12) [m59, SetL.cells, TraceL.cells, ldnx, ldx, e, hk, h2, h3]
  have hS := fun (H' : MH) (e' : Ext H0 H') => (G_slotsR (H := H') hc hs ht e').eq
  have hJ := fun (H' : MH) (e' : Ext H0 H') => (G_jobsR (H := H') hc hs ht h3 e').eq
  have hW := fun (H' : MH) (e' : Ext H0 H') => (G_waitsR (H := H') hc h1 hs ht e').eq
  have key : decide (legalB s t) = (decide (slotsB s t) && decide (allJ s t.ticks [] t.jobs) && decide (allW s t.ticks [] t.waits)) := by
    rw [Bool.eq_iff_iff, decide_eq_true_iff]
    simp only [Bool.and_eq_true, decide_eq_true_eq, legalB]
    exact ⟨fun h => ⟨⟨h.2.2.2.1, h.2.2.2.2.1⟩, h.2.2.2.2.2⟩, fun h => ⟨h1, h2, h3, h.1.1, h.1.2, h.2⟩⟩
  rw [key]
  generalize decide (slotsB s t) = x1 at hS ⊢
  generalize decide (allJ s t.ticks [] t.jobs) = x2 at hJ ⊢
  generalize decide (allW s t.ticks [] t.waits) = x3 at hW ⊢
  simp only [SetL.cells, TraceL.cells] at hk hS hJ hW
  cases x1 with
  | false => simp (maxDischargeDepth := 12) [m59, SetL.cells, TraceL.cells, ldnx, ldx, e, hk, h2, h3, hS]
  | true =>
    cases x2 with
    | false => simp (maxDischargeDepth := 12) [m59, SetL.cells, TraceL.cells, ldnx, ldx, e, hk, h2, h3, hS, hJ]
    | true => simp (maxDischargeDepth := 12) [m59, SetL.cells, TraceL.cells, ldnx, ldx, e, hk, h2, h3, hS, hJ, hW]
end
end Go.Mod

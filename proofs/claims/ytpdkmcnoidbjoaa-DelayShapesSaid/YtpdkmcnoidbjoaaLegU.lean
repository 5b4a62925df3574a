/- Waits that may be; a trace that may be; who ran: the program's. -/
import Derived.Test.YtpdkmcnoidbjoaaLegT
set_option linter.unusedVariables false
set_option linter.unusedSimpArgs false
namespace Go.Mod

section
variable {mp : FuncId → Option MDef} {H0 H : MH}
theorem waits_inner (hf : mp 81 = some (.code m81)) {s : SetL} {t : TraceL} (hs : SetAt H0 s) (ht : TraceAt H0 t) {bs b6 b7 n : Nat} {is i6 i7 : Info} {r3 r14 r15 : Value} {x : WaitL} {p : PartL} (hxs : H0[bs]? = some (.cells is s.cells)) (hx6 : H0[b6]? = some (.cells i6 (wtC x))) (hx7 : H0[b7]? = some (.cells i7 (partC p))) (hn : n < t.waits.length) (i16 : Int) :
    ∀ (k j : Nat) (H : MH), j + k = n → Ext H0 H →
    ((∀ y ∈ (t.waits.take n).drop j, (lk s y.task y.part).1.res = p.res → ¬ (y.got < x.finish ∧ x.got < y.finish)) ∧ GL mp (.loop m84_0) [(2, .pointer (some ⟨bs, 0, none⟩)), (3, r3), (6, .pointer (some ⟨b6, 0, none⟩)), (7, .pointer (some ⟨b7, 0, none⟩)), (14, r14), (15, r15), (16, .int .i64 i16), (61, .slice (some ⟨adB t.wa, adO t.wa, none⟩) n t.wc), (62, .int .i64 (n : Int)), (63, .int .i64 (j : Int))] H
      (.exit 2) [(2, .pointer (some ⟨bs, 0, none⟩)), (3, r3), (6, .pointer (some ⟨b6, 0, none⟩)), (7, .pointer (some ⟨b7, 0, none⟩)), (14, r14), (15, r15), (16, .int .i64 i16), (61, .slice (some ⟨adB t.wa, adO t.wa, none⟩) n t.wc), (62, .int .i64 (n : Int)), (63, .int .i64 (n : Int)), (64, .bool false)]) ∨
    ((¬ ∀ y ∈ (t.waits.take n).drop j, (lk s y.task y.part).1.res = p.res → ¬ (y.got < x.finish ∧ x.got < y.finish)) ∧ GL mp (.loop m84_0) [(2, .pointer (some ⟨bs, 0, none⟩)), (3, r3), (6, .pointer (some ⟨b6, 0, none⟩)), (7, .pointer (some ⟨b7, 0, none⟩)), (14, r14), (15, r15), (16, .int .i64 i16), (61, .slice (some ⟨adB t.wa, adO t.wa, none⟩) n t.wc), (62, .int .i64 (n : Int)), (63, .int .i64 (j : Int))] H .ret [(4, .bool false)]) := by
  obtain ⟨n1, n2, n3, n4⟩ := ht.few
  have hds := ldbn hxs
  have hd6 := ldb hx6
  have hd7 := ldb hx7
  simp only [SetL.cells] at hds
  simp only [wtC] at hd6
  simp only [partC] at hd7
  intro k
  induction k with
  | zero =>
    intro j H hk e
    have : j = n := by omega
    subst this
    refine .inl ⟨?_, ?_⟩
    · intro y hy
      rw [List.drop_of_length_le (by rw [List.length_take]; omega)] at hy
      cases hy
    · unfold GL
      rw [Rc_loop]
      simp [m84_0]
  | succ k ih =>
    intro j H hk e
    have hjn : j < n := by omega
    obtain ⟨y, hy⟩ : ∃ y, t.waits[j]? = some y := ⟨_, List.getElem?_eq_getElem (by omega)⟩
    have hy' : (t.waits.take n)[j]? = some y := by rw [List.getElem?_take_of_lt hjn]; exact hy
    have w : IntKind.i64.wrap ((j : Int) + 1) = (j : Int) + 1 := wrap_i64 (by omega) (by omega)
    have hrd := ht.waits.rdn hy
    have hl := fun (H' : MH) (e' : Ext H0 H') => (G_lock (H := H') hf hs e' y.task y.part).eq
    simp only [SetL.cells, partC] at hl
    simp only [wtC] at hrd
    generalize hlk : lk s y.task y.part = q at hl
    rw [drop_at hy']
    by_cases hh : q.1.res = p.res → ¬ (y.got < x.finish ∧ x.got < y.finish)
    · rcases ih (j + 1) (aft mp 81 [.agg s.cells.toArray, .int .i64 y.task, .int .i64 y.part] (H ++ [.cells ⟨0, true, false⟩ (wtC y)]) ++ [.cells ⟨0, true, false⟩ (partC q.1)]) (by omega) (by simp (maxDischargeDepth := 12) [e]) with ⟨h1, h2⟩ | ⟨h1, h2⟩
      · refine .inl ⟨fun z hz => ?_, ?_⟩
        · rcases List.mem_cons.1 hz with rfl | hz
          · rw [hlk]; exact hh
          · exact h1 z hz
        · simp only [SetL.cells, wtC, partC] at h2
          unfold GL
          rw [Rc_loop]
          by_cases c1 : q.1.res = p.res
          · by_cases c2 : y.got < x.finish
            · have c3 : ¬ x.got < y.finish := fun c3 => hh c1 ⟨c2, c3⟩
              simp (maxDischargeDepth := 12) [m84_0, hjn, hrd, e, stx, ldx, hds, hd6, hd7, hl, w, c1, c2, c3]
              rw [c1] at h2
              exact h2.next (by simp (maxDischargeDepth := 12))
            · simp (maxDischargeDepth := 12) [m84_0, hjn, hrd, e, stx, ldx, hds, hd6, hd7, hl, w, c1, c2]
              rw [c1] at h2
              exact h2.next (by simp (maxDischargeDepth := 12))
          · simp (maxDischargeDepth := 12) [m84_0, hjn, hrd, e, stx, ldx, hds, hd6, hd7, hl, w, c1]
            exact h2.next (by simp (maxDischargeDepth := 12))
      · refine .inr ⟨fun hz => h1 fun z hz' => hz z (List.mem_cons_of_mem _ hz'), ?_⟩
        simp only [SetL.cells, wtC, partC] at h2
        unfold GL
        rw [Rc_loop]
        by_cases c1 : q.1.res = p.res
        · by_cases c2 : y.got < x.finish
          · have c3 : ¬ x.got < y.finish := fun c3 => hh c1 ⟨c2, c3⟩
            simp (maxDischargeDepth := 12) [m84_0, hjn, hrd, e, stx, ldx, hds, hd6, hd7, hl, w, c1, c2, c3]
            rw [c1] at h2
            exact h2.next (by simp (maxDischargeDepth := 12))
          · simp (maxDischargeDepth := 12) [m84_0, hjn, hrd, e, stx, ldx, hds, hd6, hd7, hl, w, c1, c2]
            rw [c1] at h2
            exact h2.next (by simp (maxDischargeDepth := 12))
        · simp (maxDischargeDepth := 12) [m84_0, hjn, hrd, e, stx, ldx, hds, hd6, hd7, hl, w, c1]
          exact h2.next (by simp (maxDischargeDepth := 12))
    · refine .inr ⟨fun hz => hh (by have := hz y (by simp); rw [hlk] at this; exact this), ?_⟩
      have c1 : q.1.res = p.res := Classical.byContradiction fun c => hh fun c' => absurd c' c
      have c23 : y.got < x.finish ∧ x.got < y.finish := Classical.byContradiction fun c => hh fun _ => c
      unfold GL
      rw [Rc_loop]
      simp (maxDischargeDepth := 12) [m84_0, hjn, hrd, e, stx, ldx, hds, hd6, hd7, hl, w, c1, c23.1, c23.2]
theorem waits_loop (hf : mp 81 = some (.code m81)) {s : SetL} {t : TraceL} (hs : SetAt H0 s) (ht : TraceAt H0 t) {bs bt : Nat} {is it : Info} (hxs : H0[bs]? = some (.cells is s.cells)) (hxt : H0[bt]? = some (.cells it t.cells)) :
    ∀ (k i : Nat) (H : MH), i + k = t.waits.length → Ext H0 H →
    (allW s t.ticks (t.waits.take i) (t.waits.drop i) ∧ GL mp (.loop m84_1) [(2, .pointer (some ⟨bs, 0, none⟩)), (3, .pointer (some ⟨bt, 0, none⟩)), (14, .slice t.wa t.waits.length t.wc), (15, .int .i64 (t.waits.length : Int)), (16, .int .i64 (i : Int))] H
      (.exit 0) [(2, .pointer (some ⟨bs, 0, none⟩)), (3, .pointer (some ⟨bt, 0, none⟩)), (14, .slice t.wa t.waits.length t.wc), (15, .int .i64 (t.waits.length : Int)), (16, .int .i64 (t.waits.length : Int)), (17, .bool false)]) ∨
    (¬ allW s t.ticks (t.waits.take i) (t.waits.drop i) ∧ GL mp (.loop m84_1) [(2, .pointer (some ⟨bs, 0, none⟩)), (3, .pointer (some ⟨bt, 0, none⟩)), (14, .slice t.wa t.waits.length t.wc), (15, .int .i64 (t.waits.length : Int)), (16, .int .i64 (i : Int))] H .ret [(4, .bool false)]) := by
  obtain ⟨n1, n2, n3, n4⟩ := ht.few
  have hds := ldbn hxs
  have hdt := ldb hxt
  simp only [SetL.cells] at hds
  simp only [TraceL.cells] at hdt
  intro k
  induction k with
  | zero =>
    intro i H hk e
    have : i = t.waits.length := by omega
    subst this
    refine .inl ⟨by simp [allW], ?_⟩
    unfold GL
    rw [Rc_loop]
    simp [m84_1]
  | succ k ih =>
    intro i H hk e
    have hin : i < t.waits.length := by omega
    obtain ⟨x, hy⟩ : ∃ y, t.waits[i]? = some y := ⟨_, List.getElem?_eq_getElem hin⟩
    have hne : t.waits ≠ [] := fun h => by rw [h] at hin; simp at hin
    have w : IntKind.i64.wrap ((i : Int) + 1) = (i : Int) + 1 := wrap_i64 (by omega) (by omega)
    have hrd := ht.waits.rdn hy
    have hl := (G_lock (H := H ++ [.cells ⟨0, true, false⟩ (wtC x)]) hf hs (by simp [e]) x.task x.part).eq
    have hsl := ht.waits.sl hne
    generalize hlk : lk s x.task x.part = q at hl
    -- the heap behind both boxes
    obtain ⟨H2, hH2⟩ : ∃ H2, aft mp 81 [.agg s.cells.toArray, .int .i64 x.task, .int .i64 x.part] (H ++ [.cells ⟨0, true, false⟩ (wtC x)]) = H2 := ⟨_, rfl⟩
    have eH : Ext H H2 := by rw [← hH2]; simp (maxDischargeDepth := 12)
    have lH : H.length < H2.length := by rw [← hH2]; simp
    have gx : H2[H.length]? = some (.cells ⟨0, true, false⟩ (wtC x)) := by rw [← hH2, get_aft (by simp)]; simp
    rw [hH2] at hl
    have e3 : Ext H2 (H2 ++ [MObj.cells ⟨0, true, false⟩ (partC q.1)]) := ⟨_, rfl⟩
    have gx3 := e3.get gx
    have gq3 : (H2 ++ [MObj.cells ⟨0, true, false⟩ (partC q.1)])[H2.length]? = some (.cells ⟨0, true, false⟩ (partC q.1)) := by simp
    have hin3 := waits_inner (mp := mp) (H0 := H2 ++ [MObj.cells ⟨0, true, false⟩ (partC q.1)]) hf (hs.ext ((e.trans eH).trans e3)) (ht.ext ((e.trans eH).trans e3)) (((e.trans eH).trans e3).get hxs) gx3 gq3 hin (r3 := .pointer (some ⟨bt, 0, none⟩)) (r14 := .slice t.wa t.waits.length t.wc) (r15 := .int .i64 (t.waits.length : Int)) (i : Int) i 0 _ (by omega) (Ext.refl _)
    have hd2 := ldb gx
    have hdA : ∀ o, mread (.ld none) [.pointer (some ⟨H.length, o, none⟩)] (H ++ [MObj.cells ⟨0, true, false⟩ (wtC x)]) = knownO (wtC x)[o]? := fun o => ldb (H0 := H ++ [MObj.cells ⟨0, true, false⟩ (wtC x)]) (b := H.length) (i := ⟨0, true, false⟩) (by simp) _ o (Ext.refl _)
    have e2 : Ext H0 H2 := e.trans eH
    have d1 := (List.getElem?_eq_some_iff.1 hxt).1
    simp only [SetL.cells, partC, wtC] at hl
    simp only [wtC] at hrd hd2 hdA
    have hia := ht.waits.ia
    have hic : (i : Int) ≤ (t.wc : Int) := by omega
    rw [drop_at hy]
    simp only [allW]
    have htk : t.waits.take i ++ [x] = t.waits.take (i + 1) := by
      rw [List.take_add_one, hy]; rfl
    rw [htk]
    cases c1 : q.2 with
    | false =>
      rw [c1] at hl
      have hno : ¬ waitB s t.ticks (t.waits.take i) x := fun h => absurd h.1.1 (by rw [hlk, c1]; simp)
      refine .inr ⟨fun h => hno h.1, ?_⟩
      unfold GL
      rw [Rc_loop]
      simp (maxDischargeDepth := 12) [m84_1, hin, hia, hrd, e, e2, stx, hds, hdA, hd2, hl]
      exact eH.trans e3
    | true =>
    rw [c1] at hl
    by_cases k1 : x.ask < 0
    · refine .inr ⟨fun h => by have := h.1.1.2.1; omega, ?_⟩
      unfold GL
      rw [Rc_loop]
      simp (maxDischargeDepth := 12) [m84_1, hin, hia, hrd, e, e2, stx, hds, hdA, hd2, hl, k1]
      exact eH.trans e3
    by_cases k2 : x.got < x.ask
    · refine .inr ⟨fun h => by have := h.1.1.2.2.1; omega, ?_⟩
      unfold GL
      rw [Rc_loop]
      simp (maxDischargeDepth := 12) [m84_1, hin, hia, hrd, e, e2, stx, hds, hdA, hd2, hl, k1, k2]
      exact eH.trans e3
    by_cases k3 : x.finish ≤ x.got
    · refine .inr ⟨fun h => by have := h.1.1.2.2.2.1; omega, ?_⟩
      unfold GL
      rw [Rc_loop]
      simp (maxDischargeDepth := 12) [m84_1, hin, hia, hrd, e, e2, stx, hds, hdA, hd2, hl, k1, k2, k3]
      exact eH.trans e3
    by_cases k4 : t.ticks < x.finish
    · refine .inr ⟨fun h => by have := h.1.1.2.2.2.2; omega, ?_⟩
      unfold GL
      rw [Rc_loop]
      simp (maxDischargeDepth := 12) [m84_1, hin, hia, hrd, e, e2, stx, hds, hdt, hdA, hd2, hl, k1, k2, k3, k4]
      exact eH.trans e3
    rcases hin3 with ⟨f1, f2⟩ | ⟨f1, f2⟩
    · rw [List.drop_zero] at f1
      have f2 := f2.eq
      have hw : waitB s t.ticks (t.waits.take i) x := ⟨by rw [hlk]; exact ⟨c1, by omega, by omega, by omega, by omega⟩, by rw [hlk]; exact f1⟩
      obtain ⟨H5, hH5⟩ : ∃ H5, aftL mp (.loop m84_0) [(2, .pointer (some ⟨bs, 0, none⟩)), (3, .pointer (some ⟨bt, 0, none⟩)), (6, .pointer (some ⟨H.length, 0, none⟩)), (7, .pointer (some ⟨H2.length, 0, none⟩)), (14, .slice t.wa t.waits.length t.wc), (15, .int .i64 (t.waits.length : Int)), (16, .int .i64 (i : Int)), (61, .slice (some ⟨adB t.wa, adO t.wa, none⟩) i t.wc), (62, .int .i64 (i : Int)), (63, .int .i64 ((0 : Nat) : Int))] (H2 ++ [MObj.cells ⟨0, true, false⟩ (partC q.1)]) = H5 := ⟨_, rfl⟩
      have e5 : Ext H2 H5 := by rw [← hH5]; simp (maxDischargeDepth := 12)
      rw [hH5] at f2
      simp [partC] at f2
      rcases ih (i + 1) H5 (by omega) (e2.trans e5) with ⟨h1, h2⟩ | ⟨h1, h2⟩
      · refine .inl ⟨⟨hw, h1⟩, ?_⟩
        unfold GL
        rw [Rc_loop]
        simp (maxDischargeDepth := 12) [m84_1, hin, hia, hrd, e, e2, stx, hds, hdt, hdA, hd2, hl, k1, k2, k3, k4, hsl, hic, f2, w]
        exact h2.next (eH.trans e5)
      · refine .inr ⟨fun h => h1 h.2, ?_⟩
        unfold GL
        rw [Rc_loop]
        simp (maxDischargeDepth := 12) [m84_1, hin, hia, hrd, e, e2, stx, hds, hdt, hdA, hd2, hl, k1, k2, k3, k4, hsl, hic, f2, w]
        exact h2.next (eH.trans e5)
    · rw [List.drop_zero] at f1
      have f2 := f2.eq
      refine .inr ⟨fun h => f1 (by have := h.1.2; rw [hlk] at this; exact this), ?_⟩
      simp [partC] at f2
      unfold GL
      rw [Rc_loop]
      simp (maxDischargeDepth := 12) [m84_1, hin, hia, hrd, e, e2, stx, hds, hdt, hdA, hd2, hl, k1, k2, k3, k4, hsl, hic, f2, w]
      exact eH.trans (by simp (maxDischargeDepth := 12))
open Classical in
theorem G_waits (hf : mp 84 = some (.code m84)) (h81 : mp 81 = some (.code m81)) {s : SetL} {t : TraceL} (hs : SetAt H0 s) (ht : TraceAt H0 t) (e : Ext H0 H) : GR mp 84 [.agg s.cells.toArray, .agg t.cells.toArray] H (.bool (decide (allW s t.ticks [] t.waits))) := by
  have e1 : Ext H (H ++ [.cells ⟨0, true, false⟩ s.cells, .cells ⟨0, true, false⟩ t.cells]) := ⟨_, rfl⟩
  have hx1 : (H ++ [MObj.cells ⟨0, true, false⟩ s.cells, .cells ⟨0, true, false⟩ t.cells])[H.length]? = some (.cells ⟨0, true, false⟩ s.cells) := by simp
  have hx2 : (H ++ [MObj.cells ⟨0, true, false⟩ s.cells, .cells ⟨0, true, false⟩ t.cells])[H.length + 1]? = some (.cells ⟨0, true, false⟩ t.cells) := by simp
  unfold GR
  rw [R_code hf]
  rcases waits_loop (mp := mp) h81 (hs.ext (e.trans e1)) (ht.ext (e.trans e1)) hx1 hx2 t.waits.length 0 _ (by omega) (Ext.refl _) with ⟨g1, g2⟩ | ⟨g1, g2⟩
  · rw [List.drop_zero, List.take_zero] at g1
    rw [decide_eq_true g1]
    have g2 := g2.eq
    simp [SetL.cells, TraceL.cells] at g2
    simp (maxDischargeDepth := 12) [m84, SetL.cells, TraceL.cells, ldx, g2]
  · rw [List.drop_zero, List.take_zero] at g1
    rw [decide_eq_false g1]
    have g2 := g2.eq
    simp [SetL.cells, TraceL.cells] at g2
    simp (maxDischargeDepth := 12) [m84, SetL.cells, TraceL.cells, ldx, g2]

/-! ### a trace -/
structure LegF (mp : FuncId → Option MDef) : Prop where
  p : CP mp
  h56 : mp 56 = some (.code m56)
  h58 : mp 58 = some (.code m58)
  h60 : mp 60 = some (.code m60)
  h81 : mp 81 = some (.code m81)
  h82 : mp 82 = some (.code m82)
  h83 : mp 83 = some (.code m83)
  h84 : mp 84 = some (.code m84)
  h101 : mp 101 = some (.code m101)
  srt : SrtF mp
open Classical in
theorem G_legal (hc : LegF mp) {s : SetL} {t : TraceL} (hs : SetAt H0 s) (ht : TraceAt H0 t) (e : Ext H0 H) : GR mp 58 [.agg s.cells.toArray, .agg t.cells.toArray] H (.bool (decide (legalB s t))) := by
  have hk := fun (H' : MH) (e' : Ext H0 H') => (G_checkP (H := H') hc.p hs e').eq
  unfold GR
  rw [R_code hc.h58]
  by_cases h1 : okSet s
  case neg =>
    rw [decide_eq_false fun h => h1 h.1]
    have h0 : ¬ (checkE s).2 = 0 := h1
    simp only [SetL.cells] at hk
    simp (maxDischargeDepth := 12) [m58, SetL.cells, TraceL.cells, ldnx, ldx, e, hk, h0]
  have h0 : (checkE s).2 = 0 := h1
  by_cases h2 : 0 ≤ t.ticks
  case neg =>
    rw [decide_eq_false fun h => h2 h.2.1]
    simp only [SetL.cells] at hk
    simp (maxDischargeDepth := 12) [m58, SetL.cells, TraceL.cells, ldnx, ldx, e, hk, h0, h2]
  by_cases h3 : t.ticks ≤ 20000
  case neg =>
    rw [decide_eq_false fun h => h3 h.2.2.1]
    simp only [SetL.cells] at hk
    simp (maxDischargeDepth := 12) [m58, SetL.cells, TraceL.cells, ldnx, ldx, e, hk, h0, h2, h3]
  obtain ⟨⟨⟨_, q1, _⟩, _⟩, q2, _⟩ := h1.places
  have hS := fun (H' : MH) (e' : Ext H0 H') => (G_slots (H := H') hc.h82 hc.h101 hc.srt hs ht e' q1 q2).eq
  have hJ := fun (H' : MH) (e' : Ext H0 H') => (G_jobs (H := H') hc.h83 hs ht e' q2 h3).eq
  have hW := fun (H' : MH) (e' : Ext H0 H') => (G_waits (H := H') hc.h84 hc.h81 hs ht e').eq
  have key : decide (legalB s t) = (decide (slotsB s t) && decide (allJ s t.ticks [] t.jobs) && decide (allW s t.ticks [] t.waits)) := by
    rw [Bool.eq_iff_iff, decide_eq_true_iff]
    simp only [Bool.and_eq_true, decide_eq_true_eq, legalB]
    exact ⟨fun h => ⟨⟨h.2.2.2.1, h.2.2.2.2.1⟩, h.2.2.2.2.2⟩, fun h => ⟨h1, h2, h3, h.1.1, h.1.2, h.2⟩⟩
  rw [key]
  generalize decide (slotsB s t) = x1 at hS ⊢
  generalize decide (allJ s t.ticks [] t.jobs) = x2 at hJ ⊢
  generalize decide (allW s t.ticks [] t.waits) = x3 at hW ⊢
  simp only [SetL.cells, TraceL.cells] at hk hS hJ hW
  cases x1 with
  | false => simp (maxDischargeDepth := 12) [m58, SetL.cells, TraceL.cells, ldnx, ldx, e, hk, h0, h2, h3, hS]
  | true =>
    cases x2 with
    | false => simp (maxDischargeDepth := 12) [m58, SetL.cells, TraceL.cells, ldnx, ldx, e, hk, h0, h2, h3, hS, hJ]
    | true => simp (maxDischargeDepth := 12) [m58, SetL.cells, TraceL.cells, ldnx, ldx, e, hk, h0, h2, h3, hS, hJ, hW]
end
end Go.Mod

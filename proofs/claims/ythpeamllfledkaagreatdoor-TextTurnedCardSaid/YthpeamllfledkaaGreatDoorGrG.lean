/- Sets of tasks: the reference's answer. -/
import Derived.Test.YthpeamllfledkaaGreatDoorGrF
set_option linter.unusedVariables false
set_option linter.unusedSimpArgs false
namespace Go.Mod
section
variable {mp : FuncId → Option MDef} {H0 H : MH}
theorem drop_at {α : Type} {l : List α} {i : Nat} {y : α} (hy : l[i]? = some y) : l.drop i = y :: l.drop (i + 1) := by
  obtain ⟨h, rfl⟩ := List.getElem?_eq_some_iff.1 hy
  exact List.drop_eq_getElem_cons h
/-- The reference's functions over sets, by their numbers. -/
structure ChkR (mp : FuncId → Option MDef) (rn rp ro rq rc rk : FuncId) : Prop where
  n : mp rn = some (.code cNameR)
  p : mp rp = some (.code cPartR)
  o : mp ro = some (.code (cTaskR rn rp))
  q : mp rq = some (.code cPlacesR)
  c : mp rc = some (.code (cCheckR rq ro))
  k : mp rk = some (.code (cOkR rc))
variable {rn rp ro rq rc rk : FuncId}
theorem G_partR (hc : ChkR mp rn rp ro rq rc rk) {p : PartL} {v0 v1 v3 : Value} {ah : Option Addr} {nh ch : Nat} (o0 : one v0 = true) (o1 : one v1 = true) (o3 : one v3 = true) :
    GR mp rp [.agg #[v0, v1, .slice ah nh ch, v3], .agg (partC p).toArray] H (.bool (decide (partOk nh p))) := by
  unfold GR
  rw [R_code hc.p]
  by_cases k1 : p.kind < 1
  · rw [decide_eq_false (by simp only [partOk]; omega)]; simp (maxDischargeDepth := 12) [cPartR, partC, ldx, one_unk o0, one_cells, k1]
  by_cases k2 : 3 < p.kind
  · rw [decide_eq_false (by simp only [partOk]; omega)]; simp (maxDischargeDepth := 12) [cPartR, partC, ldx, k1, k2]
  by_cases k3 : p.len < 1
  · rw [decide_eq_false (by simp only [partOk]; omega)]; simp (maxDischargeDepth := 12) [cPartR, partC, ldx, k1, k2, k3]
  by_cases k4 : 60 < p.len
  · rw [decide_eq_false (by simp only [partOk]; omega)]; simp (maxDischargeDepth := 12) [cPartR, partC, ldx, k1, k2, k3, k4]
  by_cases k5 : p.kind = 3
  · by_cases k6 : 0 ≤ p.res
    · by_cases k7 : p.res < (nh : Int)
      · rw [decide_eq_true (by simp only [partOk]; omega)]; simp (maxDischargeDepth := 12) [cPartR, partC, ldx, k3, k4, k5, k6, k7]
      · rw [decide_eq_false (by simp only [partOk]; omega)]; simp (maxDischargeDepth := 12) [cPartR, partC, ldx, k3, k4, k5, k6, k7]
    · rw [decide_eq_false (by simp only [partOk]; omega)]; simp (maxDischargeDepth := 12) [cPartR, partC, ldx, k3, k4, k5, k6]
  · by_cases k8 : p.res = 0
    · rw [decide_eq_true (by simp only [partOk]; omega)]; simp (maxDischargeDepth := 12) [cPartR, partC, ldx, k1, k2, k3, k4, k5, k8]
    · rw [decide_eq_false (by simp only [partOk]; omega)]; simp (maxDischargeDepth := 12) [cPartR, partC, ldx, k1, k2, k3, k4, k5, k8]

theorem placesR_loop1 {s : SetL} (hs : SetAt H0 s) {bx : Nat} {ix : Info} (hx : H0[bx]? = some (.cells ix s.cells)) : ∀ (k i : Nat) (H : MH), i + k = s.cores.length → Ext H0 H →
    ((∀ y ∈ s.cores.drop i, 1 ≤ y ∧ y ≤ 3) ∧ GL mp (.loop cPlacesR_1) [(1, .pointer (some ⟨bx, 0, none⟩)), (3, .int .i64 (i : Int))] H (.exit 0) [(1, .pointer (some ⟨bx, 0, none⟩)), (3, .int .i64 (s.cores.length : Int)), (25, .bool false)]) ∨
    ((¬ ∀ y ∈ s.cores.drop i, 1 ≤ y ∧ y ≤ 3) ∧ GL mp (.loop cPlacesR_1) [(1, .pointer (some ⟨bx, 0, none⟩)), (3, .int .i64 (i : Int))] H .ret [(2, .bool false)]) := by
  have hd := ldb hx
  simp only [SetL.cells] at hd
  intro k
  induction k with
  | zero =>
    intro i H hk e
    have : i = s.cores.length := by omega
    subst this
    refine .inl ⟨by simp, ?_⟩
    unfold GL
    rw [Rc_loop]
    simp (maxDischargeDepth := 12) [cPlacesR_1, hd, e]
  | succ k ih =>
    intro i H hk e
    obtain ⟨n1, _⟩ := hs.few
    have hin : i < s.cores.length := by omega
    obtain ⟨y, hy⟩ : ∃ y, s.cores[i]? = some y := ⟨_, List.getElem?_eq_getElem hin⟩
    have w : IntKind.i64.wrap ((i : Int) + 1) = (i : Int) + 1 := wrap_i64 (by omega) (by omega)
    have hrd := hs.cores.rd0 hy (by omega)
    simp only [Nat.mul_one] at hrd
    rw [drop_at hy]
    by_cases k1 : y < 1
    · refine .inr ⟨fun h => by have := h y (by simp); omega, ?_⟩
      unfold GL
      rw [Rc_loop]
      simp (maxDischargeDepth := 12) [cPlacesR_1, hd, e, hin, hs.cores.ia, hrd, intC, k1]
    by_cases k2 : 3 < y
    · refine .inr ⟨fun h => by have := h y (by simp); omega, ?_⟩
      unfold GL
      rw [Rc_loop]
      simp (maxDischargeDepth := 12) [cPlacesR_1, hd, e, hin, hs.cores.ia, hrd, intC, k1, k2]
    have hy2 : 1 ≤ y ∧ y ≤ 3 := by omega
    rcases ih (i + 1) H (by omega) e with ⟨h1, h2⟩ | ⟨h1, h2⟩
    · refine .inl ⟨by simpa [hy2] using h1, ?_⟩
      unfold GL
      rw [Rc_loop]
      simp (maxDischargeDepth := 12) [cPlacesR_1, hd, e, hin, hs.cores.ia, hrd, intC, k1, k2, w]
      exact h2
    · refine .inr ⟨by simpa [hy2] using h1, ?_⟩
      unfold GL
      rw [Rc_loop]
      simp (maxDischargeDepth := 12) [cPlacesR_1, hd, e, hin, hs.cores.ia, hrd, intC, k1, k2, w]
      exact h2
theorem placesR_loop0 {s : SetL} (hs : SetAt H0 s) {bx : Nat} {ix : Info} (hx : H0[bx]? = some (.cells ix s.cells)) : ∀ (k i : Nat) (H : MH), i + k = s.homes.length → Ext H0 H →
    ((∀ y ∈ s.homes.drop i, 0 ≤ y ∧ y < (s.cores.length : Int)) ∧ GL mp (.loop cPlacesR_0) [(1, .pointer (some ⟨bx, 0, none⟩)), (4, .int .i64 (i : Int))] H (.exit 2) [(1, .pointer (some ⟨bx, 0, none⟩)), (4, .int .i64 (s.homes.length : Int)), (46, .bool false)]) ∨
    ((¬ ∀ y ∈ s.homes.drop i, 0 ≤ y ∧ y < (s.cores.length : Int)) ∧ GL mp (.loop cPlacesR_0) [(1, .pointer (some ⟨bx, 0, none⟩)), (4, .int .i64 (i : Int))] H .ret [(2, .bool false)]) := by
  have hd := ldb hx
  simp only [SetL.cells] at hd
  intro k
  induction k with
  | zero =>
    intro i H hk e
    have : i = s.homes.length := by omega
    subst this
    refine .inl ⟨by simp, ?_⟩
    unfold GL
    rw [Rc_loop]
    simp (maxDischargeDepth := 12) [cPlacesR_0, hd, e]
  | succ k ih =>
    intro i H hk e
    obtain ⟨n1, n2, _⟩ := hs.few
    have hin : i < s.homes.length := by omega
    obtain ⟨y, hy⟩ : ∃ y, s.homes[i]? = some y := ⟨_, List.getElem?_eq_getElem hin⟩
    have w : IntKind.i64.wrap ((i : Int) + 1) = (i : Int) + 1 := wrap_i64 (by omega) (by omega)
    have hrd := hs.homes.rd0 hy (by omega)
    simp only [Nat.mul_one] at hrd
    rw [drop_at hy]
    by_cases k1 : y < 0
    · refine .inr ⟨fun h => by have := h y (by simp); omega, ?_⟩
      unfold GL
      rw [Rc_loop]
      simp (maxDischargeDepth := 12) [cPlacesR_0, mdraw_plain, hd, e, hin, hs.homes.ia, hrd, intC, k1]
    by_cases k2 : (s.cores.length : Int) ≤ y
    · refine .inr ⟨fun h => by have := h y (by simp); omega, ?_⟩
      unfold GL
      rw [Rc_loop]
      simp (maxDischargeDepth := 12) [cPlacesR_0, mdraw_plain, hd, e, hin, hs.homes.ia, hrd, intC, k1, k2]
    have hy2 : 0 ≤ y ∧ y < (s.cores.length : Int) := by omega
    rcases ih (i + 1) H (by omega) e with ⟨h1, h2⟩ | ⟨h1, h2⟩
    · refine .inl ⟨by simpa [hy2] using h1, ?_⟩
      unfold GL
      rw [Rc_loop]
      simp (maxDischargeDepth := 12) [cPlacesR_0, mdraw_plain, hd, e, hin, hs.homes.ia, hrd, intC, k1, k2, w]
      exact h2
    · refine .inr ⟨by simpa [hy2] using h1, ?_⟩
      unfold GL
      rw [Rc_loop]
      simp (maxDischargeDepth := 12) [cPlacesR_0, mdraw_plain, hd, e, hin, hs.homes.ia, hrd, intC, k1, k2, w]
      exact h2
open Classical in
theorem G_placesR (hc : ChkR mp rn rp ro rq rc rk) {s : SetL} (hs : SetAt H0 s) (e : Ext H0 H) : GR mp rq [.agg s.cells.toArray] H (.bool (decide (placesB s.cores s.homes))) := by
  have e1 : Ext H (H ++ [.cells ⟨0, true, false⟩ s.cells]) := ⟨_, rfl⟩
  have hx : (H ++ [MObj.cells ⟨0, true, false⟩ s.cells])[H.length]? = some (.cells ⟨0, true, false⟩ s.cells) := by simp
  have hs1 := hs.ext (e.trans e1)
  have hd := ldb hx
  simp only [SetL.cells] at hd
  unfold GR
  rw [R_code hc.q]
  by_cases k1 : (s.cores.length : Int) < 1
  · rw [decide_eq_false (by simp only [placesB]; omega)]
    have : s.cores.length = 0 := by omega
    simp (maxDischargeDepth := 12) [cPlacesR, SetL.cells, hd, this]
  have k1' : ¬ s.cores.length = 0 := by omega
  by_cases k2 : (3 : Int) < (s.cores.length : Int)
  · rw [decide_eq_false (by simp only [placesB]; omega)]
    simp (maxDischargeDepth := 12) [cPlacesR, SetL.cells, hd, k1, k1', k2]
  by_cases k3 : (4 : Int) < (s.homes.length : Int)
  · rw [decide_eq_false (by simp only [placesB]; omega)]
    simp (maxDischargeDepth := 12) [cPlacesR, SetL.cells, hd, k1, k1', k2, k3]
  rcases placesR_loop1 (mp := mp) hs1 hx s.cores.length 0 _ (by omega) (Ext.refl _) with ⟨g1, g2⟩ | ⟨g1, g2⟩
  · have g2 := g2.eq
    rw [List.drop_zero] at g1
    rcases placesR_loop0 (mp := mp) hs1 hx s.homes.length 0 (aftL mp (.loop cPlacesR_1) [(1, .pointer (some ⟨H.length, 0, none⟩)), (3, .int .i64 ((0 : Nat) : Int))] (H ++ [.cells ⟨0, true, false⟩ s.cells])) (by omega) (by simp) with ⟨f1, f2⟩ | ⟨f1, f2⟩
    · rw [List.drop_zero] at f1
      have f2 := f2.eq
      rw [decide_eq_true (by simp only [placesB]; exact ⟨by omega, g1, f1⟩)]
      simp [SetL.cells] at g2 f2
      simp (maxDischargeDepth := 12) [cPlacesR, SetL.cells, hd, k1, k1', k2, k3, g2, f2]
    · rw [List.drop_zero] at f1
      have f2 := f2.eq
      rw [decide_eq_false (by simp only [placesB]; exact fun h => f1 h.2.2)]
      simp [SetL.cells] at g2 f2
      simp (maxDischargeDepth := 12) [cPlacesR, SetL.cells, hd, k1, k1', k2, k3, g2, f2]
  · have g2 := g2.eq
    rw [List.drop_zero] at g1
    rw [decide_eq_false (by simp only [placesB]; exact fun h => g1 h.2.1)]
    simp [SetL.cells] at g2
    simp (maxDischargeDepth := 12) [cPlacesR, SetL.cells, hd, k1, k1', k2, k3, g2]

/-! ### a task -/
theorem taskR_loop1 {s : SetL} (hs : SetAt H0 s) {t : TaskL} {bx bt i : Nat} {ix it : Info} (hx : H0[bx]? = some (.cells ix s.cells)) (ht : H0[bt]? = some (.cells it (taskC t))) (hi : i ≤ s.tasks.length) : ∀ (k j : Nat) (H : MH), j + k = i → Ext H0 H →
    ((¬ ∃ o ∈ (s.tasks.take i).drop j, o.name = t.name ∨ o.prio = t.prio) ∧ GL mp (.loop (cTaskR_1 rn rp)) [(1, .int .i64 (i : Int)), (2, .pointer (some ⟨bx, 0, none⟩)), (5, .pointer (some ⟨bt, 0, none⟩)), (6, .int .i64 (j : Int))] H (.exit 0) [(1, .int .i64 (i : Int)), (2, .pointer (some ⟨bx, 0, none⟩)), (5, .pointer (some ⟨bt, 0, none⟩)), (6, .int .i64 (i : Int)), (62, .bool false)]) ∨
    ((∃ o ∈ (s.tasks.take i).drop j, o.name = t.name ∨ o.prio = t.prio) ∧ GL mp (.loop (cTaskR_1 rn rp)) [(1, .int .i64 (i : Int)), (2, .pointer (some ⟨bx, 0, none⟩)), (5, .pointer (some ⟨bt, 0, none⟩)), (6, .int .i64 (j : Int))] H .ret [(4, .int .i64 17)]) := by
  have hd := ldb hx
  have hd1 := ldb ht
  simp only [SetL.cells] at hd
  simp only [taskC] at hd1
  obtain ⟨n1, n2, n3, _⟩ := hs.few
  intro k
  induction k with
  | zero =>
    intro j H hk e
    have : j = i := by omega
    subst this
    refine .inl ⟨?_, ?_⟩
    · rintro ⟨o, ho, _⟩
      rw [List.drop_of_length_le (by rw [List.length_take]; omega)] at ho
      cases ho
    · unfold GL
      rw [Rc_loop]
      simp (maxDischargeDepth := 12) [cTaskR_1]
  | succ k ih =>
    intro j H hk e
    have hji : j < i := by omega
    have hin : j < s.tasks.length := by omega
    obtain ⟨y, hy⟩ : ∃ y, s.tasks[j]? = some y := ⟨_, List.getElem?_eq_getElem hin⟩
    have w : IntKind.i64.wrap ((j : Int) + 1) = (j : Int) + 1 := wrap_i64 (by omega) (by omega)
    have hrd := hs.tasks.rd hy
    have hrd0 := hs.tasks.rd0 hy (by omega)
    have hy' : (s.tasks.take i)[j]? = some y := by rw [List.getElem?_take_of_lt hji]; exact hy
    rw [drop_at hy']
    by_cases k1 : y.name = t.name
    · refine .inr ⟨⟨y, by simp, .inl k1⟩, ?_⟩
      unfold GL
      rw [Rc_loop]
      simp (maxDischargeDepth := 12) [cTaskR_1, mdraw_plain, hd, hd1, e, hin, hji, hs.tasks.ia, hrd, hrd0, taskC, ba_eq_iff, k1]
    by_cases k2 : y.prio = t.prio
    · refine .inr ⟨⟨y, by simp, .inr k2⟩, ?_⟩
      unfold GL
      rw [Rc_loop]
      simp (maxDischargeDepth := 12) [cTaskR_1, mdraw_plain, hd, hd1, e, hin, hji, hs.tasks.ia, hrd, hrd0, taskC, ba_eq_iff, k1, k2]
    rcases ih (j + 1) H (by omega) e with ⟨h1, h2⟩ | ⟨h1, h2⟩
    · refine .inl ⟨by simpa [k1, k2] using h1, ?_⟩
      unfold GL
      rw [Rc_loop]
      simp (maxDischargeDepth := 12) [cTaskR_1, mdraw_plain, hd, hd1, e, hin, hji, hs.tasks.ia, hrd, hrd0, taskC, ba_eq_iff, k1, k2, w]
      exact h2
    · refine .inr ⟨by simpa [k1, k2] using h1, ?_⟩
      unfold GL
      rw [Rc_loop]
      simp (maxDischargeDepth := 12) [cTaskR_1, mdraw_plain, hd, hd1, e, hin, hji, hs.tasks.ia, hrd, hrd0, taskC, ba_eq_iff, k1, k2, w]
      exact h2
theorem taskR_loop0 (hc : ChkR mp rn rp ro rq rc rk) {s : SetL} (hs : SetAt H0 s) {t : TaskL} (hp : RowG 3 H0 t.pa t.parts partC) (hn : t.parts.length ≤ 1000000) {bx bt : Nat} {ix it : Info} (hx : H0[bx]? = some (.cells ix s.cells)) (ht : H0[bt]? = some (.cells it (taskC t))) : ∀ (k i : Nat) (H : MH), i + k = t.parts.length → Ext H0 H →
    ((∀ p ∈ t.parts.drop i, partOk s.homes.length p) ∧ GL mp (.loop (cTaskR_0 rn rp)) [(2, .pointer (some ⟨bx, 0, none⟩)), (5, .pointer (some ⟨bt, 0, none⟩)), (7, .int .i64 (i : Int))] H (.exit 2) [(2, .pointer (some ⟨bx, 0, none⟩)), (5, .pointer (some ⟨bt, 0, none⟩)), (7, .int .i64 (t.parts.length : Int)), (99, .bool false)]) ∨
    ((¬ ∀ p ∈ t.parts.drop i, partOk s.homes.length p) ∧ GL mp (.loop (cTaskR_0 rn rp)) [(2, .pointer (some ⟨bx, 0, none⟩)), (5, .pointer (some ⟨bt, 0, none⟩)), (7, .int .i64 (i : Int))] H .ret [(4, .int .i64 15)]) := by
  have hd := ldb hx
  have hdn := ldbn hx
  have hd1 := ldb ht
  simp only [SetL.cells] at hd hdn
  simp only [taskC] at hd1
  intro k
  induction k with
  | zero =>
    intro j H hk e
    have : j = t.parts.length := by omega
    subst this
    refine .inl ⟨by simp, ?_⟩
    unfold GL
    rw [Rc_loop]
    simp (maxDischargeDepth := 12) [cTaskR_0, hd1, e]
  | succ k ih =>
    intro j H hk e
    have hin : j < t.parts.length := by omega
    obtain ⟨y, hy⟩ : ∃ y, t.parts[j]? = some y := ⟨_, List.getElem?_eq_getElem hin⟩
    have w : IntKind.i64.wrap ((j : Int) + 1) = (j : Int) + 1 := wrap_i64 (by omega) (by omega)
    have hrd := hp.rdn hy
    have cp := fun (H' : MH) => (G_partR (mp := mp) (H := H') hc (p := y) (v0 := .int .i64 s.proto) (v1 := .slice s.ca s.cores.length s.cc) (v3 := .slice s.ta s.tasks.length s.tc) (ah := s.ha) (nh := s.homes.length) (ch := s.hc) rfl rfl rfl).eq
    rw [drop_at hy]
    by_cases k1 : partOk s.homes.length y
    · rw [decide_eq_true k1] at cp
      rcases ih (j + 1) (aft mp rp [.agg #[.int .i64 s.proto, .slice s.ca s.cores.length s.cc, .slice s.ha s.homes.length s.hc, .slice s.ta s.tasks.length s.tc], .agg (partC y).toArray] H) (by omega) (by simp [e]) with ⟨h1, h2⟩ | ⟨h1, h2⟩
      · refine .inl ⟨by simpa [k1] using h1, ?_⟩
        unfold GL
        rw [Rc_loop]
        simp (maxDischargeDepth := 12) [cTaskR_0, mdraw_plain, hd, hdn, hd1, e, hin, hp.ia, hrd, cp, w]
        exact h2.next (by simp)
      · refine .inr ⟨by simpa [k1] using h1, ?_⟩
        unfold GL
        rw [Rc_loop]
        simp (maxDischargeDepth := 12) [cTaskR_0, mdraw_plain, hd, hdn, hd1, e, hin, hp.ia, hrd, cp, w]
        exact h2.next (by simp)
    · rw [decide_eq_false k1] at cp
      refine .inr ⟨by simp [k1], ?_⟩
      unfold GL
      rw [Rc_loop]
      simp (maxDischargeDepth := 12) [cTaskR_0, mdraw_plain, hd, hdn, hd1, e, hin, hp.ia, hrd, cp, w]
theorem G_taskR (hc : ChkR mp rn rp ro rq rc rk) {s : SetL} (hs : SetAt H0 s) (e : Ext H0 H) {i : Nat} {t : TaskL} (ht : s.tasks[i]? = some t) :
    GR mp ro [.agg s.cells.toArray, .int .i64 (i : Int)] H (.int .i64 (taskE s i t)) := by
  obtain ⟨n1, n2, n3, n4, n5⟩ := hs.few
  obtain ⟨n6, n7⟩ := n5 t (List.mem_of_getElem? ht)
  have hi := hs.tasks.lt ht
  have hg1 : (H ++ [MObj.cells ⟨0, true, false⟩ s.cells, .cells ⟨0, true, false⟩ (taskC t)])[H.length + 1]? = some (.cells ⟨0, true, false⟩ (taskC t)) := by simp
  have e1 : Ext H (H ++ [MObj.cells ⟨0, true, false⟩ s.cells, .cells ⟨0, true, false⟩ (taskC t)]) := ⟨_, rfl⟩
  have hg0 : (H ++ [MObj.cells ⟨0, true, false⟩ s.cells, .cells ⟨0, true, false⟩ (taskC t)])[H.length]? = some (.cells ⟨0, true, false⟩ s.cells) := by simp
  have hs1 := hs.ext (e.trans e1)
  have hp1 := hs1.parts t (List.mem_of_getElem? ht)
  have hdA : ∀ o, mread (.ld none) [.pointer (some ⟨H.length, o, none⟩)] (H ++ [MObj.cells ⟨0, true, false⟩ s.cells]) = knownO s.cells[o]? := fun o => ldb (H0 := H ++ [MObj.cells ⟨0, true, false⟩ s.cells]) (b := H.length) (i := ⟨0, true, false⟩) (by simp) _ o (Ext.refl _)
  have hd0 := ldb hg0
  have hd1 := ldb hg1
  have hrd := hs.tasks.rdn ht
  obtain ⟨r, _, hr2⟩ := R_nameR (mp := mp) (H := H) hc.n (s := t.name) n6
  have cn : ∀ H' : MH, R mp rn [.string t.name] H' = some (.bool r, H') := fun H' => by
    obtain ⟨r', a1, a2⟩ := R_nameR (mp := mp) (H := H') hc.n (s := t.name) n6
    rw [a1]
    have : r' = r := by rw [Bool.eq_iff_iff, a2, hr2]
    rw [this]
  have l1 := taskR_loop1 (mp := mp) (rn := rn) (rp := rp) hs1 hg0 hg1 (by omega : i ≤ s.tasks.length) i 0 _ (by omega) (Ext.refl _)
  simp only [SetL.cells, taskC] at hdA hd0 hd1 hrd
  unfold GR
  rw [R_code hc.o]
  unfold taskE
  by_cases kn : nameB t.name
  case neg =>
    have : r = false := by
      cases r with
      | false => rfl
      | true => exact absurd (hr2.1 rfl) kn
    subst this
    rw [if_pos (fun h => kn h.1)]
    simp (maxDischargeDepth := 12) [cTaskR, SetL.cells, hi, hs.tasks.ia, hrd, e, stx, hdA, hd0, hd1, cn]
  have := hr2.2 kn
  subst this
  by_cases k1 : t.period < 1
  · rw [if_pos (by simp only [formOk]; omega)]
    simp (maxDischargeDepth := 12) [cTaskR, SetL.cells, hi, hs.tasks.ia, hrd, e, stx, hdA, hd0, hd1, cn, k1]
  by_cases k2 : 3000 < t.period
  · rw [if_pos (by simp only [formOk]; omega)]
    simp (maxDischargeDepth := 12) [cTaskR, SetL.cells, hi, hs.tasks.ia, hrd, e, stx, hdA, hd0, hd1, cn, k1, k2]
  by_cases k3 : t.deadline < 1
  · rw [if_pos (by simp only [formOk]; omega)]
    simp (maxDischargeDepth := 12) [cTaskR, SetL.cells, hi, hs.tasks.ia, hrd, e, stx, hdA, hd0, hd1, cn, k1, k2, k3]
  by_cases k4 : t.period < t.deadline
  · rw [if_pos (by simp only [formOk]; omega)]
    simp (maxDischargeDepth := 12) [cTaskR, SetL.cells, hi, hs.tasks.ia, hrd, e, stx, hdA, hd0, hd1, cn, k1, k2, k3, k4]
  by_cases k5 : t.prio < 1
  · rw [if_pos (by simp only [formOk]; omega)]
    simp (maxDischargeDepth := 12) [cTaskR, SetL.cells, hi, hs.tasks.ia, hrd, e, stx, hdA, hd0, hd1, cn, k1, k2, k3, k4, k5]
  by_cases k6 : 1000 < t.prio
  · rw [if_pos (by simp only [formOk]; omega)]
    simp (maxDischargeDepth := 12) [cTaskR, SetL.cells, hi, hs.tasks.ia, hrd, e, stx, hdA, hd0, hd1, cn, k1, k2, k3, k4, k5, k6]
  have hform : formOk t := ⟨kn, by omega, by omega, by omega⟩
  rw [if_neg (by simp [hform])]
  by_cases c1 : t.cluster < 0
  · rw [if_pos (by omega)]
    simp (maxDischargeDepth := 12) [cTaskR, SetL.cells, hi, hs.tasks.ia, hrd, e, stx, hdA, hd0, hd1, cn, k1, k2, k3, k4, k5, k6, c1]
  by_cases c2 : (s.cores.length : Int) ≤ t.cluster
  · rw [if_pos (by omega)]
    simp (maxDischargeDepth := 12) [cTaskR, SetL.cells, hi, hs.tasks.ia, hrd, e, stx, hdA, hd0, hd1, cn, k1, k2, k3, k4, k5, k6, c1, c2]
  rw [if_neg (by omega)]
  rcases l1 with ⟨g1, g2⟩ | ⟨g1, g2⟩
  · rw [List.drop_zero] at g1
    have g2 := g2.eq
    rw [if_neg g1]
    simp [SetL.cells, taskC] at g2
    by_cases p1 : (t.parts.length : Int) < 1
    · rw [if_pos (by simp only [partsOk]; omega)]
      have : t.parts.length = 0 := by omega
      simp only [this] at g2 hd0 hd1 hrd
      simp (maxDischargeDepth := 12) [cTaskR, SetL.cells, hi, hs.tasks.ia, hrd, e, stx, hdA, hd0, hd1, cn, k1, k2, k3, k4, k5, k6, c1, c2, g2, this]
    have p1' : ¬ t.parts.length = 0 := by omega
    by_cases p2 : (6 : Int) < (t.parts.length : Int)
    · rw [if_pos (by simp only [partsOk]; omega)]
      simp (maxDischargeDepth := 12) [cTaskR, SetL.cells, hi, hs.tasks.ia, hrd, e, stx, hdA, hd0, hd1, cn, k1, k2, k3, k4, k5, k6, c1, c2, g2, p1, p1', p2]
    have l0 := taskR_loop0 (mp := mp) hc hs1 hp1 n7 hg0 hg1 t.parts.length 0 (aftL mp (.loop (cTaskR_1 rn rp)) [(1, .int .i64 (i : Int)), (2, .pointer (some ⟨H.length, 0, none⟩)), (5, .pointer (some ⟨H.length + 1, 0, none⟩)), (6, .int .i64 ((0 : Nat) : Int))] (H ++ [MObj.cells ⟨0, true, false⟩ s.cells, .cells ⟨0, true, false⟩ (taskC t)])) (by omega) (by simp)
    rcases l0 with ⟨f1, f2⟩ | ⟨f1, f2⟩
    · rw [List.drop_zero] at f1
      have f2 := f2.eq
      rw [if_neg (by simp only [partsOk]; exact fun h => h ⟨f1, by omega, by omega⟩)]
      simp [SetL.cells, taskC] at f2
      simp (maxDischargeDepth := 12) [cTaskR, SetL.cells, hi, hs.tasks.ia, hrd, e, stx, hdA, hd0, hd1, cn, k1, k2, k3, k4, k5, k6, c1, c2, g2, p1, p1', p2, f2]
    · rw [List.drop_zero] at f1
      have f2 := f2.eq
      rw [if_pos (by simp only [partsOk]; exact fun h => f1 h.1)]
      simp [SetL.cells, taskC] at f2
      simp (maxDischargeDepth := 12) [cTaskR, SetL.cells, hi, hs.tasks.ia, hrd, e, stx, hdA, hd0, hd1, cn, k1, k2, k3, k4, k5, k6, c1, c2, g2, p1, p1', p2, f2]
  · rw [List.drop_zero] at g1
    have g2 := g2.eq
    rw [if_pos g1]
    simp [SetL.cells, taskC] at g2
    simp (maxDischargeDepth := 12) [cTaskR, SetL.cells, hi, hs.tasks.ia, hrd, e, stx, hdA, hd0, hd1, cn, k1, k2, k3, k4, k5, k6, c1, c2, g2]

/-! ### a set -/
theorem checkR_loop (hc : ChkR mp rn rp ro rq rc rk) {s : SetL} (hs : SetAt H0 s) {bx : Nat} {ix : Info} (hx : H0[bx]? = some (.cells ix s.cells)) : ∀ (k i : Nat) (H : MH), i + k = s.tasks.length → Ext H0 H →
    ((firstE s i (s.tasks.drop i)).2 = 0 ∧ firstE s i (s.tasks.drop i) = (-1, 0) ∧ GL mp (.loop (cCheckR_0 rq ro)) [(1, .pointer (some ⟨bx, 0, none⟩)), (4, .int .i64 (i : Int))] H (.exit 1) [(1, .pointer (some ⟨bx, 0, none⟩)), (4, .int .i64 (s.tasks.length : Int)), (33, .bool false)]) ∨
    ((firstE s i (s.tasks.drop i)).2 ≠ 0 ∧ GL mp (.loop (cCheckR_0 rq ro)) [(1, .pointer (some ⟨bx, 0, none⟩)), (4, .int .i64 (i : Int))] H .ret [(2, .int .i64 (firstE s i (s.tasks.drop i)).1), (3, .int .i64 (firstE s i (s.tasks.drop i)).2)]) := by
  have hd := ldb hx
  have hdn := ldbn hx
  simp only [SetL.cells] at hdn hd
  intro k
  induction k with
  | zero =>
    intro i H hk e
    have : i = s.tasks.length := by omega
    subst this
    refine .inl ⟨by simp [firstE], by simp [firstE], ?_⟩
    unfold GL
    rw [Rc_loop]
    simp (maxDischargeDepth := 12) [cCheckR_0, hd, e]
  | succ k ih =>
    intro i H hk e
    obtain ⟨n1, n2, n3, n4, n5⟩ := hs.few
    have hin : i < s.tasks.length := by omega
    obtain ⟨t, ht⟩ : ∃ p, s.tasks[i]? = some p := ⟨_, List.getElem?_eq_getElem hin⟩
    have w : IntKind.i64.wrap ((i : Int) + 1) = (i : Int) + 1 := wrap_i64 (by omega) (by omega)
    have ho := fun (H' : MH) (e' : Ext H0 H') => (G_taskR (H := H') hc hs e' ht).eq
    simp only [SetL.cells] at ho
    rw [drop_at ht]
    by_cases h0 : taskE s i t = 0
    · rw [h0] at ho
      have hfe : firstE s i (t :: s.tasks.drop (i + 1)) = firstE s (i + 1) (s.tasks.drop (i + 1)) := by simp only [firstE]; rw [if_pos h0]
      rw [hfe]
      rcases ih (i + 1) (aft mp ro [.agg s.cells.toArray, .int .i64 (i : Int)] H) (by omega) (by simp [e]) with ⟨h1, h2, h3⟩ | ⟨h1, h3⟩
      · refine .inl ⟨h1, h2, ?_⟩
        unfold GL
        rw [Rc_loop]
        simp (maxDischargeDepth := 12) [cCheckR_0, hin, hd, hdn, e, ho, w]
        exact h3.next (by simp)
      · refine .inr ⟨h1, ?_⟩
        unfold GL
        rw [Rc_loop]
        simp (maxDischargeDepth := 12) [cCheckR_0, hin, hd, hdn, e, ho, w]
        exact h3.next (by simp)
    · have hfe : firstE s i (t :: s.tasks.drop (i + 1)) = ((i : Int), taskE s i t) := by simp only [firstE]; rw [if_neg h0]
      rw [hfe]
      refine .inr ⟨h0, ?_⟩
      unfold GL
      rw [Rc_loop]
      simp (maxDischargeDepth := 12) [cCheckR_0, hin, hd, hdn, e, ho, w, h0]
open Classical in
theorem G_checkR (hc : ChkR mp rn rp ro rq rc rk) {s : SetL} (hs : SetAt H0 s) (e : Ext H0 H) : GR mp rc [.agg s.cells.toArray] H (.tuple #[.int .i64 (checkE s).1, .int .i64 (checkE s).2]) := by
  have e1 : Ext H (H ++ [.cells ⟨0, true, false⟩ s.cells]) := ⟨_, rfl⟩
  have hx : (H ++ [MObj.cells ⟨0, true, false⟩ s.cells])[H.length]? = some (.cells ⟨0, true, false⟩ s.cells) := by simp
  have hq := fun (H' : MH) (e' : Ext H0 H') => (G_placesR (H := H') hc hs e').eq
  have hd := ldb hx
  have hdn := ldbn hx
  simp only [SetL.cells] at hd hdn hq
  unfold GR
  rw [R_code hc.c]
  unfold checkE
  by_cases h1 : s.proto < 1
  · rw [if_pos (by omega)]
    simp (maxDischargeDepth := 12) [cCheckR, SetL.cells, hd, h1]
  by_cases h1' : 3 < s.proto
  · rw [if_pos (by omega)]
    simp (maxDischargeDepth := 12) [cCheckR, SetL.cells, hd, h1, h1']
  rw [if_neg (by omega)]
  by_cases h2 : placesB s.cores s.homes
  · rw [if_neg (by simp [h2])]
    rw [decide_eq_true h2] at hq
    by_cases h3 : 6 < s.tasks.length
    · rw [if_pos h3]
      have h3' : (6 : Int) < (s.tasks.length : Int) := by omega
      simp (maxDischargeDepth := 12) [cCheckR, SetL.cells, hd, hdn, h1, h1', e, hq, h3']
    · rw [if_neg h3]
      have h3' : ¬ (6 : Int) < (s.tasks.length : Int) := by omega
      by_cases h4 : s.tasks = []
      · rw [if_pos h4]
        have hl : s.tasks.length = 0 := by rw [h4]; rfl
        rw [hl] at hq hd hdn
        simp (maxDischargeDepth := 12) [cCheckR, SetL.cells, hd, hdn, h1, h1', e, hq, hl]
      · rw [if_neg h4]
        have h4' : ¬ s.tasks.length = 0 := fun h => h4 (List.eq_nil_of_length_eq_zero h)
        rcases checkR_loop (mp := mp) hc (hs.ext (e.trans e1)) hx s.tasks.length 0 (aft mp rq [.agg s.cells.toArray] (H ++ [.cells ⟨0, true, false⟩ s.cells])) (by omega) (by simp) with ⟨g1, g2, g3⟩ | ⟨g1, g3⟩
        · rw [List.drop_zero] at g2
          have g3 := g3.eq
          rw [g2]
          simp [SetL.cells] at g3
          simp (maxDischargeDepth := 12) [cCheckR, SetL.cells, hd, hdn, h1, h1', e, hq, h3', h4', h4, g3]
        · rw [List.drop_zero] at g3
          have g3 := g3.eq
          simp [SetL.cells] at g3
          simp (maxDischargeDepth := 12) [cCheckR, SetL.cells, hd, hdn, h1, h1', e, hq, h3', h4', h4, g3]
  · rw [if_pos h2]
    rw [decide_eq_false h2] at hq
    simp (maxDischargeDepth := 12) [cCheckR, SetL.cells, hd, hdn, h1, h1', e, hq]
theorem G_okR (hc : ChkR mp rn rp ro rq rc rk) {s : SetL} (hs : SetAt H0 s) (e : Ext H0 H) [Decidable (okSet s)] : GR mp rk [.agg s.cells.toArray] H (.bool (decide (okSet s))) := by
  have hk := fun (H' : MH) (e' : Ext H0 H') => (G_checkR (H := H') hc hs e').eq
  simp only [SetL.cells] at hk
  have : decide (okSet s) = decide ((checkE s).2 = 0) := by rw [decide_eq_decide]; rfl
  rw [this]
  unfold GR
  rw [R_code hc.k]
  by_cases h : (checkE s).2 = 0
  · simp (maxDischargeDepth := 12) [cOkR, SetL.cells, ldnx, e, hk, h]
  · simp (maxDischargeDepth := 12) [cOkR, SetL.cells, ldnx, e, hk, h]
end
end Go.Mod
/- Sets of tasks as arguments. -/
set_option linter.unusedVariables false
set_option linter.unusedSimpArgs false
namespace Go.Mod

/-- An argument's row, as records of which more is known. -/
theorem rep_rowG {α : Type} {f : α → List Value} {Q : α → Prop} {fs : List Sh} {H : MH} {v : Value} {d : D} (h : Rep H (.row fs) v d) (hd : ∀ ms ds, RepL H fs ms ds → ∃ x : α, ms = f x ∧ Q x ∧ (f x).all one = true) :
    ∃ (a : Option Addr) (l : List α), v = .slice a l.length l.length ∧ RowG fs.length H a l f ∧ (∀ x ∈ l, Q x) ∧ l.length ≤ maxLen := by
  cases h with
  | nil => exact ⟨none, [], rfl, RowG.nil, by simp, by simp⟩
  | row hB hn hm hl hw h =>
    rename_i b n cs ds
    obtain ⟨l, h1, h2⟩ := choose_list (α := α) (n := n) (p := fun i x => (cs.drop (i * fs.length)).take fs.length = f x ∧ Q x ∧ (f x).all one = true) (fun i hi => by
      have hd' : ds[i]? = some ds[i] := List.getElem?_eq_getElem (by omega)
      have := Rep.cells (H := H) (fs := fs) (b := b) hn hl hw h hd'
      exact hd _ _ this)
    refine ⟨some ⟨b, 0, none⟩, l, by rw [h1], ⟨.inr rfl, fun k x hx => ?_, fun x hx => ?_⟩, fun x hx => ?_, by omega⟩
    · exact ⟨_, cs, hB, rfl, by rw [h1]; show 0 + n * fs.length ≤ cs.length; omega, by show (cs.drop (0 + k * fs.length)).take fs.length = f x; rw [Nat.zero_add]; exact (h2 k x hx).1⟩
    · obtain ⟨i, hi⟩ := List.mem_iff_getElem?.1 hx
      have hil := (List.getElem?_eq_some_iff.1 hi).1
      have hm := Nat.mul_le_mul_right fs.length (show i + 1 ≤ n by omega)
      rw [Nat.add_mul] at hm
      obtain ⟨g1, g2, g3⟩ := h2 i x hi
      exact ⟨by rw [← g1]; simp; omega, g3⟩
    · obtain ⟨i, hi⟩ := List.mem_iff_getElem?.1 hx
      exact (h2 i x hi).2.1
theorem repL1 {H : MH} {f0 : Sh} {ms : List Value} {ds : List D} (h : RepL H [f0] ms ds) : ∃ m0 d0, ms = [m0] ∧ Rep H f0 m0 d0 := by
  have h1 := h.ml
  have h2 := h.dl
  match ms, ds, h1, h2 with
  | [m0], [d0], _, _ => exact ⟨m0, d0, rfl, h.at_ 0 f0 m0 d0 rfl rfl rfl⟩
theorem repL3 {H : MH} {f0 f1 f2 : Sh} {ms : List Value} {ds : List D} (h : RepL H [f0, f1, f2] ms ds) : ∃ m0 m1 m2 d0 d1 d2, ms = [m0, m1, m2] ∧ Rep H f0 m0 d0 ∧ Rep H f1 m1 d1 ∧ Rep H f2 m2 d2 := by
  have h1 := h.ml
  have h2 := h.dl
  match ms, ds, h1, h2 with
  | [m0, m1, m2], [d0, d1, d2], _, _ => exact ⟨m0, m1, m2, d0, d1, d2, rfl, h.at_ 0 f0 m0 d0 rfl rfl rfl, h.at_ 1 f1 m1 d1 rfl rfl rfl, h.at_ 2 f2 m2 d2 rfl rfl rfl⟩
theorem repL4 {H : MH} {f0 f1 f2 f3 : Sh} {ms : List Value} {ds : List D} (h : RepL H [f0, f1, f2, f3] ms ds) : ∃ m0 m1 m2 m3 d0 d1 d2 d3, ms = [m0, m1, m2, m3] ∧ Rep H f0 m0 d0 ∧ Rep H f1 m1 d1 ∧ Rep H f2 m2 d2 ∧ Rep H f3 m3 d3 := by
  have h1 := h.ml
  have h2 := h.dl
  match ms, ds, h1, h2 with
  | [m0, m1, m2, m3], [d0, d1, d2, d3], _, _ => exact ⟨m0, m1, m2, m3, d0, d1, d2, d3, rfl, h.at_ 0 f0 m0 d0 rfl rfl rfl, h.at_ 1 f1 m1 d1 rfl rfl rfl, h.at_ 2 f2 m2 d2 rfl rfl rfl, h.at_ 3 f3 m3 d3 rfl rfl rfl⟩
theorem repL5 {H : MH} {f0 f1 f2 f3 f4 : Sh} {ms : List Value} {ds : List D} (h : RepL H [f0, f1, f2, f3, f4] ms ds) : ∃ m0 m1 m2 m3 m4 d0 d1 d2 d3 d4, ms = [m0, m1, m2, m3, m4] ∧ Rep H f0 m0 d0 ∧ Rep H f1 m1 d1 ∧ Rep H f2 m2 d2 ∧ Rep H f3 m3 d3 ∧ Rep H f4 m4 d4 := by
  have h1 := h.ml
  have h2 := h.dl
  match ms, ds, h1, h2 with
  | [m0, m1, m2, m3, m4], [d0, d1, d2, d3, d4], _, _ => exact ⟨m0, m1, m2, m3, m4, d0, d1, d2, d3, d4, rfl, h.at_ 0 f0 m0 d0 rfl rfl rfl, h.at_ 1 f1 m1 d1 rfl rfl rfl, h.at_ 2 f2 m2 d2 rfl rfl rfl, h.at_ 3 f3 m3 d3 rfl rfl rfl, h.at_ 4 f4 m4 d4 rfl rfl rfl⟩
theorem repL6 {H : MH} {f0 f1 f2 f3 f4 f5 : Sh} {ms : List Value} {ds : List D} (h : RepL H [f0, f1, f2, f3, f4, f5] ms ds) : ∃ m0 m1 m2 m3 m4 m5 d0 d1 d2 d3 d4 d5, ms = [m0, m1, m2, m3, m4, m5] ∧ Rep H f0 m0 d0 ∧ Rep H f1 m1 d1 ∧ Rep H f2 m2 d2 ∧ Rep H f3 m3 d3 ∧ Rep H f4 m4 d4 ∧ Rep H f5 m5 d5 := by
  have h1 := h.ml
  have h2 := h.dl
  match ms, ds, h1, h2 with
  | [m0, m1, m2, m3, m4, m5], [d0, d1, d2, d3, d4, d5], _, _ => exact ⟨m0, m1, m2, m3, m4, m5, d0, d1, d2, d3, d4, d5, rfl, h.at_ 0 f0 m0 d0 rfl rfl rfl, h.at_ 1 f1 m1 d1 rfl rfl rfl, h.at_ 2 f2 m2 d2 rfl rfl rfl, h.at_ 3 f3 m3 d3 rfl rfl rfl, h.at_ 4 f4 m4 d4 rfl rfl rfl, h.at_ 5 f5 m5 d5 rfl rfl rfl⟩
/-- A set of whatever size, as it lies. -/
structure SetRaw (H : MH) (s : SetL) : Prop where
  cores : RowG 1 H s.ca s.cores intC
  homes : RowG 1 H s.ha s.homes intC
  tasks : RowG 6 H s.ta s.tasks taskC
  parts : ∀ t ∈ s.tasks, RowG 3 H t.pa t.parts partC
  tc : s.tasks.length ≤ s.tc
theorem SetRaw.ext {H H1 : MH} {s : SetL} (h : SetRaw H s) (e : Ext H H1) : SetRaw H1 s := ⟨h.cores.ext e, h.homes.ext e, h.tasks.ext e, fun t ht => (h.parts t ht).ext e, h.tc⟩
def shPart : List Sh := [.int .i64, .int .i64, .int .i64]
def shTask : List Sh := [.str, .int .i64, .int .i64, .int .i64, .int .i64, .row shPart]
def shSet : List Sh := [.int .i64, .row [.int .i64], .row [.int .i64], .row shTask]
theorem rep_int1 {H : MH} {ms : List Value} {ds : List D} (h : RepL H [.int .i64] ms ds) : ∃ x : Int, ms = intC x ∧ True ∧ (intC x).all one = true := by
  obtain ⟨m0, d0, rfl, g⟩ := repL1 h
  cases g
  exact ⟨_, rfl, trivial, rfl⟩
theorem rep_part {H : MH} {ms : List Value} {ds : List D} (h : RepL H shPart ms ds) : ∃ x : PartL, ms = partC x ∧ True ∧ (partC x).all one = true := by
  obtain ⟨m0, m1, m2, d0, d1, d2, rfl, g0, g1, g2⟩ := repL3 h
  cases g0; cases g1; cases g2
  exact ⟨⟨_, _, _⟩, rfl, trivial, rfl⟩
theorem rep_task {H : MH} {ms : List Value} {ds : List D} (h : RepL H shTask ms ds) : ∃ x : TaskL, ms = taskC x ∧ RowG 3 H x.pa x.parts partC ∧ (taskC x).all one = true := by
  obtain ⟨m0, m1, m2, m3, m4, m5, d0, d1, d2, d3, d4, d5, rfl, g0, g1, g2, g3, g4, g5⟩ := repL6 h
  cases g0; cases g1; cases g2; cases g3; cases g4
  obtain ⟨a, l, rfl, hr, _, _⟩ := rep_rowG g5 fun ms ds h => rep_part h
  exact ⟨⟨_, _, _, _, _, a, l.length, l⟩, rfl, hr, rfl⟩
theorem rep_set {H : MH} {ms : List Value} {ds : List D} (h : RepL H shSet ms ds) : ∃ s : SetL, ms = s.cells ∧ SetRaw H s := by
  obtain ⟨m0, m1, m2, m3, d0, d1, d2, d3, rfl, g0, g1, g2, g3⟩ := repL4 h
  cases g0
  obtain ⟨a1, l1, rfl, r1, _, _⟩ := rep_rowG g1 fun ms ds h => rep_int1 h
  obtain ⟨a2, l2, rfl, r2, _, _⟩ := rep_rowG g2 fun ms ds h => rep_int1 h
  obtain ⟨a3, l3, rfl, r3, q3, _⟩ := rep_rowG g3 fun ms ds h => rep_task h
  exact ⟨⟨_, l1, a1, l1.length, l2, a2, l2.length, l3, a3, l3.length⟩, rfl, r1, r2, r3, q3, Nat.le_refl _⟩

/-! ### is it small -/
/-- 'few' -/
def cFew_0 : MCode := .seq (.seq (.ops [⟨(some 20), .mov, [.r 3], none, []⟩,
      ⟨(some 21), .fa 3, [.r 1], none, []⟩,
      ⟨(some 22), .ld none, [.r 21], none, [21]⟩,
      ⟨(some 23), .len, [.r 22], none, [22]⟩,
      ⟨(some 24), .bin .lss, [.r 20, .r 23], none, [20, 23]⟩]) <|
    .cond (.r 24)
      (.skip)
      (.exit 0)) <|
    .seq (.block 1 (.seq (.ops [⟨(some 27), .fa 3, [.r 1], none, [24]⟩,
        ⟨(some 28), .ld none, [.r 27], none, [27]⟩,
        ⟨(some 29), .mov, [.r 3], none, []⟩,
        ⟨(some 30), .ia 6, [.r 28, .r 29], none, [28, 29]⟩,
        ⟨(some 31), .fa 0, [.r 30], none, [30]⟩,
        ⟨(some 32), .ld none, [.r 31], none, [31]⟩,
        ⟨(some 33), .lens, [.r 32], none, [32]⟩,
        ⟨(some 34), .bin .gtr, [.r 33, .k (.int .i64 20)], none, [33]⟩,
        ⟨(some 35), .mov, [.r 34], none, [34]⟩,
        ⟨(some 36), .fa 3, [.r 1], (some (35, false)), []⟩,
        ⟨(some 37), .ld none, [.r 36], (some (35, false)), [36]⟩,
        ⟨(some 38), .mov, [.r 3], (some (35, false)), []⟩,
        ⟨(some 39), .ia 6, [.r 37, .r 38], (some (35, false)), [37, 38]⟩,
        ⟨(some 40), .fa 5, [.r 39], (some (35, false)), [39]⟩,
        ⟨(some 41), .ld none, [.r 40], (some (35, false)), [40]⟩,
        ⟨(some 42), .len, [.r 41], (some (35, false)), [41]⟩,
        ⟨(some 43), .bin .gtr, [.r 42, .k (.int .i64 10)], (some (35, false)), [42]⟩,
        ⟨(some 44), .pick, [.r 35, .k (.bool true), .r 43], none, [35, 43]⟩]) <|
      .cond (.r 44)
        (.seq (.ops [⟨(some 2), .mov, [.k (.bool false)], none, [1, 3, 44]⟩]) <|
        .ret)
        (.skip))) <|
    .ops [⟨(some 25), .mov, [.r 3], none, [3, 44]⟩,
      ⟨(some 26), .bin .add, [.r 25, .k (.int .i64 1)], none, [25]⟩,
      ⟨(some 3), .mov, [.r 26], none, [26]⟩]
def cFew : MFn := ⟨[.tmp 2], .seq (.ops [⟨(some 1), .box, [.r 0], none, [0]⟩,
  ⟨(some 2), .mov, [.k (.bool false)], none, [2]⟩]) <|
.seq (.seq (.ops [⟨(some 4), .fa 1, [.r 1], none, []⟩,
  ⟨(some 5), .ld none, [.r 4], none, [4]⟩,
  ⟨(some 6), .len, [.r 5], none, [5]⟩,
  ⟨(some 7), .bin .gtr, [.r 6, .k (.int .i64 8)], none, [6]⟩,
  ⟨(some 8), .mov, [.r 7], none, [7]⟩,
  ⟨(some 9), .fa 2, [.r 1], (some (8, false)), []⟩,
  ⟨(some 10), .ld none, [.r 9], (some (8, false)), [9]⟩,
  ⟨(some 11), .len, [.r 10], (some (8, false)), [10]⟩,
  ⟨(some 12), .bin .gtr, [.r 11, .k (.int .i64 10)], (some (8, false)), [11]⟩,
  ⟨(some 13), .pick, [.r 8, .k (.bool true), .r 12], none, [8, 12]⟩,
  ⟨(some 14), .mov, [.r 13], none, [13]⟩,
  ⟨(some 15), .fa 3, [.r 1], (some (14, false)), []⟩,
  ⟨(some 16), .ld none, [.r 15], (some (14, false)), [15]⟩,
  ⟨(some 17), .len, [.r 16], (some (14, false)), [16]⟩,
  ⟨(some 18), .bin .gtr, [.r 17, .k (.int .i64 9)], (some (14, false)), [17]⟩,
  ⟨(some 19), .pick, [.r 14, .k (.bool true), .r 18], none, [14, 18]⟩]) <|
.cond (.r 19)
  (.seq (.ops [⟨(some 2), .mov, [.k (.bool false)], none, [1, 19]⟩]) <|
  .ret)
  (.skip)) <|
.seq (.seq (.ops [⟨(some 3), .mov, [.k (.int .i64 0)], none, [19]⟩]) <|
.block 0 (.loop cFew_0)) <|
.seq (.ops [⟨(some 2), .mov, [.k (.bool true)], none, [1, 3, 24]⟩]) <|
.ret⟩
def fewS (s : SetL) : Prop := s.cores.length ≤ 8 ∧ s.homes.length ≤ 10 ∧ s.tasks.length ≤ 9 ∧ ∀ t ∈ s.tasks, t.name.size ≤ 20 ∧ t.parts.length ≤ 10
theorem SetRaw.at {H : MH} {s : SetL} (h : SetRaw H s) (f : fewS s) : SetAt H s := ⟨h.cores, h.homes, h.tasks, h.parts, by have := f.1; omega, by have := f.2.1; omega, by have := f.2.2.1; omega, h.tc, fun t ht => by have := f.2.2.2 t ht; omega⟩
section
variable {mp : FuncId → Option MDef} {H0 H : MH}
theorem few_loop {s : SetL} (hs : SetRaw H0 s) (h9 : s.tasks.length ≤ 9) {bx : Nat} {ix : Info} (hx : H0[bx]? = some (.cells ix s.cells)) : ∀ (k i : Nat) (H : MH), i + k = s.tasks.length → Ext H0 H →
    ((∀ t ∈ s.tasks.drop i, t.name.size ≤ 20 ∧ t.parts.length ≤ 10) ∧ GL mp (.loop cFew_0) [(1, .pointer (some ⟨bx, 0, none⟩)), (3, .int .i64 (i : Int))] H (.exit 0) [(1, .pointer (some ⟨bx, 0, none⟩)), (3, .int .i64 (s.tasks.length : Int)), (24, .bool false)]) ∨
    ((¬ ∀ t ∈ s.tasks.drop i, t.name.size ≤ 20 ∧ t.parts.length ≤ 10) ∧ GL mp (.loop cFew_0) [(1, .pointer (some ⟨bx, 0, none⟩)), (3, .int .i64 (i : Int))] H .ret [(2, .bool false)]) := by
  have hd := ldb hx
  simp only [SetL.cells] at hd
  intro k
  induction k with
  | zero =>
    intro i H hk e
    have : i = s.tasks.length := by omega
    subst this
    refine .inl ⟨by simp, ?_⟩
    unfold GL
    rw [Rc_loop]
    simp [cFew_0, hd, e]
  | succ k ih =>
    intro i H hk e
    have hin : i < s.tasks.length := by omega
    obtain ⟨t, ht⟩ : ∃ y, s.tasks[i]? = some y := ⟨_, List.getElem?_eq_getElem hin⟩
    have w : IntKind.i64.wrap ((i : Int) + 1) = (i : Int) + 1 := wrap_i64 (by omega) (by omega)
    have hrd := hs.tasks.rd ht
    have hrd0 := hs.tasks.rd0 ht (by omega)
    rw [drop_at ht]
    by_cases k1 : (20 : Int) < (t.name.size : Int)
    · refine .inr ⟨fun h => by have := h t (by simp); omega, ?_⟩
      unfold GL
      rw [Rc_loop]
      simp (maxDischargeDepth := 12) [cFew_0, hd, e, hin, hs.tasks.ia, hrd, hrd0, taskC, k1]
    by_cases k2 : (10 : Int) < (t.parts.length : Int)
    · refine .inr ⟨fun h => by have := h t (by simp); omega, ?_⟩
      unfold GL
      rw [Rc_loop]
      simp (maxDischargeDepth := 12) [cFew_0, hd, e, hin, hs.tasks.ia, hrd, hrd0, taskC, k1, k2]
    have ht2 : t.name.size ≤ 20 ∧ t.parts.length ≤ 10 := by omega
    rcases ih (i + 1) H (by omega) e with ⟨h1, h2⟩ | ⟨h1, h2⟩
    · refine .inl ⟨by simpa [ht2] using h1, ?_⟩
      unfold GL
      rw [Rc_loop]
      simp (maxDischargeDepth := 12) [cFew_0, hd, e, hin, hs.tasks.ia, hrd, hrd0, taskC, k1, k2, w]
      exact h2
    · refine .inr ⟨by simpa [ht2] using h1, ?_⟩
      unfold GL
      rw [Rc_loop]
      simp (maxDischargeDepth := 12) [cFew_0, hd, e, hin, hs.tasks.ia, hrd, hrd0, taskC, k1, k2, w]
      exact h2
open Classical in
theorem G_few {f : FuncId} (hf : mp f = some (.code cFew)) {s : SetL} (hs : SetRaw H0 s) (e : Ext H0 H) : GR mp f [.agg s.cells.toArray] H (.bool (decide (fewS s))) := by
  have e1 : Ext H (H ++ [.cells ⟨0, true, false⟩ s.cells]) := ⟨_, rfl⟩
  have hx : (H ++ [MObj.cells ⟨0, true, false⟩ s.cells])[H.length]? = some (.cells ⟨0, true, false⟩ s.cells) := by simp
  have hd := ldb hx
  simp only [SetL.cells] at hd
  unfold GR
  rw [R_code hf]
  by_cases k1 : (8 : Int) < (s.cores.length : Int)
  · rw [decide_eq_false fun h => by have := h.1; omega]
    simp (maxDischargeDepth := 12) [cFew, SetL.cells, hd, k1]
  by_cases k2 : (10 : Int) < (s.homes.length : Int)
  · rw [decide_eq_false fun h => by have := h.2.1; omega]
    simp (maxDischargeDepth := 12) [cFew, SetL.cells, hd, k1, k2]
  by_cases k3 : (9 : Int) < (s.tasks.length : Int)
  · rw [decide_eq_false fun h => by have := h.2.2.1; omega]
    simp (maxDischargeDepth := 12) [cFew, SetL.cells, hd, k1, k2, k3]
  rcases few_loop (mp := mp) (hs.ext (e.trans e1)) (by omega) hx s.tasks.length 0 _ (by omega) (Ext.refl _) with ⟨g1, g2⟩ | ⟨g1, g2⟩
  · rw [List.drop_zero] at g1
    rw [decide_eq_true ⟨by omega, by omega, by omega, g1⟩]
    have g2 := g2.eq
    simp [SetL.cells] at g2
    simp (maxDischargeDepth := 12) [cFew, SetL.cells, hd, k1, k2, k3, g2]
  · rw [List.drop_zero] at g1
    rw [decide_eq_false fun h => g1 h.2.2.2]
    have g2 := g2.eq
    simp [SetL.cells] at g2
    simp (maxDischargeDepth := 12) [cFew, SetL.cells, hd, k1, k2, k3, g2]
end
end Go.Mod

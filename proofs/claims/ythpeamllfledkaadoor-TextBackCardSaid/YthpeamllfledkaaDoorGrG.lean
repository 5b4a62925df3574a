/- Sets of tasks: the reference's answer. -/
import Derived.Test.YthpeamllfledkaaDoorGrF
import Derived.Test.YthpeamllfledkaaDoorGrE
set_option linter.unusedVariables false
set_option linter.unusedSimpArgs false
namespace Go.Mod
section
variable {mp : FuncId → Option MDef} {H0 H : MH}
theorem drop_at {α : Type} {l : List α} {i : Nat} {y : α} (hy : l[i]? = some y) : l.drop i = y :: l.drop (i + 1) := by
  obtain ⟨h, rfl⟩ := List.getElem?_eq_some_iff.1 hy
  exact List.drop_eq_getElem_cons h
/-- The reference's functions over sets, by their numbers. -/
structure ChkR (mp : FuncId → Option MDef) (rn rp ro rq rc rk : FuncId) : Prop where
  n : mp rn = some (.code cNameR)
  p : mp rp = some (.code cPartR)
  o : mp ro = some (.code (cTaskR rn rp))
  q : mp rq = some (.code cPlacesR)
  c : mp rc = some (.code (cCheckR rq ro))
  k : mp rk = some (.code (cOkR rc))
variable {rn rp ro rq rc rk : FuncId}
theorem G_partR (hc : ChkR mp rn rp ro rq rc rk) {p : PartL} {v0 v1 v3 : Value} {ah : Option Addr} {nh ch : Nat} (o0 : one v0 = true) (o1 : one v1 = true) (o3 : one v3 = true) :
    GR mp rp [.agg #[v0, v1, .slice ah nh ch, v3], .agg (partC p).toArray] H (.bool (decide (partOk nh p))) := by
  unfold GR
  rw [R_code hc.p]
  by_cases k1 : p.kind < 1
  · rw [decide_eq_false (by simp only [partOk]; omega)]; simp (maxDischargeDepth := 12) [cPartR, partC, ldx, one_unk o0, one_cells, k1]
  by_cases k2 : 3 < p.kind
  · rw [decide_eq_false (by simp only [partOk]; omega)]; simp (maxDischargeDepth := 12) [cPartR, partC, ldx, k1, k2]
  by_cases k3 : p.len < 1
  · rw [decide_eq_false (by simp only [partOk]; omega)]; simp (maxDischargeDepth := 12) [cPartR, partC, ldx, k1, k2, k3]
  by_cases k4 : 60 < p.len
  · rw [decide_eq_false (by simp only [partOk]; omega)]; simp (maxDischargeDepth := 12) [cPartR, partC, ldx, k1, k2, k3, k4]
  by_cases k5 : p.kind = 3
  · by_cases k6 : 0 ≤ p.res
    · by_cases k7 : p.res < (nh : Int)
      · rw [decide_eq_true (by simp only [partOk]; omega)]; simp (maxDischargeDepth := 12) [cPartR, partC, ldx, k3, k4, k5, k6, k7]
      · rw [decide_eq_false (by simp only [partOk]; omega)]; simp (maxDischargeDepth := 12) [cPartR, partC, ldx, k3, k4, k5, k6, k7]
    · rw [decide_eq_false (by simp only [partOk]; omega)]; simp (maxDischargeDepth := 12) [cPartR, partC, ldx, k3, k4, k5, k6]
  · by_cases k8 : p.res = 0
    · rw [decide_eq_true (by simp only [partOk]; omega)]; simp (maxDischargeDepth := 12) [cPartR, partC, ldx, k1, k2, k3, k4, k5, k8]
    · rw [decide_eq_false (by simp only [partOk]; omega)]; simp (maxDischargeDepth := 12) [cPartR, partC, ldx, k1, k2, k3, k4, k5, k8]

theorem placesR_loop1 {s : SetL} (hs : SetAt H0 s) {bx : Nat} {ix : Info} (hx : H0[bx]? = some (.cells ix s.cells)) : ∀ (k i : Nat) (H : MH), i + k = s.cores.length → Ext H0 H →
    ((∀ y ∈ s.cores.drop i, 1 ≤ y ∧ y ≤ 3) ∧ GL mp (.loop cPlacesR_1) [(1, .pointer (some ⟨bx, 0, none⟩)), (3, .int .i64 (i : Int))] H (.exit 0) [(1, .pointer (some ⟨bx, 0, none⟩)), (3, .int .i64 (s.cores.length : Int)), (25, .bool false)]) ∨
    ((¬ ∀ y ∈ s.cores.drop i, 1 ≤ y ∧ y ≤ 3) ∧ GL mp (.loop cPlacesR_1) [(1, .pointer (some ⟨bx, 0, none⟩)), (3, .int .i64 (i : Int))] H .ret [(2, .bool false)]) := by
  have hd := ldb hx
  simp only [SetL.cells] at hd
  intro k
  induction k with
  | zero =>
    intro i H hk e
    have : i = s.cores.length := by omega
    subst this
    refine .inl ⟨by simp, ?_⟩
    unfold GL
    rw [Rc_loop]
    simp (maxDischargeDepth := 12) [cPlacesR_1, hd, e]
  | succ k ih =>
    intro i H hk e
    obtain ⟨n1, _⟩ := hs.few
    have hin : i < s.cores.length := by omega
    obtain ⟨y, hy⟩ : ∃ y, s.cores[i]? = some y := ⟨_, List.getElem?_eq_getElem hin⟩
    have w : IntKind.i64.wrap ((i : Int) + 1) = (i : Int) + 1 := wrap_i64 (by omega) (by omega)
    have hrd := hs.cores.rd0 hy (by omega)
    simp only [Nat.mul_one] at hrd
    rw [drop_at hy]
    by_cases k1 : y < 1
    · refine .inr ⟨fun h => by have := h y (by simp); omega, ?_⟩
      unfold GL
      rw [Rc_loop]
      simp (maxDischargeDepth := 12) [cPlacesR_1, hd, e, hin, hs.cores.ia, hrd, intC, k1]
    by_cases k2 : 3 < y
    · refine .inr ⟨fun h => by have := h y (by simp); omega, ?_⟩
      unfold GL
      rw [Rc_loop]
      simp (maxDischargeDepth := 12) [cPlacesR_1, hd, e, hin, hs.cores.ia, hrd, intC, k1, k2]
    have hy2 : 1 ≤ y ∧ y ≤ 3 := by omega
    rcases ih (i + 1) H (by omega) e with ⟨h1, h2⟩ | ⟨h1, h2⟩
    · refine .inl ⟨by simpa [hy2] using h1, ?_⟩
      unfold GL
      rw [Rc_loop]
      simp (maxDischargeDepth := 12) [cPlacesR_1, hd, e, hin, hs.cores.ia, hrd, intC, k1, k2, w]
      exact h2
    · refine .inr ⟨by simpa [hy2] using h1, ?_⟩
      unfold GL
      rw [Rc_loop]
      simp (maxDischargeDepth := 12) [cPlacesR_1, hd, e, hin, hs.cores.ia, hrd, intC, k1, k2, w]
      exact h2
theorem placesR_loop0 {s : SetL} (hs : SetAt H0 s) {bx : Nat} {ix : Info} (hx : H0[bx]? = some (.cells ix s.cells)) : ∀ (k i : Nat) (H : MH), i + k = s.homes.length → Ext H0 H →
    ((∀ y ∈ s.homes.drop i, 0 ≤ y ∧ y < (s.cores.length : Int)) ∧ GL mp (.loop cPlacesR_0) [(1, .pointer (some ⟨bx, 0, none⟩)), (4, .int .i64 (i : Int))] H (.exit 2) [(1, .pointer (some ⟨bx, 0, none⟩)), (4, .int .i64 (s.homes.length : Int)), (46, .bool false)]) ∨
    ((¬ ∀ y ∈ s.homes.drop i, 0 ≤ y ∧ y < (s.cores.length : Int)) ∧ GL mp (.loop cPlacesR_0) [(1, .pointer (some ⟨bx, 0, none⟩)), (4, .int .i64 (i : Int))] H .ret [(2, .bool false)]) := by
  have hd := ldb hx
  simp only [SetL.cells] at hd
  intro k
  induction k with
  | zero =>
    intro i H hk e
    have : i = s.homes.length := by omega
    subst this
    refine .inl ⟨by simp, ?_⟩
    unfold GL
    rw [Rc_loop]
    simp (maxDischargeDepth := 12) [cPlacesR_0, hd, e]
  | succ k ih =>
    intro i H hk e
    obtain ⟨n1, n2, _⟩ := hs.few
    have hin : i < s.homes.length := by omega
    obtain ⟨y, hy⟩ : ∃ y, s.homes[i]? = some y := ⟨_, List.getElem?_eq_getElem hin⟩
    have w : IntKind.i64.wrap ((i : Int) + 1) = (i : Int) + 1 := wrap_i64 (by omega) (by omega)
    have hrd := hs.homes.rd0 hy (by omega)
    simp only [Nat.mul_one] at hrd
    rw [drop_at hy]
    by_cases k1 : y < 0
    · refine .inr ⟨fun h => by have := h y (by simp); omega, ?_⟩
      unfold GL
      rw [Rc_loop]
      simp (maxDischargeDepth := 12) [cPlacesR_0, mdraw_plain, hd, e, hin, hs.homes.ia, hrd, intC, k1]
    by_cases k2 : (s.cores.length : Int) ≤ y
    · refine .inr ⟨fun h => by have := h y (by simp); omega, ?_⟩
      unfold GL
      rw [Rc_loop]
      simp (maxDischargeDepth := 12) [cPlacesR_0, mdraw_plain, hd, e, hin, hs.homes.ia, hrd, intC, k1, k2]
    have hy2 : 0 ≤ y ∧ y < (s.cores.length : Int) := by omega
    rcases ih (i + 1) H (by omega) e with ⟨h1, h2⟩ | ⟨h1, h2⟩
    · refine .inl ⟨by simpa [hy2] using h1, ?_⟩
      unfold GL
      rw [Rc_loop]
      simp (maxDischargeDepth := 12) [cPlacesR_0, mdraw_plain, hd, e, hin, hs.homes.ia, hrd, intC, k1, k2, w]
      exact h2
    · refine .inr ⟨by simpa [hy2] using h1, ?_⟩
      unfold GL
      rw [Rc_loop]
      simp (maxDischargeDepth := 12) [cPlacesR_0, mdraw_plain, hd, e, hin, hs.homes.ia, hrd, intC, k1, k2, w]
      exact h2
open Classical in
theorem G_placesR (hc : ChkR mp rn rp ro rq rc rk) {s : SetL} (hs : SetAt H0 s) (e : Ext H0 H) : GR mp rq [.agg s.cells.toArray] H (.bool (decide (placesB s.cores s.homes))) := by
  have e1 : Ext H (H ++ [.cells ⟨0, true, false⟩ s.cells]) := ⟨_, rfl⟩
  have hx : (H ++ [MObj.cells ⟨0, true, false⟩ s.cells])[H.length]? = some (.cells ⟨0, true, false⟩ s.cells) := by simp
  have hs1 := hs.ext (e.trans e1)
  have hd := ldb hx
  simp only [SetL.cells] at hd
  unfold GR
  rw [R_code hc.q]
  by_cases k1 : (s.cores.length : Int) < 1
  · rw [decide_eq_false (by simp only [placesB]; omega)]
    have : s.cores.length = 0 := by omega
    simp (maxDischargeDepth := 12) [cPlacesR, SetL.cells, hd, this]
  have k1' : ¬ s.cores.length = 0 := by omega
  by_cases k2 : (3 : Int) < (s.cores.length : Int)
  · rw [decide_eq_false (by simp only [placesB]; omega)]
    simp (maxDischargeDepth := 12) [cPlacesR, SetL.cells, hd, k1, k1', k2]
  by_cases k3 : (4 : Int) < (s.homes.length : Int)
  · rw [decide_eq_false (by simp only [placesB]; omega)]
    simp (maxDischargeDepth := 12) [cPlacesR, SetL.cells, hd, k1, k1', k2, k3]
  rcases placesR_loop1 (mp := mp) hs1 hx s.cores.length 0 _ (by omega) (Ext.refl _) with ⟨g1, g2⟩ | ⟨g1, g2⟩
  · have g2 := g2.eq
    rw [List.drop_zero] at g1
    rcases placesR_loop0 (mp := mp) hs1 hx s.homes.length 0 (aftL mp (.loop cPlacesR_1) [(1, .pointer (some ⟨H.length, 0, none⟩)), (3, .int .i64 ((0 : Nat) : Int))] (H ++ [.cells ⟨0, true, false⟩ s.cells])) (by omega) (by simp) with ⟨f1, f2⟩ | ⟨f1, f2⟩
    · rw [List.drop_zero] at f1
      have f2 := f2.eq
      rw [decide_eq_true (by simp only [placesB]; exact ⟨by omega, g1, f1⟩)]
      simp [SetL.cells] at g2 f2
      simp (maxDischargeDepth := 12) [cPlacesR, SetL.cells, hd, k1, k1', k2, k3, g2, f2]
    · rw [List.drop_zero] at f1
      have f2 := f2.eq
      rw [decide_eq_false (by simp only [placesB]; exact fun h => f1 h.2.2)]
      simp [SetL.cells] at g2 f2
      simp (maxDischargeDepth := 12) [cPlacesR, SetL.cells, hd, k1, k1', k2, k3, g2, f2]
  · have g2 := g2.eq
    rw [List.drop_zero] at g1
    rw [decide_eq_false (by simp only [placesB]; exact fun h => g1 h.2.1)]
    simp [SetL.cells] at g2
    simp (maxDischargeDepth := 12) [cPlacesR, SetL.cells, hd, k1, k1', k2, k3, g2]

/-! ### a task -/
theorem taskR_loop1 {s : SetL} (hs : SetAt H0 s) {t : TaskL} {bx bt i : Nat} {ix it : Info} (hx : H0[bx]? = some (.cells ix s.cells)) (ht : H0[bt]? = some (.cells it (taskC t))) (hi : i ≤ s.tasks.length) : ∀ (k j : Nat) (H : MH), j + k = i → Ext H0 H →
    ((¬ ∃ o ∈ (s.tasks.take i).drop j, o.name = t.name ∨ o.prio = t.prio) ∧ GL mp (.loop (cTaskR_1 rn rp)) [(1, .int .i64 (i : Int)), (2, .pointer (some ⟨bx, 0, none⟩)), (5, .pointer (some ⟨bt, 0, none⟩)), (6, .int .i64 (j : Int))] H (.exit 0) [(1, .int .i64 (i : Int)), (2, .pointer (some ⟨bx, 0, none⟩)), (5, .pointer (some ⟨bt, 0, none⟩)), (6, .int .i64 (i : Int)), (62, .bool false)]) ∨
    ((∃ o ∈ (s.tasks.take i).drop j, o.name = t.name ∨ o.prio = t.prio) ∧ GL mp (.loop (cTaskR_1 rn rp)) [(1, .int .i64 (i : Int)), (2, .pointer (some ⟨bx, 0, none⟩)), (5, .pointer (some ⟨bt, 0, none⟩)), (6, .int .i64 (j : Int))] H .ret [(4, .int .i64 17)]) := by
  have hd := ldb hx
  have hd1 := ldb ht
  simp only [SetL.cells] at hd
  simp only [taskC] at hd1
  obtain ⟨n1, n2, n3, _⟩ := hs.few
  intro k
  induction k with
  | zero =>
    intro j H hk e
    have : j = i := by omega
    subst this
    refine .inl ⟨?_, ?_⟩
    · rintro ⟨o, ho, _⟩
      rw [List.drop_of_length_le (by rw [List.length_take]; omega)] at ho
      cases ho
    · unfold GL
      rw [Rc_loop]
      simp (maxDischargeDepth := 12) [cTaskR_1]
  | succ k ih =>
    intro j H hk e
    have hji : j < i := by omega
    have hin : j < s.tasks.length := by omega
    obtain ⟨y, hy⟩ : ∃ y, s.tasks[j]? = some y := ⟨_, List.getElem?_eq_getElem hin⟩
    have w : IntKind.i64.wrap ((j : Int) + 1) = (j : Int) + 1 := wrap_i64 (by omega) (by omega)
    have hrd := hs.tasks.rd hy
    have hrd0 := hs.tasks.rd0 hy (by omega)
    have hy' : (s.tasks.take i)[j]? = some y := by rw [List.getElem?_take_of_lt hji]; exact hy
    rw [drop_at hy']
    by_cases k1 : y.name = t.name
    · refine .inr ⟨⟨y, by simp, .inl k1⟩, ?_⟩
      unfold GL
      rw [Rc_loop]
      simp (maxDischargeDepth := 12) [cTaskR_1, mdraw_plain, hd, hd1, e, hin, hji, hs.tasks.ia, hrd, hrd0, taskC, ba_eq_iff, k1]
    by_cases k2 : y.prio = t.prio
    · refine .inr ⟨⟨y, by simp, .inr k2⟩, ?_⟩
      unfold GL
      rw [Rc_loop]
      simp (maxDischargeDepth := 12) [cTaskR_1, mdraw_plain, hd, hd1, e, hin, hji, hs.tasks.ia, hrd, hrd0, taskC, ba_eq_iff, k1, k2]
    rcases ih (j + 1) H (by omega) e with ⟨h1, h2⟩ | ⟨h1, h2⟩
    · refine .inl ⟨by simpa [k1, k2] using h1, ?_⟩
      unfold GL
      rw [Rc_loop]
      simp (maxDischargeDepth := 12) [cTaskR_1, mdraw_plain, hd, hd1, e, hin, hji, hs.tasks.ia, hrd, hrd0, taskC, ba_eq_iff, k1, k2, w]
      exact h2
    · refine .inr ⟨by simpa [k1, k2] using h1, ?_⟩
      unfold GL
      rw [Rc_loop]
      simp (maxDischargeDepth := 12) [cTaskR_1, mdraw_plain, hd, hd1, e, hin, hji, hs.tasks.ia, hrd, hrd0, taskC, ba_eq_iff, k1, k2, w]
      exact h2
theorem taskR_loop0 (hc : ChkR mp rn rp ro rq rc rk) {s : SetL} (hs : SetAt H0 s) {t : TaskL} (hp : RowG 3 H0 t.pa t.parts partC) (hn : t.parts.length ≤ 1000000) {bx bt : Nat} {ix it : Info} (hx : H0[bx]? = some (.cells ix s.cells)) (ht : H0[bt]? = some (.cells it (taskC t))) : ∀ (k i : Nat) (H : MH), i + k = t.parts.length → Ext H0 H →
    ((∀ p ∈ t.parts.drop i, partOk s.homes.length p) ∧ GL mp (.loop (cTaskR_0 rn rp)) [(2, .pointer (some ⟨bx, 0, none⟩)), (5, .pointer (some ⟨bt, 0, none⟩)), (7, .int .i64 (i : Int))] H (.exit 2) [(2, .pointer (some ⟨bx, 0, none⟩)), (5, .pointer (some ⟨bt, 0, none⟩)), (7, .int .i64 (t.parts.length : Int)), (99, .bool false)]) ∨
    ((¬ ∀ p ∈ t.parts.drop i, partOk s.homes.length p) ∧ GL mp (.loop (cTaskR_0 rn rp)) [(2, .pointer (some ⟨bx, 0, none⟩)), (5, .pointer (some ⟨bt, 0, none⟩)), (7, .int .i64 (i : Int))] H .ret [(4, .int .i64 15)]) := by
  have hd := ldb hx
  have hdn := ldbn hx
  have hd1 := ldb ht
  simp only [SetL.cells] at hd hdn
  simp only [taskC] at hd1
  intro k
  induction k with
  | zero =>
    intro j H hk e
    have : j = t.parts.length := by omega
    subst this
    refine .inl ⟨by simp, ?_⟩
    unfold GL
    rw [Rc_loop]
    simp (maxDischargeDepth := 12) [cTaskR_0, hd1, e]
  | succ k ih =>
    intro j H hk e
    have hin : j < t.parts.length := by omega
    obtain ⟨y, hy⟩ : ∃ y, t.parts[j]? = some y := ⟨_, List.getElem?_eq_getElem hin⟩
    have w : IntKind.i64.wrap ((j : Int) + 1) = (j : Int) + 1 := wrap_i64 (by omega) (by omega)
    have hrd := hp.rdn hy
    have cp := fun (H' : MH) => (G_partR (mp := mp) (H := H') hc (p := y) (v0 := .int .i64 s.proto) (v1 := .slice s.ca s.cores.length s.cc) (v3 := .slice s.ta s.tasks.length s.tc) (ah := s.ha) (nh := s.homes.length) (ch := s.hc) rfl rfl rfl).eq
    rw [drop_at hy]
    by_cases k1 : partOk s.homes.length y
    · rw [decide_eq_true k1] at cp
      rcases ih (j + 1) (aft mp rp [.agg #[.int .i64 s.proto, .slice s.ca s.cores.length s.cc, .slice s.ha s.homes.length s.hc, .slice s.ta s.tasks.length s.tc], .agg (partC y).toArray] H) (by omega) (by simp [e]) with ⟨h1, h2⟩ | ⟨h1, h2⟩
      · refine .inl ⟨by simpa [k1] using h1, ?_⟩
        unfold GL
        rw [Rc_loop]
        simp (maxDischargeDepth := 12) [cTaskR_0, mdraw_plain, hd, hdn, hd1, e, hin, hp.ia, hrd, cp, w]
        exact h2.next (by simp)
      · refine .inr ⟨by simpa [k1] using h1, ?_⟩
        unfold GL
        rw [Rc_loop]
        simp (maxDischargeDepth := 12) [cTaskR_0, mdraw_plain, hd, hdn, hd1, e, hin, hp.ia, hrd, cp, w]
        exact h2.next (by simp)
    · rw [decide_eq_false k1] at cp
      refine .inr ⟨by simp [k1], ?_⟩
      unfold GL
      rw [Rc_loop]
      simp (maxDischargeDepth := 12) [cTaskR_0, mdraw_plain, hd, hdn, hd1, e, hin, hp.ia, hrd, cp, w]
theorem G_taskR (hc : ChkR mp rn rp ro rq rc rk) {s : SetL} (hs : SetAt H0 s) (e : Ext H0 H) {i : Nat} {t : TaskL} (ht : s.tasks[i]? = some t) :
    GR mp ro [.agg s.cells.toArray, .int .i64 (i : Int)] H (.int .i64 (taskE s i t)) := by
  obtain ⟨n1, n2, n3, n4, n5⟩ := hs.few
  obtain ⟨n6, n7⟩ := n5 t (List.mem_of_getElem? ht)
  have hi := hs.tasks.lt ht
  have hg1 : (H ++ [MObj.cells ⟨0, true, false⟩ s.cells, .cells ⟨0, true, false⟩ (taskC t)])[H.length + 1]? = some (.cells ⟨0, true, false⟩ (taskC t)) := by simp
  have e1 : Ext H (H ++ [MObj.cells ⟨0, true, false⟩ s.cells, .cells ⟨0, true, false⟩ (taskC t)]) := ⟨_, rfl⟩
  have hg0 : (H ++ [MObj.cells ⟨0, true, false⟩ s.cells, .cells ⟨0, true, false⟩ (taskC t)])[H.length]? = some (.cells ⟨0, true, false⟩ s.cells) := by simp
  have hs1 := hs.ext (e.trans e1)
  have hp1 := hs1.parts t (List.mem_of_getElem? ht)
  have hdA : ∀ o, mread (.ld none) [.pointer (some ⟨H.length, o, none⟩)] (H ++ [MObj.cells ⟨0, true, false⟩ s.cells]) = knownO s.cells[o]? := fun o => ldb (H0 := H ++ [MObj.cells ⟨0, true, false⟩ s.cells]) (b := H.length) (i := ⟨0, true, false⟩) (by simp) _ o (Ext.refl _)
  have hd0 := ldb hg0
  have hd1 := ldb hg1
  have hrd := hs.tasks.rdn ht
  obtain ⟨r, _, hr2⟩ := R_nameR (mp := mp) (H := H) hc.n (s := t.name) n6
  have cn : ∀ H' : MH, R mp rn [.string t.name] H' = some (.bool r, H') := fun H' => by
    obtain ⟨r', a1, a2⟩ := R_nameR (mp := mp) (H := H') hc.n (s := t.name) n6
    rw [a1]
    have : r' = r := by rw [Bool.eq_iff_iff, a2, hr2]
    rw [this]
  have l1 := taskR_loop1 (mp := mp) (rn := rn) (rp := rp) hs1 hg0 hg1 (by omega : i ≤ s.tasks.length) i 0 _ (by omega) (Ext.refl _)
  simp only [SetL.cells, taskC] at hdA hd0 hd1 hrd
  unfold GR
  rw [R_code hc.o]
  unfold taskE
  by_cases kn : nameB t.name
  case neg =>
    have : r = false := by
      cases r with
      | false => rfl
      | true => exact absurd (hr2.1 rfl) kn
    subst this
    rw [if_pos (fun h => kn h.1)]
    simp (maxDischargeDepth := 12) [cTaskR, SetL.cells, hi, hs.tasks.ia, hrd, e, stx, hdA, hd0, hd1, cn]
  have := hr2.2 kn
  subst this
  by_cases k1 : t.period < 1
  · rw [if_pos (by simp only [formOk]; omega)]
    simp (maxDischargeDepth := 12) [cTaskR, SetL.cells, hi, hs.tasks.ia, hrd, e, stx, hdA, hd0, hd1, cn, k1]
  by_cases k2 : 3000 < t.period
  · rw [if_pos (by simp only [formOk]; omega)]
    simp (maxDischargeDepth := 12) [cTaskR, SetL.cells, hi, hs.tasks.ia, hrd, e, stx, hdA, hd0, hd1, cn, k1, k2]
  by_cases k3 : t.deadline < 1
  · rw [if_pos (by simp only [formOk]; omega)]
    simp (maxDischargeDepth := 12) [cTaskR, SetL.cells, hi, hs.tasks.ia, hrd, e, stx, hdA, hd0, hd1, cn, k1, k2, k3]
  by_cases k4 : t.period < t.deadline
  · rw [if_pos (by simp only [formOk]; omega)]
    simp (maxDischargeDepth := 12) [cTaskR, SetL.cells, hi, hs.tasks.ia, hrd, e, stx, hdA, hd0, hd1, cn, k1, k2, k3, k4]
  by_cases k5 : t.prio < 1
  · rw [if_pos (by simp only [formOk]; omega)]
    simp (maxDischargeDepth := 12) [cTaskR, SetL.cells, hi, hs.tasks.ia, hrd, e, stx, hdA, hd0, hd1, cn, k1, k2, k3, k4, k5]
  by_cases k6 : 1000 < t.prio
  · rw [if_pos (by simp only [formOk]; omega)]
    simp (maxDischargeDepth := 12) [cTaskR, SetL.cells, hi, hs.tasks.ia, hrd, e, stx, hdA, hd0, hd1, cn, k1, k2, k3, k4, k5, k6]
  have hform : formOk t := ⟨kn, by omega, by omega, by omega⟩
  rw [if_neg (by simp [hform])]
  by_cases c1 : t.cluster < 0
  · rw [if_pos (by omega)]
    simp (maxDischargeDepth := 12) [cTaskR, SetL.cells, hi, hs.tasks.ia, hrd, e, stx, hdA, hd0, hd1, cn, k1, k2, k3, k4, k5, k6, c1]
  by_cases c2 : (s.cores.length : Int) ≤ t.cluster
  · rw [if_pos (by omega)]
    simp (maxDischargeDepth := 12) [cTaskR, SetL.cells, hi, hs.tasks.ia, hrd, e, stx, hdA, hd0, hd1, cn, k1, k2, k3, k4, k5, k6, c1, c2]
  rw [if_neg (by omega)]
  rcases l1 with ⟨g1, g2⟩ | ⟨g1, g2⟩
  · rw [List.drop_zero] at g1
    have g2 := g2.eq
    rw [if_neg g1]
    simp [SetL.cells, taskC] at g2
    by_cases p1 : (t.parts.length : Int) < 1
    · rw [if_pos (by simp only [partsOk]; omega)]
      have : t.parts.length = 0 := by omega
      simp only [this] at g2 hd0 hd1 hrd
      simp (maxDischargeDepth := 12) [cTaskR, SetL.cells, hi, hs.tasks.ia, hrd, e, stx, hdA, hd0, hd1, cn, k1, k2, k3, k4, k5, k6, c1, c2, g2, this]
    have p1' : ¬ t.parts.length = 0 := by omega
    by_cases p2 : (6 : Int) < (t.parts.length : Int)
    · rw [if_pos (by simp only [partsOk]; omega)]
      simp (maxDischargeDepth := 12) [cTaskR, SetL.cells, hi, hs.tasks.ia, hrd, e, stx, hdA, hd0, hd1, cn, k1, k2, k3, k4, k5, k6, c1, c2, g2, p1, p1', p2]
    have l0 := taskR_loop0 (mp := mp) hc hs1 hp1 n7 hg0 hg1 t.parts.length 0 (aftL mp (.loop (cTaskR_1 rn rp)) [(1, .int .i64 (i : Int)), (2, .pointer (some ⟨H.length, 0, none⟩)), (5, .pointer (some ⟨H.length + 1, 0, none⟩)), (6, .int .i64 ((0 : Nat) : Int))] (H ++ [MObj.cells ⟨0, true, false⟩ s.cells, .cells ⟨0, true, false⟩ (taskC t)])) (by omega) (by simp)
    rcases l0 with ⟨f1, f2⟩ | ⟨f1, f2⟩
    · rw [List.drop_zero] at f1
      have f2 := f2.eq
      rw [if_neg (by simp only [partsOk]; exact fun h => h ⟨f1, by omega, by omega⟩)]
      simp [SetL.cells, taskC] at f2
      simp (maxDischargeDepth := 12) [cTaskR, SetL.cells, hi, hs.tasks.ia, hrd, e, stx, hdA, hd0, hd1, cn, k1, k2, k3, k4, k5, k6, c1, c2, g2, p1, p1', p2, f2]
    · rw [List.drop_zero] at f1
      have f2 := f2.eq
      rw [if_pos (by simp only [partsOk]; exact fun h => f1 h.1)]
      simp [SetL.cells, taskC] at f2
      simp (maxDischargeDepth := 12) [cTaskR, SetL.cells, hi, hs.tasks.ia, hrd, e, stx, hdA, hd0, hd1, cn, k1, k2, k3, k4, k5, k6, c1, c2, g2, p1, p1', p2, f2]
  · rw [List.drop_zero] at g1
    have g2 := g2.eq
    rw [if_pos g1]
    simp [SetL.cells, taskC] at g2
    simp (maxDischargeDepth := 12) [cTaskR, SetL.cells, hi, hs.tasks.ia, hrd, e, stx, hdA, hd0, hd1, cn, k1, k2, k3, k4, k5, k6, c1, c2, g2]

/-! ### a set -/
theorem checkR_loop (hc : ChkR mp rn rp ro rq rc rk) {s : SetL} (hs : SetAt H0 s) {bx : Nat} {ix : Info} (hx : H0[bx]? = some (.cells ix s.cells)) : ∀ (k i : Nat) (H : MH), i + k = s.tasks.length → Ext H0 H →
    ((firstE s i (s.tasks.drop i)).2 = 0 ∧ firstE s i (s.tasks.drop i) = (-1, 0) ∧ GL mp (.loop (cCheckR_0 rq ro)) [(1, .pointer (some ⟨bx, 0, none⟩)), (4, .int .i64 (i : Int))] H (.exit 1) [(1, .pointer (some ⟨bx, 0, none⟩)), (4, .int .i64 (s.tasks.length : Int)), (33, .bool false)]) ∨
    ((firstE s i (s.tasks.drop i)).2 ≠ 0 ∧ GL mp (.loop (cCheckR_0 rq ro)) [(1, .pointer (some ⟨bx, 0, none⟩)), (4, .int .i64 (i : Int))] H .ret [(2, .int .i64 (firstE s i (s.tasks.drop i)).1), (3, .int .i64 (firstE s i (s.tasks.drop i)).2)]) := by
  have hd := ldb hx
  have hdn := ldbn hx
  simp only [SetL.cells] at hdn hd
  intro k
  induction k with
  | zero =>
    intro i H hk e
    have : i = s.tasks.length := by omega
    subst this
    refine .inl ⟨by simp [firstE], by simp [firstE], ?_⟩
    unfold GL
    rw [Rc_loop]
    simp (maxDischargeDepth := 12) [cCheckR_0, hd, e]
  | succ k ih =>
    intro i H hk e
    obtain ⟨n1, n2, n3, n4, n5⟩ := hs.few
    have hin : i < s.tasks.length := by omega
    obtain ⟨t, ht⟩ : ∃ p, s.tasks[i]? = some p := ⟨_, List.getElem?_eq_getElem hin⟩
    have w : IntKind.i64.wrap ((i : Int) + 1) = (i : Int) + 1 := wrap_i64 (by omega) (by omega)
    have ho := fun (H' : MH) (e' : Ext H0 H') => (G_taskR (H := H') hc hs e' ht).eq
    simp only [SetL.cells] at ho
    rw [drop_at ht]
    by_cases h0 : taskE s i t = 0
    · rw [h0] at ho
      have hfe : firstE s i (t :: s.tasks.drop (i + 1)) = firstE s (i + 1) (s.tasks.drop (i + 1)) := by simp only [firstE]; rw [if_pos h0]
      rw [hfe]
      rcases ih (i + 1) (aft mp ro [.agg s.cells.toArray, .int .i64 (i : Int)] H) (by omega) (by simp [e]) with ⟨h1, h2, h3⟩ | ⟨h1, h3⟩
      · refine .inl ⟨h1, h2, ?_⟩
        unfold GL
        rw [Rc_loop]
        simp (maxDischargeDepth := 12) [cCheckR_0, hin, hd, hdn, e, ho, w]
        exact h3.next (by simp)
      · refine .inr ⟨h1, ?_⟩
        unfold GL
        rw [Rc_loop]
        simp (maxDischargeDepth := 12) [cCheckR_0, hin, hd, hdn, e, ho, w]
        exact h3.next (by simp)
    · have hfe : firstE s i (t :: s.tasks.drop (i + 1)) = ((i : Int), taskE s i t) := by simp only [firstE]; rw [if_neg h0]
      rw [hfe]
      refine .inr ⟨h0, ?_⟩
      unfold GL
      rw [Rc_loop]
      simp (maxDischargeDepth := 12) [cCheckR_0, hin, hd, hdn, e, ho, w, h0]
open Classical in
theorem G_checkR (hc : ChkR mp rn rp ro rq rc rk) {s : SetL} (hs : SetAt H0 s) (e : Ext H0 H) : GR mp rc [.agg s.cells.toArray] H (.tuple #[.int .i64 (checkE s).1, .int .i64 (checkE s).2]) := by
  have e1 : Ext H (H ++ [.cells ⟨0, true, false⟩ s.cells]) := ⟨_, rfl⟩
  have hx : (H ++ [MObj.cells ⟨0, true, false⟩ s.cells])[H.length]? = some (.cells ⟨0, true, false⟩ s.cells) := by simp
  have hq := fun (H' : MH) (e' : Ext H0 H') => (G_placesR (H := H') hc hs e').eq
  have hd := ldb hx
  have hdn := ldbn hx
  simp only [SetL.cells] at hd hdn hq
  unfold GR
  rw [R_code hc.c]
  unfold checkE
  by_cases h1 : s.proto < 1
  · rw [if_pos (by omega)]
    simp (maxDischargeDepth := 12) [cCheckR, SetL.cells, hd, h1]
  by_cases h1' : 3 < s.proto
  · rw [if_pos (by omega)]
    simp (maxDischargeDepth := 12) [cCheckR, SetL.cells, hd, h1, h1']
  rw [if_neg (by omega)]
  by_cases h2 : placesB s.cores s.homes
  · rw [if_neg (by simp [h2])]
    rw [decide_eq_true h2] at hq
    by_cases h3 : 6 < s.tasks.length
    · rw [if_pos h3]
      have h3' : (6 : Int) < (s.tasks.length : Int) := by omega
      simp (maxDischargeDepth := 12) [cCheckR, SetL.cells, hd, hdn, h1, h1', e, hq, h3']
    · rw [if_neg h3]
      have h3' : ¬ (6 : Int) < (s.tasks.length : Int) := by omega
      by_cases h4 : s.tasks = []
      · rw [if_pos h4]
        have hl : s.tasks.length = 0 := by rw [h4]; rfl
        rw [hl] at hq hd hdn
        simp (maxDischargeDepth := 12) [cCheckR, SetL.cells, hd, hdn, h1, h1', e, hq, hl]
      · rw [if_neg h4]
        have h4' : ¬ s.tasks.length = 0 := fun h => h4 (List.eq_nil_of_length_eq_zero h)
        rcases checkR_loop (mp := mp) hc (hs.ext (e.trans e1)) hx s.tasks.length 0 (aft mp rq [.agg s.cells.toArray] (H ++ [.cells ⟨0, true, false⟩ s.cells])) (by omega) (by simp) with ⟨g1, g2, g3⟩ | ⟨g1, g3⟩
        · rw [List.drop_zero] at g2
          have g3 := g3.eq
          rw [g2]
          simp [SetL.cells] at g3
          simp (maxDischargeDepth := 12) [cCheckR, SetL.cells, hd, hdn, h1, h1', e, hq, h3', h4', h4, g3]
        · rw [List.drop_zero] at g3
          have g3 := g3.eq
          simp [SetL.cells] at g3
          simp (maxDischargeDepth := 12) [cCheckR, SetL.cells, hd, hdn, h1, h1', e, hq, h3', h4', h4, g3]
  · rw [if_pos h2]
    rw [decide_eq_false h2] at hq
    simp (maxDischargeDepth := 12) [cCheckR, SetL.cells, hd, hdn, h1, h1', e, hq]
theorem G_okR (hc : ChkR mp rn rp ro rq rc rk) {s : SetL} (hs : SetAt H0 s) (e : Ext H0 H) [Decidable (okSet s)] : GR mp rk [.agg s.cells.toArray] H (.bool (decide (okSet s))) := by
  have hk := fun (H' : MH) (e' : Ext H0 H') => (G_checkR (H := H') hc hs e').eq
  simp only [SetL.cells] at hk
  have : decide (okSet s) = decide ((checkE s).2 = 0) := by rw [decide_eq_decide]; rfl
  rw [this]
  unfold GR
  rw [R_code hc.k]
  by_cases h : (checkE s).2 = 0
  · simp (maxDischargeDepth := 12) [cOkR, SetL.cells, ldnx, e, hk, h]
  · simp (maxDischargeDepth := 12) [cOkR, SetL.cells, ldnx, e, hk, h]
end
end Go.Mod
/- Sets of tasks as arguments. -/
set_option linter.unusedVariables false
set_option linter.unusedSimpArgs false
namespace Go.Mod

/-- An argument's row, as records of which more is known. -/
theorem rep_rowG {α : Type} {f : α → List Value} {Q : α → Prop} {fs : List Sh} {H : MH} {v : Value} {d : D} (h : Rep H (.row fs) v d) (hd : ∀ ms ds, RepL H fs ms ds → ∃ x : α, ms = f x ∧ Q x ∧ (f x).all one = true) :
    ∃ (a : Option Addr) (l : List α), v = .slice a l.length l.length ∧ RowG fs.length H a l f ∧ (∀ x ∈ l, Q x) ∧ l.length ≤ maxLen := by
  cases h with
  | nil => exact ⟨none, [], rfl, RowG.nil, by simp, by simp⟩
  | row hB hn hm hl hw h =>
    rename_i b n cs ds
    obtain ⟨l, h1, h2⟩ := choose_list (α := α) (n := n) (p := fun i x => (cs.drop (i * fs.length)).take fs.length = f x ∧ Q x ∧ (f x).all one = true) (fun i hi => by
      have hd' : ds[i]? = some ds[i] := List.getElem?_eq_getElem (by omega)
      have := Rep.cells (H := H) (fs := fs) (b := b) hn hl hw h hd'
      exact hd _ _ this)
    refine ⟨some ⟨b, 0, none⟩, l, by rw [h1], ⟨.inr rfl, fun k x hx => ?_, fun x hx => ?_⟩, fun x hx => ?_, by omega⟩
    · exact ⟨_, cs, hB, rfl, by rw [h1]; show 0 + n * fs.length ≤ cs.length; omega, by show (cs.drop (0 + k * fs.length)).take fs.length = f x; rw [Nat.zero_add]; exact (h2 k x hx).1⟩
    · obtain ⟨i, hi⟩ := List.mem_iff_getElem?.1 hx
      have hil := (List.getElem?_eq_some_iff.1 hi).1
      have hm := Nat.mul_le_mul_right fs.length (show i + 1 ≤ n by omega)
      rw [Nat.add_mul] at hm
      obtain ⟨g1, g2, g3⟩ := h2 i x hi
      exact ⟨by rw [← g1]; simp; omega, g3⟩
    · obtain ⟨i, hi⟩ := List.mem_iff_getElem?.1 hx
      exact (h2 i x hi).2.1
theorem repL1 {H : MH} {f0 : Sh} {ms : List Value} {ds : List D} (h : RepL H [f0] ms ds) : ∃ m0 d0, ms = [m0] ∧ Rep H f0 m0 d0 := by
  have h1 := h.ml
  have h2 := h.dl
  match ms, ds, h1, h2 with
  | [m0], [d0], _, _ => exact ⟨m0, d0, rfl, h.at_ 0 f0 m0 d0 rfl rfl rfl⟩
theorem repL3 {H : MH} {f0 f1 f2 : Sh} {ms : List Value} {ds : List D} (h : RepL H [f0, f1, f2] ms ds) : ∃ m0 m1 m2 d0 d1 d2, ms = [m0, m1, m2] ∧ Rep H f0 m0 d0 ∧ Rep H f1 m1 d1 ∧ Rep H f2 m2 d2 := by
  have h1 := h.ml
  have h2 := h.dl
  match ms, ds, h1, h2 with
  | [m0, m1, m2], [d0, d1, d2], _, _ => exact ⟨m0, m1, m2, d0, d1, d2, rfl, h.at_ 0 f0 m0 d0 rfl rfl rfl, h.at_ 1 f1 m1 d1 rfl rfl rfl, h.at_ 2 f2 m2 d2 rfl rfl rfl⟩
theorem repL4 {H : MH} {f0 f1 f2 f3 : Sh} {ms : List Value} {ds : List D} (h : RepL H [f0, f1, f2, f3] ms ds) : ∃ m0 m1 m2 m3 d0 d1 d2 d3, ms = [m0, m1, m2, m3] ∧ Rep H f0 m0 d0 ∧ Rep H f1 m1 d1 ∧ Rep H f2 m2 d2 ∧ Rep H f3 m3 d3 := by
  have h1 := h.ml
  have h2 := h.dl
  match ms, ds, h1, h2 with
  | [m0, m1, m2, m3], [d0, d1, d2, d3], _, _ => exact ⟨m0, m1, m2, m3, d0, d1, d2, d3, rfl, h.at_ 0 f0 m0 d0 rfl rfl rfl, h.at_ 1 f1 m1 d1 rfl rfl rfl, h.at_ 2 f2 m2 d2 rfl rfl rfl, h.at_ 3 f3 m3 d3 rfl rfl rfl⟩
theorem repL5 {H : MH} {f0 f1 f2 f3 f4 : Sh} {ms : List Value} {ds : List D} (h : RepL H [f0, f1, f2, f3, f4] ms ds) : ∃ m0 m1 m2 m3 m4 d0 d1 d2 d3 d4, ms = [m0, m1, m2, m3, m4] ∧ Rep H f0 m0 d0 ∧ Rep H f1 m1 d1 ∧ Rep H f2 m2 d2 ∧ Rep H f3 m3 d3 ∧ Rep H f4 m4 d4 := by
  have h1 := h.ml
  have h2 := h.dl
  match ms, ds, h1, h2 with
  | [m0, m1, m2, m3, m4], [d0, d1, d2, d3, d4], _, _ => exact ⟨m0, m1, m2, m3, m4, d0, d1, d2, d3, d4, rfl, h.at_ 0 f0 m0 d0 rfl rfl rfl, h.at_ 1 f1 m1 d1 rfl rfl rfl, h.at_ 2 f2 m2 d2 rfl rfl rfl, h.at_ 3 f3 m3 d3 rfl rfl rfl, h.at_ 4 f4 m4 d4 rfl rfl rfl⟩
theorem repL6 {H : MH} {f0 f1 f2 f3 f4 f5 : Sh} {ms : List Value} {ds : List D} (h : RepL H [f0, f1, f2, f3, f4, f5] ms ds) : ∃ m0 m1 m2 m3 m4 m5 d0 d1 d2 d3 d4 d5, ms = [m0, m1, m2, m3, m4, m5] ∧ Rep H f0 m0 d0 ∧ Rep H f1 m1 d1 ∧ Rep H f2 m2 d2 ∧ Rep H f3 m3 d3 ∧ Rep H f4 m4 d4 ∧ Rep H f5 m5 d5 := by
  have h1 := h.ml
  have h2 := h.dl
  match ms, ds, h1, h2 with
  | [m0, m1, m2, m3, m4, m5], [d0, d1, d2, d3, d4, d5], _, _ => exact ⟨m0, m1, m2, m3, m4, m5, d0, d1, d2, d3, d4, d5, rfl, h.at_ 0 f0 m0 d0 rfl rfl rfl, h.at_ 1 f1 m1 d1 rfl rfl rfl, h.at_ 2 f2 m2 d2 rfl rfl rfl, h.at_ 3 f3 m3 d3 rfl rfl rfl, h.at_ 4 f4 m4 d4 rfl rfl rfl, h.at_ 5 f5 m5 d5 rfl rfl rfl⟩
/-- A set of whatever size, as it lies. -/
structure SetRaw (H : MH) (s : SetL) : Prop where
  cores : RowG 1 H s.ca s.cores intC
  homes : RowG 1 H s.ha s.homes intC
  tasks : RowG 6 H s.ta s.tasks taskC
  parts : ∀ t ∈ s.tasks, RowG 3 H t.pa t.parts partC
  tc : s.tasks.length ≤ s.tc
theorem SetRaw.ext {H H1 : MH} {s : SetL} (h : SetRaw H s) (e : Ext H H1) : SetRaw H1 s := ⟨h.cores.ext e, h.homes.ext e, h.tasks.ext e, fun t ht => (h.parts t ht).ext e, h.tc⟩
def shPart : List Sh := [.int .i64, .int .i64, .int .i64]
def shTask : List Sh := [.str, .int .i64, .int .i64, .int .i64, .int .i64, .row shPart]
def shSet : List Sh := [.int .i64, .row [.int .i64], .row [.int .i64], .row shTask]
theorem rep_int1 {H : MH} {ms : List Value} {ds : List D} (h : RepL H [.int .i64] ms ds) : ∃ x : Int, ms = intC x ∧ True ∧ (intC x).all one = true := by
  obtain ⟨m0, d0, rfl, g⟩ := repL1 h
  cases g
  exact ⟨_, rfl, trivial, rfl⟩
theorem rep_part {H : MH} {ms : List Value} {ds : List D} (h : RepL H shPart ms ds) : ∃ x : PartL, ms = partC x ∧ True ∧ (partC x).all one = true := by
  obtain ⟨m0, m1, m2, d0, d1, d2, rfl, g0, g1, g2⟩ := repL3 h
  cases g0; cases g1; cases g2
  exact ⟨⟨_, _, _⟩, rfl, trivial, rfl⟩
theorem rep_task {H : MH} {ms : List Value} {ds : List D} (h : RepL H shTask ms ds) : ∃ x : TaskL, ms = taskC x ∧ RowG 3 H x.pa x.parts partC ∧ (taskC x).all one = true := by
  obtain ⟨m0, m1, m2, m3, m4, m5, d0, d1, d2, d3, d4, d5, rfl, g0, g1, g2, g3, g4, g5⟩ := repL6 h
  cases g0; cases g1; cases g2; cases g3; cases g4
  obtain ⟨a, l, rfl, hr, _, _⟩ := rep_rowG g5 fun ms ds h => rep_part h
  exact ⟨⟨_, _, _, _, _, a, l.length, l⟩, rfl, hr, rfl⟩
theorem rep_set {H : MH} {ms : List Value} {ds : List D} (h : RepL H shSet ms ds) : ∃ s : SetL, ms = s.cells ∧ SetRaw H s := by
  obtain ⟨m0, m1, m2, m3, d0, d1, d2, d3, rfl, g0, g1, g2, g3⟩ := repL4 h
  cases g0
  obtain ⟨a1, l1, rfl, r1, _, _⟩ := rep_rowG g1 fun ms ds h => rep_int1 h
  obtain ⟨a2, l2, rfl, r2, _, _⟩ := rep_rowG g2 fun ms ds h => rep_int1 h
  obtain ⟨a3, l3, rfl, r3, q3, _⟩ := rep_rowG g3 fun ms ds h => rep_task h
  exact ⟨⟨_, l1, a1, l1.length, l2, a2, l2.length, l3, a3, l3.length⟩, rfl, r1, r2, r3, q3, Nat.le_refl _⟩

/-! ### is it small -/
/-- 'few' -/
def cFew_0 : MCode := .seq (.seq (.ops [⟨(some 20), .mov, [.r 3], none, []⟩,
      ⟨(some 21), .fa 3, [.r 1], none, []⟩,
      ⟨(some 22), .ld none, [.r 21], none, [21]⟩,
      ⟨(some 23), .len, [.r 22], none, [22]⟩,
      ⟨(some 24), .bin .lss, [.r 20, .r 23], none, [20, 23]⟩]) <|
    .cond (.r 24)
      (.skip)
      (.exit 0)) <|
    .seq (.block 1 (.seq (.ops [⟨(some 27), .fa 3, [.r 1], none, [24]⟩,
        ⟨(some 28), .ld none, [.r 27], none, [27]⟩,
        ⟨(some 29), .mov, [.r 3], none, []⟩,
        ⟨(some 30), .ia 6, [.r 28, .r 29], none, [28, 29]⟩,
        ⟨(some 31), .fa 0, [.r 30], none, [30]⟩,
        ⟨(some 32), .ld none, [.r 31], none, [31]⟩,
        ⟨(some 33), .lens, [.r 32], none, [32]⟩,
        ⟨(some 34), .bin .gtr, [.r 33, .k (.int .i64 20)], none, [33]⟩,
        ⟨(some 35), .mov, [.r 34], none, [34]⟩,
        ⟨(some 36), .fa 3, [.r 1], (some (35, false)), []⟩,
        ⟨(some 37), .ld none, [.r 36], (some (35, false)), [36]⟩,
        ⟨(some 38), .mov, [.r 3], (some (35, false)), []⟩,
        ⟨(some 39), .ia 6, [.r 37, .r 38], (some (35, false)), [37, 38]⟩,
        ⟨(some 40), .fa 5, [.r 39], (some (35, false)), [39]⟩,
        ⟨(some 41), .ld none, [.r 40], (some (35, false)), [40]⟩,
        ⟨(some 42), .len, [.r 41], (some (35, false)), [41]⟩,
        ⟨(some 43), .bin .gtr, [.r 42, .k (.int .i64 10)], (some (35, false)), [42]⟩,
        ⟨(some 44), .pick, [.r 35, .k (.bool true), .r 43], none, [35, 43]⟩]) <|
      .cond (.r 44)
        (.seq (.ops [⟨(some 2), .mov, [.k (.bool false)], none, [1, 3, 44]⟩]) <|
        .ret)
        (.skip))) <|
    .ops [⟨(some 25), .mov, [.r 3], none, [3, 44]⟩,
      ⟨(some 26), .bin .add, [.r 25, .k (.int .i64 1)], none, [25]⟩,
      ⟨(some 3), .mov, [.r 26], none, [26]⟩]
def cFew : MFn := ⟨[.tmp 2], .seq (.ops [⟨(some 1), .box, [.r 0], none, [0]⟩,
  ⟨(some 2), .mov, [.k (.bool false)], none, [2]⟩]) <|
.seq (.seq (.ops [⟨(some 4), .fa 1, [.r 1], none, []⟩,
  ⟨(some 5), .ld none, [.r 4], none, [4]⟩,
  ⟨(some 6), .len, [.r 5], none, [5]⟩,
  ⟨(some 7), .bin .gtr, [.r 6, .k (.int .i64 8)], none, [6]⟩,
  ⟨(some 8), .mov, [.r 7], none, [7]⟩,
  ⟨(some 9), .fa 2, [.r 1], (some (8, false)), []⟩,
  ⟨(some 10), .ld none, [.r 9], (some (8, false)), [9]⟩,
  ⟨(some 11), .len, [.r 10], (some (8, false)), [10]⟩,
  ⟨(some 12), .bin .gtr, [.r 11, .k (.int .i64 10)], (some (8, false)), [11]⟩,
  ⟨(some 13), .pick, [.r 8, .k (.bool true), .r 12], none, [8, 12]⟩,
  ⟨(some 14), .mov, [.r 13], none, [13]⟩,
  ⟨(some 15), .fa 3, [.r 1], (some (14, false)), []⟩,
  ⟨(some 16), .ld none, [.r 15], (some (14, false)), [15]⟩,
  ⟨(some 17), .len, [.r 16], (some (14, false)), [16]⟩,
  ⟨(some 18), .bin .gtr, [.r 17, .k (.int .i64 9)], (some (14, false)), [17]⟩,
  ⟨(some 19), .pick, [.r 14, .k (.bool true), .r 18], none, [14, 18]⟩]) <|
.cond (.r 19)
  (.seq (.ops [⟨(some 2), .mov, [.k (.bool false)], none, [1, 19]⟩]) <|
  .ret)
  (.skip)) <|
.seq (.seq (.ops [⟨(some 3), .mov, [.k (.int .i64 0)], none, [19]⟩]) <|
.block 0 (.loop cFew_0)) <|
.seq (.ops [⟨(some 2), .mov, [.k (.bool true)], none, [1, 3, 24]⟩]) <|
.ret⟩
def fewS (s : SetL) : Prop := s.cores.length ≤ 8 ∧ s.homes.length ≤ 10 ∧ s.tasks.length ≤ 9 ∧ ∀ t ∈ s.tasks, t.name.size ≤ 20 ∧ t.parts.length ≤ 10
theorem SetRaw.at {H : MH} {s : SetL} (h : SetRaw H s) (f : fewS s) : SetAt H s := ⟨h.cores, h.homes, h.tasks, h.parts, by have := f.1; omega, by have := f.2.1; omega, by have := f.2.2.1; omega, h.tc, fun t ht => by have := f.2.2.2 t ht; omega⟩
section
variable {mp : FuncId → Option MDef} {H0 H : MH}
theorem few_loop {s : SetL} (hs : SetRaw H0 s) (h9 : s.tasks.length ≤ 9) {bx : Nat} {ix : Info} (hx : H0[bx]? = some (.cells ix s.cells)) : ∀ (k i : Nat) (H : MH), i + k = s.tasks.length → Ext H0 H →
    ((∀ t ∈ s.tasks.drop i, t.name.size ≤ 20 ∧ t.parts.length ≤ 10) ∧ GL mp (.loop cFew_0) [(1, .pointer (some ⟨bx, 0, none⟩)), (3, .int .i64 (i : Int))] H (.exit 0) [(1, .pointer (some ⟨bx, 0, none⟩)), (3, .int .i64 (s.tasks.length : Int)), (24, .bool false)]) ∨
    ((¬ ∀ t ∈ s.tasks.drop i, t.name.size ≤ 20 ∧ t.parts.length ≤ 10) ∧ GL mp (.loop cFew_0) [(1, .pointer (some ⟨bx, 0, none⟩)), (3, .int .i64 (i : Int))] H .ret [(2, .bool false)]) := by
  have hd := ldb hx
  simp only [SetL.cells] at hd
  intro k
  induction k with
  | zero =>
    intro i H hk e
    have : i = s.tasks.length := by omega
    subst this
    refine .inl ⟨by simp, ?_⟩
    unfold GL
    rw [Rc_loop]
    simp [cFew_0, hd, e]
  | succ k ih =>
    intro i H hk e
    have hin : i < s.tasks.length := by omega
    obtain ⟨t, ht⟩ : ∃ y, s.tasks[i]? = some y := ⟨_, List.getElem?_eq_getElem hin⟩
    have w : IntKind.i64.wrap ((i : Int) + 1) = (i : Int) + 1 := wrap_i64 (by omega) (by omega)
    have hrd := hs.tasks.rd ht
    have hrd0 := hs.tasks.rd0 ht (by omega)
    rw [drop_at ht]
    by_cases k1 : (20 : Int) < (t.name.size : Int)
    · refine .inr ⟨fun h => by have := h t (by simp); omega, ?_⟩
      unfold GL
      rw [Rc_loop]
      simp (maxDischargeDepth := 12) [cFew_0, hd, e, hin, hs.tasks.ia, hrd, hrd0, taskC, k1]
    by_cases k2 : (10 : Int) < (t.parts.length : Int)
    · refine .inr ⟨fun h => by have := h t (by simp); omega, ?_⟩
      unfold GL
      rw [Rc_loop]
      simp (maxDischargeDepth := 12) [cFew_0, hd, e, hin, hs.tasks.ia, hrd, hrd0, taskC, k1, k2]
    have ht2 : t.name.size ≤ 20 ∧ t.parts.length ≤ 10 := by omega
    rcases ih (i + 1) H (by omega) e with ⟨h1, h2⟩ | ⟨h1, h2⟩
    · refine .inl ⟨by simpa [ht2] using h1, ?_⟩
      unfold GL
      rw [Rc_loop]
      simp (maxDischargeDepth := 12) [cFew_0, hd, e, hin, hs.tasks.ia, hrd, hrd0, taskC, k1, k2, w]
      exact h2
    · refine .inr ⟨by simpa [ht2] using h1, ?_⟩
      unfold GL
      rw [Rc_loop]
      simp (maxDischargeDepth := 12) [cFew_0, hd, e, hin, hs.tasks.ia, hrd, hrd0, taskC, k1, k2, w]
      exact h2
open Classical in
theorem G_few {f : FuncId} (hf : mp f = some (.code cFew)) {s : SetL} (hs : SetRaw H0 s) (e : Ext H0 H) : GR mp f [.agg s.cells.toArray] H (.bool (decide (fewS s))) := by
  have e1 : Ext H (H ++ [.cells ⟨0, true, false⟩ s.cells]) := ⟨_, rfl⟩
  have hx : (H ++ [MObj.cells ⟨0, true, false⟩ s.cells])[H.length]? = some (.cells ⟨0, true, false⟩ s.cells) := by simp
  have hd := ldb hx
  simp only [SetL.cells] at hd
  unfold GR
  rw [R_code hf]
  by_cases k1 : (8 : Int) < (s.cores.length : Int)
  · rw [decide_eq_false fun h => by have := h.1; omega]
    simp (maxDischargeDepth := 12) [cFew, SetL.cells, hd, k1]
  by_cases k2 : (10 : Int) < (s.homes.length : Int)
  · rw [decide_eq_false fun h => by have := h.2.1; omega]
    simp (maxDischargeDepth := 12) [cFew, SetL.cells, hd, k1, k2]
  by_cases k3 : (9 : Int) < (s.tasks.length : Int)
  · rw [decide_eq_false fun h => by have := h.2.2.1; omega]
    simp (maxDischargeDepth := 12) [cFew, SetL.cells, hd, k1, k2, k3]
  rcases few_loop (mp := mp) (hs.ext (e.trans e1)) (by omega) hx s.tasks.length 0 _ (by omega) (Ext.refl _) with ⟨g1, g2⟩ | ⟨g1, g2⟩
  · rw [List.drop_zero] at g1
    rw [decide_eq_true ⟨by omega, by omega, by omega, g1⟩]
    have g2 := g2.eq
    simp [SetL.cells] at g2
    simp (maxDischargeDepth := 12) [cFew, SetL.cells, hd, k1, k2, k3, g2]
  · rw [List.drop_zero] at g1
    rw [decide_eq_false fun h => g1 h.2.2.2]
    have g2 := g2.eq
    simp [SetL.cells] at g2
    simp (maxDischargeDepth := 12) [cFew, SetL.cells, hd, k1, k2, k3, g2]
end
end Go.Mod
/- Appends by what stands at a place: for heaps that are spelt out. -/
set_option linter.unusedVariables false
set_option linter.unusedSimpArgs false
namespace Go.Mod
section
variable {H : MH} {b o n c es bytes len cap : Nat} {i : Info} {cs : List Value} {y : Value}
def srcO (o n es : Nat) : Option MObj → Option (Nat × List Value)
  | some (.cells _ c) => if o + n * es ≤ c.length then some (n, (c.drop o).take (n * es)) else none
  | _ => none
@[simp] theorem srcO_cells : srcO o n es (some (.cells i cs)) = if o + n * es ≤ cs.length then some (n, (cs.drop o).take (n * es)) else none := Eq.trans rfl rfl
theorem srcx : srcCells es H (.slice (some ⟨b, o, none⟩) n c) = srcO o n es H[b]? := by
  simp only [srcCells]
  cases H[b]? with
  | none => rfl
  | some x => cases x <;> rfl
def appN (es bytes : Nat) (H : MH) : Option (Nat × List Value) → Option (Value × MH)
  | some (n, ys) => if n = 0 then some (.slice none 0 0, H) else if n ≤ 4294967296 ∧ bytes ≤ 4096 then some (.slice (some ⟨H.length, 0, none⟩) n n, H ++ [.cells ⟨es, true, false⟩ ys]) else none
  | none => none
@[simp] theorem appN_some {ys : List Value} : appN es bytes H (some (n, ys)) = if n = 0 then some (.slice none 0 0, H) else if n ≤ 4294967296 ∧ bytes ≤ 4096 then some (.slice (some ⟨H.length, 0, none⟩) n n, H ++ [.cells ⟨es, true, false⟩ ys]) else none := Eq.trans rfl rfl
theorem appx0 : meff (.app es bytes) [.slice none 0 0, y] H = appN es bytes H (srcCells es H y) := by
  simp only [meff, mapp]
  cases srcCells es H y <;> rfl
/-- Append behind what there is. -/
def appG (es bytes b o len cap : Nat) (H : MH) : Option (Nat × List Value) → Option MObj → Option (Value × MH)
  | some (n, ys), some (.cells i c) =>
      if n = 0 then some (.slice (some ⟨b, o, none⟩) len cap, H) else
      if i.es = es ∧ len ≤ cap then
        if len + n ≤ cap then
          if i.rw = true ∧ o + (len + n) * es ≤ c.length ∧ okc ys = true then some (.slice (some ⟨b, o, none⟩) (len + n) cap, H.set b (.cells i (fillAt c (o + len * es) ys))) else none
        else if len + n ≤ 4294967296 ∧ bytes ≤ 4096 ∧ o + len * es ≤ c.length ∧ okc ys = true then
          if i.ex = true then some (.slice (some ⟨H.length, 0, none⟩) (len + n) (len + n), H ++ [.cells ⟨es, true, false⟩ ((c.drop o).take (len * es) ++ ys)])
          else if i.rw = true ∧ o + cap * es = c.length then
            some (.slice (some ⟨H.length, 0, none⟩) (len + n) (len + n), H.set b .dead ++ [.cells ⟨es, true, false⟩ ((c.drop o).take (len * es) ++ ys)]) else none
        else none
      else none
  | _, _ => none
@[simp] theorem appG_some {ys : List Value} : appG es bytes b o len cap H (some (n, ys)) (some (.cells i cs)) = 
      if n = 0 then some (.slice (some ⟨b, o, none⟩) len cap, H) else
      if i.es = es ∧ len ≤ cap then
        if len + n ≤ cap then
          if i.rw = true ∧ o + (len + n) * es ≤ cs.length ∧ okc ys = true then some (.slice (some ⟨b, o, none⟩) (len + n) cap, H.set b (.cells i (fillAt cs (o + len * es) ys))) else none
        else if len + n ≤ 4294967296 ∧ bytes ≤ 4096 ∧ o + len * es ≤ cs.length ∧ okc ys = true then
          if i.ex = true then some (.slice (some ⟨H.length, 0, none⟩) (len + n) (len + n), H ++ [.cells ⟨es, true, false⟩ ((cs.drop o).take (len * es) ++ ys)])
          else if i.rw = true ∧ o + cap * es = cs.length then
            some (.slice (some ⟨H.length, 0, none⟩) (len + n) (len + n), H.set b .dead ++ [.cells ⟨es, true, false⟩ ((cs.drop o).take (len * es) ++ ys)]) else none
        else none
      else none := Eq.trans rfl rfl
theorem appx : meff (.app es bytes) [.slice (some ⟨b, o, none⟩) len cap, y] H = appG es bytes b o len cap H (srcCells es H y) H[b]? := by
  simp only [meff, mapp]
  cases srcCells es H y with
  | none => rfl
  | some p =>
    cases H[b]? with
    | none => rfl
    | some x => cases x <;> simp [appG]
end
end Go.Mod
/- Many pieces of a heap side by side, one of which turns; boxes, channels; clones, spelt out; a row that is sorted. -/
set_option linter.unusedVariables false
set_option linter.unusedSimpArgs false
namespace Go.Mod

/-! ### many pieces -/
def Sep : List (MH → List Nat → Prop) → MH → List Nat → Prop
  | [] => Emp
  | P :: l => P * Sep l
section
variable {H H1 : MH} {F : List Nat} {l : List (MH → List Nat → Prop)} {P : HP}
theorem Sep.good : ∀ {l : List (MH → List Nat → Prop)}, (∀ P ∈ l, Good P) → Good (Sep l)
  | [], _ => Emp.good
  | P :: l, h => (h P (by simp)).star (Sep.good fun Q hq => h Q (by simp [hq]))
theorem Sep.at_ : ∀ {l : List (MH → List Nat → Prop)} {k : Nat} {F : List Nat}, Sep l H F → l[k]? = some P → ∃ A, P H A ∧ ∀ x ∈ A, x ∈ F
  | [], k, F, _, hk => by simp at hk
  | Q :: l, 0, F, h, hk => by simp at hk; subst hk; exact star_l h
  | Q :: l, k + 1, F, h, hk => by
    obtain ⟨B, hB, hs⟩ := star_r h
    obtain ⟨A, hA, hs2⟩ := Sep.at_ hB (by simpa using hk)
    exact ⟨A, hA, fun x hx => hs x (hs2 x hx)⟩
/-- One piece turns. -/
theorem Sep.upd {ι : Type} {P' : ι → HP} (gi : ∀ i, Good (P' i)) {C : ι → MH → Prop} : ∀ {l : List (MH → List Nat → Prop)} {k : Nat} {F : List Nat}, (∀ P ∈ l, Good P) → Sep l H F → l[k]? = some P →
    (∀ A, P H A → (∀ x ∈ A, x ∈ F) → ∃ i H' A', P' i H' A' ∧ Upd H A H' A' ∧ C i H') → ∃ i H' F', Sep (l.set k (P' i)) H' F' ∧ Upd H F H' F' ∧ C i H'
  | [], k, F, _, _, hk, _ => by simp at hk
  | Q :: l, 0, F, g, h, hk, hx => by
    simp at hk; subst hk
    exact star_upd (P' := P') (Sep.good fun R hr => g R (by simp [hr])) gi h hx
  | Q :: l, k + 1, F, g, h, hk, hx => by
    have gl : ∀ P ∈ l, Good P := fun R hr => g R (by simp [hr])
    have gs : ∀ i, Good (Sep (l.set k (P' i))) := fun i => Sep.good fun R hr => by
      rcases List.mem_or_eq_of_mem_set hr with h | rfl
      · exact gl R h
      · exact gi i
    obtain ⟨i, H', F', p, u, c⟩ := star_upd (P := Sep l) (P' := fun i => Sep (l.set k (P' i))) (C := C) (g Q (by simp)) gs (star_comm h) (fun B hB hs =>
      Sep.upd gi gl hB (by simpa using hk) fun A hA hs2 => hx A hA fun x hx => hs x (hs2 x hx))
    exact ⟨i, H', F', star_comm p, u, c⟩
theorem Sep.ext (g : ∀ P ∈ l, Good P) (h : Sep l H F) (e : Ext H H1) : Sep l H1 F := (Sep.good g).ext h e
/-- A piece is another one, all the same. -/
theorem Sep.imp {P' : HP} : ∀ {l : List (MH → List Nat → Prop)} {k : Nat} {F : List Nat}, Sep l H F → l[k]? = some P → (∀ A, P H A → P' H A) → Sep (l.set k P') H F
  | [], k, F, _, hk, _ => by simp at hk
  | Q :: l, 0, F, h, hk, hx => by
    simp at hk; subst hk
    exact star_comm (star_imp (star_comm h) hx)
  | Q :: l, k + 1, F, h, hk, hx => star_imp (P := Q) (Q := Sep l) (Q' := Sep (l.set k P')) h fun B hB => Sep.imp hB (by simpa using hk) hx
theorem Sep.one (h : P H F) : Sep [P] H F := ⟨F, [], h, rfl, by simp, by simp⟩
theorem Sep.app : ∀ {l k : List (MH → List Nat → Prop)} {A B : List Nat}, Sep l H A → Sep k H B → (∀ x ∈ A, x ∉ B) → Sep (l ++ k) H (A ++ B)
  | [], k, A, B, h1, h2, _ => by
    have : A = [] := h1
    subst this; exact h2
  | Q :: l, k, A, B, h1, h2, hd => by
    obtain ⟨A1, A2, a1, a2, a3, a4⟩ := h1
    refine ⟨A1, A2 ++ B, a1, Sep.app a2 h2 (fun x hx => hd x ((a4 x).2 (.inr hx))), fun x hx hx' => ?_, fun x => ?_⟩
    · rcases List.mem_append.1 hx' with h | h
      · exact a3 x hx h
      · exact hd x ((a4 x).2 (.inl hx)) h
    · simp [a4, or_assoc]
/-- A piece more, all new. -/
theorem Sep.cons {G : List Nat} {Q : HP} (g : ∀ P ∈ l, Good P) (h : Sep l H F) (e : Ext H H1) (hq : Q H1 G) (hG : ∀ id ∈ G, H.length ≤ id) : ∃ F1, Sep (Q :: l) H1 F1 ∧ Upd H F H1 F1 := by
  have gs := Sep.good g
  refine ⟨G ++ F, ⟨G, F, hq, gs.ext h e, fun x hx hf => ?_, fun x => by simp⟩, Upd.of_fp (Fp.ext e (fun _ => False)) (fun _ _ h => h.elim) fun id hid => ?_⟩
  · have := gs.lt h x hf; have := hG x hx; omega
  · rcases List.mem_append.1 hid with h | h
    · exact .inr (hG id h)
    · exact .inl h

/-! ### boxes, channels -/
/-- An object for each. -/
def Objs {α : Type} (id : α → Nat) (o : α → MObj) (l : List α) : HP := fun H F => F = l.map id ∧ (l.map id).Nodup ∧ ∀ a ∈ l, H[id a]? = some (o a)
section
variable {α : Type} {id : α → Nat} {o : α → MObj} {ak : List α}
theorem Objs.good : Good (Objs id o ak) := by
  refine ⟨?_, ?_⟩
  · rintro H H' F ⟨rfl, h2, h3⟩ hf
    exact ⟨rfl, h2, fun a ha => by rw [hf (id a) (List.mem_map_of_mem ha)]; exact h3 a ha⟩
  · rintro H F ⟨rfl, h2, h3⟩ x hx
    obtain ⟨a, ha, rfl⟩ := List.mem_map.1 hx
    exact (List.getElem?_eq_some_iff.1 (h3 a ha)).1
theorem Objs.nil : Objs id o [] H [] := ⟨rfl, by simp, by simp⟩
/-- One more, new. -/
theorem Objs.snoc (h : Objs id o ak H F) {a : α} (hid : id a = H.length) : Objs id o (ak ++ [a]) (H ++ [o a]) (F ++ [H.length]) ∧ Upd H F (H ++ [o a]) (F ++ [H.length]) := by
  have hlt := Objs.good.lt h
  obtain ⟨rfl, h2, h3⟩ := h
  refine ⟨⟨by simp [hid], ?_, fun b hb => ?_⟩, Upd.push fun id hid => ?_⟩
  · rw [List.map_append, List.nodup_append]
    refine ⟨h2, by simp, fun x hx y hy => ?_⟩
    simp at hy; subst hy
    have := hlt x hx; omega
  · rcases List.mem_append.1 hb with hb | hb
    · have := h3 b hb
      rw [List.getElem?_append_left (List.getElem?_eq_some_iff.1 this).1]; exact this
    · simp at hb; subst hb
      rw [hid]; simp
  · rcases List.mem_append.1 hid with h | h
    · exact .inl h
    · simp at h; exact .inr (by omega)
theorem map_inj_at {α : Type} {id : α → Nat} {ak : List α} (h : (ak.map id).Nodup) {i k : Nat} {a b : α} (hi : ak[i]? = some a) (hk : ak[k]? = some b) (e : id a = id b) : i = k := by
  have key : ∀ (i k : Nat) (a b : α), ak[i]? = some a → ak[k]? = some b → id a = id b → ¬ i < k := fun i k a b hi hk e hlt => by
    have hil := (List.getElem?_eq_some_iff.1 hi).1
    have hkl := (List.getElem?_eq_some_iff.1 hk).1
    have := List.pairwise_iff_getElem.1 h i k (by simpa using hil) (by simpa using hkl) hlt
    simp only [List.getElem_map] at this
    rw [(List.getElem?_eq_some_iff.1 hi).2, (List.getElem?_eq_some_iff.1 hk).2] at this
    exact this e
  have h1 := key i k a b hi hk e
  have h2 := key k i b a hk hi e.symm
  omega
/-- One turns. -/
theorem Objs.set_ (h : Objs id o ak H F) {i : Nat} {a a' : α} (hi : ak[i]? = some a) (he : id a' = id a) : Objs id o (ak.set i a') (H.set (id a) (o a')) F ∧ Upd H F (H.set (id a) (o a')) F := by
  obtain ⟨rfl, h2, h3⟩ := h
  have hil := (List.getElem?_eq_some_iff.1 hi).1
  have hia := (List.getElem?_eq_some_iff.1 hi).2
  have hat := h3 a (List.mem_of_getElem? hi)
  have hlt := (List.getElem?_eq_some_iff.1 hat).1
  have hm : (ak.set i a').map id = ak.map id := by
    rw [List.map_set, he]
    apply List.ext_getElem?
    intro k
    rw [List.getElem?_set]
    split
    · rename_i e; subst e; simp [hil, hia]
    · rfl
  refine ⟨⟨hm.symm, by rw [hm]; exact h2, fun b hb => ?_⟩, ⟨by simp, fun k _ hn => List.getElem?_set_ne ?_, fun k h => .inl h⟩⟩
  · obtain ⟨k, hk⟩ := List.mem_iff_getElem?.1 hb
    by_cases e : i = k
    · subst e
      rw [List.getElem?_set_self hil] at hk
      have e := Option.some.inj hk
      rw [← e, he]
      exact List.getElem?_set_self hlt
    · rw [List.getElem?_set_ne e] at hk
      have hne' : id a ≠ id b := fun e' => e (map_inj_at h2 hi hk e')
      exact (List.getElem?_set_ne hne').trans (h3 b (List.mem_of_getElem? hk))
  · rintro rfl
    exact hn (List.mem_map_of_mem (List.mem_of_getElem? hi))
/-- Some are away. -/
theorem Objs.sub (h : Objs id o ak H F) {bs : List α} (hs : bs.Sublist ak) : ∃ G, Objs id o bs H G ∧ ∀ x ∈ G, x ∈ F := by
  obtain ⟨rfl, h2, h3⟩ := h
  exact ⟨_, ⟨rfl, h2.sublist (hs.map id), fun a ha => h3 a (hs.subset ha)⟩, fun x hx => (hs.map id).subset hx⟩
end
end

/-! ### rows -/
theorem RowG.frame {α : Type} {w : Nat} {H H' : MH} {a : Option Addr} {l : List α} {g : α → List Value} (h : RowG w H a l g) (hf : l ≠ [] → H'[adB a]? = H[adB a]?) : RowG w H' a l g :=
  ⟨h.ad, fun k x hx => by
    have hne : l ≠ [] := by rintro rfl; simp at hx
    obtain ⟨i, cs, h1, h2⟩ := h.rec_ k x hx
    exact ⟨i, cs, by rw [hf hne]; exact h1, h2⟩, h.wid⟩
/-- A row of records that is held. -/
def RecA {α : Type} (w : Nat) (a : Option Addr) (l : List α) (g : α → List Value) : HP := fun H F => RowG w H a l g ∧ ∀ x, x ∈ F ↔ x = adB a ∧ l ≠ []
theorem RecA.good {α : Type} {w : Nat} {a : Option Addr} {l : List α} {g : α → List Value} : Good (RecA w a l g) := by
  refine ⟨fun ⟨h1, h2⟩ hf => ⟨h1.frame fun hn => hf _ ((h2 _).2 ⟨rfl, hn⟩), h2⟩, fun ⟨h1, h2⟩ id hid => ?_⟩
  obtain ⟨rfl, hn⟩ := (h2 id).1 hid
  cases l with
  | nil => exact absurd rfl hn
  | cons x l =>
    obtain ⟨i, cs, h3, _⟩ := h1.rec_ 0 x rfl
    exact (List.getElem?_eq_some_iff.1 h3).1

/-- slices.Clone, spelt out. -/
theorem R_cloneX {mp : FuncId → Option MDef} {f es bytes : Nat} {z : List Value} (hf : mp f = some (.code (cClone es bytes z))) (hz : z.length = es) (hes : 0 < es) (hbytes : bytes ≤ 4096) {H : MH} {v : Value} {l : List Value} (hr : Row es H v l) (hl : l.all one = true) (hn : l.length ≤ 1000000) :
    ∃ v' X, R mp f [v] H = some (v', H ++ X) ∧ ((v' = .slice none 0 0 ∧ l = [] ∧ X = []) ∨ (v' = .slice (some ⟨H.length, 0, none⟩) 0 0 ∧ l = [] ∧ X = [.cells ⟨es, true, true⟩ []]) ∨
      ∃ n, v' = .slice (some ⟨H.length + 1, 0, none⟩) n n ∧ X = [.cells ⟨es, true, true⟩ [], .cells ⟨es, true, false⟩ l] ∧ l.length = n * es ∧ n ≠ 0) := by
  obtain ⟨a, n, c, rfl, hlen⟩ := hr.slice
  rcases hr with ⟨h1, h2⟩ | ⟨b, o, m, d, i, cs, h1, h2, h3, h4, h5, h6⟩
  · cases h1; subst h2
    refine ⟨.slice none 0 0, [], ?_, .inl ⟨rfl, rfl, rfl⟩⟩
    rw [R_code hf]
    simp [cClone]
  · cases h1
    have hr : Row es H (.slice (some ⟨b, o, none⟩) n c) l := .inr ⟨b, o, n, c, i, cs, rfl, h2, h3, h4, h5, h6⟩
    have hr1 : Row es (H ++ [.cells ⟨es, true, true⟩ []]) (.slice (some ⟨b, o, none⟩) n c) l := hr.app
    have hg : (H ++ [MObj.cells ⟨es, true, true⟩ []])[H.length]? = some (.cells ⟨es, true, true⟩ []) := by simp
    have hnl : n ≤ l.length := by
      rw [← hlen]; exact Nat.le_mul_of_pos_right n hes
    by_cases h0 : n = 0
    · subst h0
      have happ := app_zero (es := es) (bytes := bytes) (H := H ++ [.cells ⟨es, true, true⟩ []]) (a := some ⟨H.length, 0, none⟩) (len := 0) (cap := 0) (y := .slice (some ⟨b, o, none⟩) 0 c) (ys := l) (by simp) (by rintro x hx; cases hx; exact ⟨_, _, rfl, hg⟩) hr1.src
      refine ⟨_, [.cells ⟨es, true, true⟩ []], ?_, .inr (.inl ⟨rfl, List.eq_nil_of_length_eq_zero (by omega), rfl⟩)⟩
      rw [R_code hf]
      simp [cClone, happ, hz]
    · have happ := app_ex (bytes := bytes) (len := 0) (cap := 0) (o := 0) hg hr1.src h0 rfl (by omega) (by omega) (by omega) (by omega) rfl (by simp) hl
      refine ⟨.slice (some ⟨H.length + 1, 0, none⟩) n n, [.cells ⟨es, true, true⟩ []] ++ [.cells ⟨es, true, false⟩ l], ?_, .inr (.inr ⟨n, rfl, rfl, hlen.symm, h0⟩)⟩
      rw [R_code hf]
      simp [cClone, happ, hz]
/-! ### slices that lead somewhere -/
def SrcA (w : Nat) (H : MH) (a : Option Addr) (n : Nat) : Prop := (a = none ∧ n = 0) ∨ ∃ b o i cs, a = some ⟨b, o, none⟩ ∧ H[b]? = some (.cells i cs) ∧ i.es = w ∧ o + n * w ≤ cs.length
theorem SrcA.ext {w : Nat} {H H1 : MH} {a : Option Addr} {n : Nat} (h : SrcA w H a n) (e : Ext H H1) : SrcA w H1 a n := by
  rcases h with h | ⟨b, o, i, cs, h1, h2, h3⟩
  · exact .inl h
  · exact .inr ⟨b, o, i, cs, h1, e.get h2, h3⟩
theorem rowG_cells {α : Type} {w : Nat} {H : MH} {a : Option Addr} {l : List α} {g : α → List Value} (h : RowG w H a l g) (hw0 : 0 < w) {b o : Nat} {i : Info} {cs : List Value} (ha : a = some ⟨b, o, none⟩) (hb : H[b]? = some (.cells i cs)) (hl : o + l.length * w ≤ cs.length) : (cs.drop o).take (l.length * w) = l.flatMap g := by
  subst ha
  have hfl := flat_len (f := g) (w := w) (l := l) fun x hx => (h.wid x hx).1
  apply List.ext_getElem?
  intro q
  by_cases hq : q < l.length * w
  · have hkl : q / w < l.length := (Nat.div_lt_iff_lt_mul hw0).2 hq
    have hmod := Nat.mod_lt q hw0
    have e := Nat.div_add_mod q w
    rw [Nat.mul_comm] at e
    obtain ⟨i', cs', h1, h2, h3, h4⟩ := h.rec_ (q / w) _ (List.getElem?_eq_getElem hkl)
    have hb' : H[b]? = some (.cells i' cs') := h1
    rw [hb] at hb'; cases hb'
    have h5 := flat_at (f := g) (fun x hx => (h.wid x hx).1) (List.getElem?_eq_getElem hkl)
    have h4 : (cs.drop (o + q / w * w)).take w = g l[q / w] := h4
    have h6 := congrArg (fun l => l[q % w]?) (h4.trans h5.symm)
    simp only [List.getElem?_take, if_pos hmod, List.getElem?_drop] at h6
    rw [List.getElem?_take_of_lt hq, List.getElem?_drop]
    rw [e] at h6
    rw [← h6, Nat.add_assoc, e]
  · rw [List.getElem?_eq_none (by simp; omega), List.getElem?_eq_none (by omega)]
theorem RowG.srcs {α : Type} {w : Nat} {H : MH} {a : Option Addr} {l : List α} {g : α → List Value} (h : RowG w H a l g) (hw0 : 0 < w) (hs : SrcA w H a l.length) (c : Nat) : srcCells w H (.slice a l.length c) = some (l.length, l.flatMap g) := by
  rcases hs with ⟨rfl, h0⟩ | ⟨b, o, i, cs, rfl, hb, hes, hl⟩
  · have : l = [] := List.eq_nil_of_length_eq_zero h0
    subst this; rfl
  · simp only [srcCells, hb]
    rw [if_pos hl, rowG_cells h hw0 rfl hb hl]
theorem rowG_new {α : Type} {w : Nat} {H : MH} {b : Nat} {l : List α} {g : α → List Value} {i : Info} (hb : H[b]? = some (.cells i (l.flatMap g))) (hes : i.es = w) (hwid : ∀ x ∈ l, (g x).length = w ∧ (g x).all one = true) : RowG w H (some ⟨b, 0, none⟩) l g := by
  have hfl := flat_len (f := g) (w := w) (l := l) fun x hx => (hwid x hx).1
  refine ⟨.inr rfl, fun k x hx => ⟨i, _, hb, hes, by show 0 + l.length * w ≤ _; omega, ?_⟩, hwid⟩
  show ((l.flatMap g).drop (0 + k * w)).take w = g x
  rw [Nat.zero_add]
  exact flat_at (fun x hx => (hwid x hx).1) hx
/-- slices.Clone of records. -/
theorem R_cloneG {mp : FuncId → Option MDef} {f es bytes : Nat} {z : List Value} (hf : mp f = some (.code (cClone es bytes z))) (hz : z.length = es) (hes : 0 < es) (hbytes : bytes ≤ 4096) {α : Type} {H : MH} {a : Option Addr} {l : List α} {g : α → List Value} (hr : RowG es H a l g) (hs : SrcA es H a l.length) (hn : l.length * es ≤ 1000000) (c : Nat) :
    ∃ (a' : Option Addr) (c' : Nat) (X : MH), R mp f [.slice a l.length c] H = some (.slice a' l.length c', H ++ X) ∧ RowG es (H ++ X) a' l g ∧ SrcA es (H ++ X) a' l.length ∧ l.length ≤ c' ∧ (∀ b o, a' = some ⟨b, o, none⟩ → H.length ≤ b) ∧
      (l ≠ [] → a' = some ⟨H.length + 1, 0, none⟩ ∧ c' = l.length ∧ X = [.cells ⟨es, true, true⟩ [], .cells ⟨es, true, false⟩ (l.flatMap g)]) := by
  have hfl := flat_len (f := g) (w := es) (l := l) fun x hx => (hr.wid x hx).1
  have hall : (l.flatMap g).all one = true := by
    rw [List.all_eq_true]
    intro x hx
    obtain ⟨y, hy, hx⟩ := List.mem_flatMap.1 hx
    exact List.all_eq_true.1 (hr.wid y hy).2 x hx
  rcases hs with ⟨rfl, h0⟩ | ⟨b, o, i, cs, rfl, hb, hei, hl⟩
  · have : l = [] := List.eq_nil_of_length_eq_zero h0
    subst this
    refine ⟨none, 0, [], ?_, RowG.nil, .inl ⟨rfl, rfl⟩, Nat.le_refl _, (fun b o e => by cases e), fun h => absurd rfl h⟩
    rw [R_code hf]
    simp [cClone]
  · have x1 : Ext H (H ++ [.cells ⟨es, true, true⟩ []]) := ⟨_, rfl⟩
    have hs : SrcA es H (some ⟨b, o, none⟩) l.length := .inr ⟨b, o, i, cs, rfl, hb, hei, hl⟩
    have hsrc := (hr.ext x1).srcs hes (hs.ext x1) c
    have hg : (H ++ [MObj.cells ⟨es, true, true⟩ []])[H.length]? = some (.cells ⟨es, true, true⟩ []) := by simp
    have hll : l.length ≤ l.length * es := Nat.le_mul_of_pos_right _ hes
    by_cases h0 : l = []
    · subst h0
      have happ := app_zero (es := es) (bytes := bytes) (H := H ++ [.cells ⟨es, true, true⟩ []]) (a := some ⟨H.length, 0, none⟩) (len := 0) (cap := 0) (y := .slice (some ⟨b, o, none⟩) 0 c) (ys := []) (by simp) (by rintro x hx; cases hx; exact ⟨_, _, rfl, hg⟩) hsrc
      refine ⟨some ⟨H.length, 0, none⟩, 0, [.cells ⟨es, true, true⟩ []], ?_, RowG.nil, .inr ⟨H.length, 0, _, [], rfl, hg, rfl, by simp⟩, Nat.le_refl _, (fun b o e => by cases e; exact Nat.le_refl _), fun h => absurd rfl h⟩
      rw [R_code hf]
      simp [cClone, happ, hz]
    · have hn0 : l.length ≠ 0 := fun h => h0 (List.eq_nil_of_length_eq_zero h)
      have happ := app_ex (bytes := bytes) (len := 0) (cap := 0) (o := 0) hg hsrc hn0 rfl (by omega) (by omega) (by omega) (by omega) rfl (by simp) hall
      have hg2 : (H ++ [MObj.cells ⟨es, true, true⟩ [], .cells ⟨es, true, false⟩ (l.flatMap g)])[H.length + 1]? = some (.cells ⟨es, true, false⟩ (l.flatMap g)) := by simp
      refine ⟨some ⟨H.length + 1, 0, none⟩, l.length, [.cells ⟨es, true, true⟩ [], .cells ⟨es, true, false⟩ (l.flatMap g)], ?_, rowG_new hg2 rfl hr.wid, .inr ⟨H.length + 1, 0, _, _, rfl, hg2, rfl, by omega⟩, Nat.le_refl _, (fun b o e => by cases e; exact Nat.le_succ _), fun _ => ⟨rfl, rfl, rfl⟩⟩
      rw [R_code hf]
      simp [cClone, happ, hz]
/-- Where a set's slices lead. -/
structure SetSrc (H : MH) (s : SetL) : Prop where
  cores : SrcA 1 H s.ca s.cores.length
  homes : SrcA 1 H s.ha s.homes.length
  tasks : SrcA 6 H s.ta s.tasks.length
  parts : ∀ t ∈ s.tasks, SrcA 3 H t.pa t.parts.length
theorem SetSrc.ext {H H1 : MH} {s : SetL} (h : SetSrc H s) (e : Ext H H1) : SetSrc H1 s := ⟨h.cores.ext e, h.homes.ext e, h.tasks.ext e, fun t ht => (h.parts t ht).ext e⟩
theorem rep_src {fs : List Sh} {H : MH} {a : Option Addr} {n c : Nat} {d : D} (h : Rep H (.row fs) (.slice a n c) d) : SrcA fs.length H a n := by
  cases h with
  | nil => exact .inl ⟨rfl, rfl⟩
  | row hB hn hm hl hw h => exact .inr ⟨_, _, _, _, rfl, hB, rfl, by omega⟩
theorem rep_setS {H : MH} {ms : List Value} {ds : List D} (h : RepL H shSet ms ds) : ∃ s : SetL, ms = s.cells ∧ SetRaw H s ∧ SetSrc H s := by
  obtain ⟨m0, m1, m2, m3, d0, d1, d2, d3, rfl, g0, g1, g2, g3⟩ := repL4 h
  cases g0
  obtain ⟨a1, l1, rfl, r1, _, _⟩ := rep_rowG g1 fun ms ds h => rep_int1 h
  obtain ⟨a2, l2, rfl, r2, _, _⟩ := rep_rowG g2 fun ms ds h => rep_int1 h
  obtain ⟨a3, l3, rfl, r3, q3, _⟩ := rep_rowG (f := taskC) (Q := fun x : TaskL => RowG 3 H x.pa x.parts partC ∧ SrcA 3 H x.pa x.parts.length) g3 fun ms ds h => by
    obtain ⟨m0, m1, m2, m3, m4, m5, d0, d1, d2, d3, d4, d5, rfl, g0, g1, g2, g3, g4, g5⟩ := repL6 h
    cases g0; cases g1; cases g2; cases g3; cases g4
    obtain ⟨a, l, rfl, hr, _, _⟩ := rep_rowG g5 fun ms ds h => rep_part h
    exact ⟨⟨_, _, _, _, _, a, l.length, l⟩, rfl, ⟨hr, rep_src g5⟩, rfl⟩
  exact ⟨⟨_, l1, a1, l1.length, l2, a2, l2.length, l3, a3, l3.length⟩, rfl, ⟨r1, r2, r3, fun t ht => (q3 t ht).1, Nat.le_refl _⟩, rep_src g1, rep_src g2, rep_src g3, fun t ht => (q3 t ht).2⟩
end Go.Mod

/- The document's Same: sets that are alike. -/
import Derived.Test.YthpeamllfledkaaDoorTxI
set_option linter.unusedVariables false
set_option linter.unusedSimpArgs false
namespace Go.Mod

theorem take_grow {α : Type} {la lb : List α} {i : Nat} (ht : la.take i = lb.take i) {x y : α} (hx : la[i]? = some x) (hy : lb[i]? = some y) (h : x = y) : la.take (i + 1) = lb.take (i + 1) := by
  rw [List.take_add_one, List.take_add_one, ht, hx, hy, h]
section
variable {mp : FuncId → Option MDef} {H H0 : MH}
theorem sameI_loop {la lb : List Int} (hl : la.length ≤ 1000000) {a b : Option Addr} {n m c d : Nat} (hn : n = la.length) (hm : m = lb.length) (ha : RowG 1 H a la intC) (hb : RowG 1 H b lb intC) (hlen : la.length = lb.length) : ∀ (k i : Nat), i + k = la.length → la.take i = lb.take i →
    (la = lb ∧ Rc mp (.loop m46_0) [(0, .slice a n c), (1, .slice b m d), (5, .int .i64 (i : Int))] H = some (.exit 0, [(0, .slice a n c), (1, .slice b m d), (5, .int .i64 (la.length : Int)), (14, .bool false)], H)) ∨
    (la ≠ lb ∧ Rc mp (.loop m46_0) [(0, .slice a n c), (1, .slice b m d), (5, .int .i64 (i : Int))] H = some (.ret, [(4, .bool false)], H)) := by
  intro k
  induction k with
  | zero =>
    intro i hi ht
    have : i = la.length := by omega
    subst this
    refine .inl ⟨?_, ?_⟩
    · rw [List.take_length] at ht
      rw [ht, hlen, List.take_length]
    · rw [Rc_loop]
      simp [m46_0, hn]
  | succ k ih =>
    intro i hi ht
    have hia : i < la.length := by omega
    have hib : i < lb.length := by omega
    have hin : i < n := by omega
    have him : i < m := by omega
    have hga := List.getElem?_eq_getElem hia
    have hgb := List.getElem?_eq_getElem hib
    have i1 := ha.ia c .i64 (i : Int)
    rw [if_pos ⟨by omega, by omega⟩, Int.toNat_natCast, ← hn, Nat.mul_one] at i1
    have i2 := hb.ia d .i64 (i : Int)
    rw [if_pos ⟨by omega, by omega⟩, Int.toNat_natCast, ← hm, Nat.mul_one] at i2
    have r1 := ha.rd1 hga H (Ext.refl H)
    have r2 := hb.rd1 hgb H (Ext.refl H)
    simp only [intC] at r1 r2
    have w : IntKind.i64.wrap ((i : Int) + 1) = (i : Int) + 1 := wrap_i64 (by omega) (by omega)
    by_cases hx : la[i] = lb[i]
    · rcases ih (i + 1) (by omega) (take_grow ht hga hgb hx) with ⟨q1, q2⟩ | ⟨q1, q2⟩
      · refine .inl ⟨q1, ?_⟩
        rw [Rc_loop]
        simp [m46_0, hin, him, i1, i2, r1, r2, mdraw_plain, w, hx]
        exact q2
      · refine .inr ⟨q1, ?_⟩
        rw [Rc_loop]
        simp [m46_0, hin, him, i1, i2, r1, r2, mdraw_plain, w, hx]
        exact q2
    · refine .inr ⟨fun e => hx (by simp [e]), ?_⟩
      rw [Rc_loop]
      simp [m46_0, hin, him, i1, i2, r1, r2, mdraw_plain, w, hx]
theorem R_sameI (hf : mp 46 = some (.code m46)) {la lb : List Int} (hl : la.length ≤ 1000000) {a b : Option Addr} {n m c d : Nat} (hn : n = la.length) (hm : m = lb.length) (ha : RowG 1 H a la intC) (hb : RowG 1 H b lb intC) :
    R mp 46 [.slice a n c, .slice b m d] H = some (.bool (decide (la = lb)), H) := by
  by_cases hlen : la.length = lb.length
  · obtain rfl : m = n := by omega
    rcases sameI_loop (mp := mp) (c := c) (d := d) hl hn hm ha hb hlen la.length 0 (by omega) (by simp) with ⟨q1, q2⟩ | ⟨q1, q2⟩
    · simp at q2
      rw [R_code hf]
      simp [m46, q2, q1]
    · simp at q2
      rw [R_code hf]
      simp [m46, q2, q1]
  · have h1 : ¬ n = m := by omega
    have h2 : ¬ la = lb := fun e => hlen (by rw [e])
    have h3 : ¬ (n : Int) = m := by omega
    rw [R_code hf]
    simp [m46, h1, h2, h3]

/-! ### tasks -/
theorem sameP_loop {la lb : List PartL} (hl : la.length ≤ 1000000) {a b : Option Addr} {c d b2 b3 : Nat} {cs ds : List Value} (ha : RowG 3 H a la partC) (hb : RowG 3 H b lb partC) (hlen : la.length = lb.length)
    (h2 : H[b2]? = some (.cells ⟨0, true, false⟩ cs)) (h3 : H[b3]? = some (.cells ⟨0, true, false⟩ ds)) (hc : cs[5]? = some (.slice a la.length c)) (hd : ds[5]? = some (.slice b lb.length d)) : ∀ (k i : Nat), i + k = la.length → la.take i = lb.take i →
    (la = lb ∧ Rc mp (.loop m47_0) [(2, .pointer (some ⟨b2, 0, none⟩)), (3, .pointer (some ⟨b3, 0, none⟩)), (5, .int .i64 (i : Int))] H = some (.exit 0, [(2, .pointer (some ⟨b2, 0, none⟩)), (3, .pointer (some ⟨b3, 0, none⟩)), (5, .int .i64 (la.length : Int)), (52, .bool false)], H)) ∨
    (la ≠ lb ∧ Rc mp (.loop m47_0) [(2, .pointer (some ⟨b2, 0, none⟩)), (3, .pointer (some ⟨b3, 0, none⟩)), (5, .int .i64 (i : Int))] H = some (.ret, [(4, .bool false)], H)) := by
  intro k
  have l2 := ld_at h2 5
  have l3 := ld_at h3 5
  rw [hc] at l2
  rw [hd] at l3
  induction k with
  | zero =>
    intro i hi ht
    have : i = la.length := by omega
    subst this
    refine .inl ⟨?_, ?_⟩
    · rw [List.take_length] at ht
      rw [ht, hlen, List.take_length]
    · rw [Rc_loop]
      simp [m47_0, l2]
  | succ k ih =>
    intro i hi ht
    have hia : i < la.length := by omega
    have hib : i < lb.length := by omega
    have hia' : (i : Int) < (la.length : Int) := by omega
    have hga := List.getElem?_eq_getElem hia
    have hgb := List.getElem?_eq_getElem hib
    have i1 := ha.ia c .i64 (i : Int)
    rw [if_pos ⟨by omega, by omega⟩, Int.toNat_natCast] at i1
    have i2 := hb.ia d .i64 (i : Int)
    rw [if_pos ⟨by omega, by omega⟩, Int.toNat_natCast] at i2
    have r1 := ha.rdn hga H (Ext.refl H)
    have r2 := hb.rdn hgb H (Ext.refl H)
    simp only [partC] at r1 r2
    have w : IntKind.i64.wrap ((i : Int) + 1) = (i : Int) + 1 := wrap_i64 (by omega) (by omega)
    have heq : (la[i] = lb[i]) ↔ (la[i].kind = lb[i].kind ∧ la[i].len = lb[i].len ∧ la[i].res = lb[i].res) := by
      generalize la[i] = p
      generalize lb[i] = q
      obtain ⟨p1, p2, p3⟩ := p
      obtain ⟨q1, q2, q3⟩ := q
      simp
    by_cases hx : la[i] = lb[i]
    · have hx2 := heq.1 hx
      rcases ih (i + 1) (by omega) (take_grow ht hga hgb hx) with ⟨q1, q2⟩ | ⟨q1, q2⟩
      · refine .inl ⟨q1, ?_⟩
        rw [Rc_loop]
        simp [m47_0, hia, hia', l2, l3, i1, i2, r1, r2, mdraw_plain, w, hx2, ceqs, ceq]
        exact q2
      · refine .inr ⟨q1, ?_⟩
        rw [Rc_loop]
        simp [m47_0, hia, hia', l2, l3, i1, i2, r1, r2, mdraw_plain, w, hx2, ceqs, ceq]
        exact q2
    · have hx2 : ¬ (la[i].kind = lb[i].kind ∧ la[i].len = lb[i].len ∧ la[i].res = lb[i].res) := fun h => hx (heq.2 h)
      have hbool : (!la[i].kind == lb[i].kind || (!la[i].len == lb[i].len || !la[i].res == lb[i].res)) = true := by
        generalize la[i] = p at hx2
        generalize lb[i] = q at hx2
        by_cases h1 : p.kind = q.kind
        · by_cases h2 : p.len = q.len
          · have h3 : ¬ p.res = q.res := fun h => hx2 ⟨h1, h2, h⟩
            simp [h3]
          · simp [h2]
        · simp [h1]
      refine .inr ⟨fun e => hx (by simp [e]), ?_⟩
      rw [Rc_loop]
      simp [m47_0, hia, hia', l2, l3, i1, i2, r1, r2, mdraw_plain, w, ceqs, ceq, hbool]
theorem plain_iff (t u : TaskL) : t.plain = u.plain ↔ (t.name = u.name ∧ t.period = u.period ∧ t.deadline = u.deadline ∧ t.prio = u.prio ∧ t.cluster = u.cluster ∧ t.parts = u.parts) := by
  obtain ⟨a1, a2, a3, a4, a5, a6, a7, a8⟩ := t
  obtain ⟨b1, b2, b3, b4, b5, b6, b7, b8⟩ := u
  simp [TaskL.plain, TaskL.at]
theorem R_sameT (hf : mp 47 = some (.code m47)) {t u : TaskL} (ht : RowG 3 H t.pa t.parts partC) (hu : RowG 3 H u.pa u.parts partC) (hl : t.parts.length ≤ 1000000) [Decidable (t.plain = u.plain)] :
    ∃ H', R mp 47 [.agg (taskC t).toArray, .agg (taskC u).toArray] H = some (.bool (decide (t.plain = u.plain)), H') ∧ Ext H H' := by
  have e2 : Ext H (H ++ [.cells ⟨0, true, false⟩ (taskC t), .cells ⟨0, true, false⟩ (taskC u)]) := ⟨_, rfl⟩
  refine ⟨_, ?_, e2⟩
  have hp := plain_iff t u
  by_cases h1 : t.name = u.name
  · by_cases h2 : t.period = u.period
    · by_cases h3 : t.deadline = u.deadline
      · by_cases h4 : t.prio = u.prio
        · by_cases h5 : t.cluster = u.cluster
          · by_cases h6 : t.parts.length = u.parts.length
            · have hb2 : (H ++ [MObj.cells ⟨0, true, false⟩ (taskC t), .cells ⟨0, true, false⟩ (taskC u)])[H.length]? = some (.cells ⟨0, true, false⟩ (taskC t)) := by simp
              have hb3 : (H ++ [MObj.cells ⟨0, true, false⟩ (taskC t), .cells ⟨0, true, false⟩ (taskC u)])[H.length + 1]? = some (.cells ⟨0, true, false⟩ (taskC u)) := by simp
              rcases sameP_loop (mp := mp) hl (ht.ext e2) (hu.ext e2) h6 hb2 hb3 rfl rfl t.parts.length 0 (by omega) (by simp) with ⟨q1, q2⟩ | ⟨q1, q2⟩
              · have hq : t.plain = u.plain := hp.2 ⟨h1, h2, h3, h4, h5, q1⟩
                simp only [taskC] at q2
                simp at q2
                rw [R_code hf, decide_eq_true hq]
                simp [m47, taskC, ldx, h1, h2, h3, h4, h5, h6] at q2 ⊢
                simp [q2]
              · have hq : ¬ t.plain = u.plain := fun h => q1 (hp.1 h).2.2.2.2.2
                simp only [taskC] at q2
                simp at q2
                rw [R_code hf, decide_eq_false hq]
                simp [m47, taskC, ldx, h1, h2, h3, h4, h5, h6] at q2 ⊢
                simp [q2]
            · have hq : ¬ t.plain = u.plain := fun h => h6 (by rw [(hp.1 h).2.2.2.2.2])
              have h6' : ¬ (t.parts.length : Int) = (u.parts.length : Int) := by omega
              rw [R_code hf, decide_eq_false hq]
              simp [m47, taskC, ldx, h1, h2, h3, h4, h5, h6, h6']
          · have hq : ¬ t.plain = u.plain := fun h => h5 (hp.1 h).2.2.2.2.1
            rw [R_code hf, decide_eq_false hq]
            simp [m47, taskC, ldx, h1, h2, h3, h4, h5]
        · have hq : ¬ t.plain = u.plain := fun h => h4 (hp.1 h).2.2.2.1
          rw [R_code hf, decide_eq_false hq]
          simp [m47, taskC, ldx, h1, h2, h3, h4]
      · have hq : ¬ t.plain = u.plain := fun h => h3 (hp.1 h).2.2.1
        rw [R_code hf, decide_eq_false hq]
        simp [m47, taskC, ldx, h1, h2, h3]
    · have hq : ¬ t.plain = u.plain := fun h => h2 (hp.1 h).2.1
      rw [R_code hf, decide_eq_false hq]
      simp [m47, taskC, ldx, h1, h2]
  · have hq : ¬ t.plain = u.plain := fun h => h1 (hp.1 h).1
    have h1' : ¬ t.name.toList = u.name.toList := fun h => h1 (ba_inj h)
    rw [R_code hf, decide_eq_false hq]
    simp [m47, taskC, ldx, h1, h1']
end
end Go.Mod

/- LockOne: the loops, the law. -/
import Derived.Test.YthpeamllfledkaaLiB
set_option linter.unusedVariables false
set_option linter.unusedSimpArgs false
namespace Go.Mod
open Classical

structure StepL where
  what : Int
  task : Int
  res : Int
def stpC (s : StepL) : List Value := [.int .i64 s.what, .int .i64 s.task, .int .i64 s.res]
theorem rep_step {H : MH} {ms : List Value} {ds : List D} (h : RepL H [.int .i64, .int .i64, .int .i64] ms ds) : ∃ x : StepL, ms = stpC x ∧ True ∧ (stpC x).all one = true := by
  obtain ⟨m0, m1, m2, d0, d1, d2, rfl, g0, g1, g2⟩ := repL3 h
  cases g0; cases g1; cases g2
  exact ⟨⟨_, _, _⟩, rfl, trivial, rfl⟩
theorem ext_iff' {H0 H : MH} : Ext H0 H ↔ H0.length ≤ H.length ∧ ∀ id, id < H0.length → H[id]? = H0[id]? := by
  constructor
  · intro e; exact ⟨e.len, fun id h => ext_get e h⟩
  · rintro ⟨h1, h2⟩
    refine ⟨H.drop H0.length, ?_⟩
    apply List.ext_getElem?
    intro k
    rcases Nat.lt_or_ge k H0.length with h | h
    · rw [List.getElem?_append_left h, h2 k h]
    · rw [List.getElem?_append_right h, List.getElem?_drop]; congr 1; omega
theorem upd_extL {H0 H H1 : MH} {F F1 : List Nat} (e : Ext H0 H) (hF : ∀ id ∈ F, H0.length ≤ id) (u : Upd H F H1 F1) : Ext H0 H1 ∧ ∀ id ∈ F1, H0.length ≤ id := by
  have hl := e.len
  refine ⟨ext_iff'.2 ⟨Nat.le_trans hl u.len, fun id h => ?_⟩, fun id h => ?_⟩
  · rw [u.same id (by omega) fun h' => by have := hF id h'; omega]
    exact ext_get e h
  · rcases u.new id h with h' | h'
    · exact hF id h'
    · omega
/-- What is needed of a set that is right. -/
theorem places_of {s0 : SetL} (h : okSet s0) : placesB s0.cores s0.homes ∧ s0.tasks.length ≤ 6 ∧ s0.tasks ≠ [] ∧ (1 ≤ s0.proto ∧ s0.proto ≤ 3) ∧ (firstE s0 0 s0.tasks).2 = 0 := by
  unfold okSet checkE at h
  split at h
  · exact absurd h (by simp)
  · rename_i h1
    split at h
    · exact absurd h (by simp)
    · rename_i h2
      split at h
      · exact absurd h (by simp)
      · rename_i h3
        split at h
        · exact absurd h (by simp)
        · rename_i h4
          exact ⟨by simpa using h2, by omega, h4, by simpa using h1, h⟩
theorem first_all {s : SetL} : ∀ (l : List TaskL) (i : Nat), (firstE s i l).2 = 0 → ∀ (k : Nat) t, l[k]? = some t → taskE s (i + k) t = 0
  | [], i, _, k, t, h => by simp at h
  | u :: l, i, h, k, t, hk => by
    simp only [firstE] at h
    split at h
    · rename_i h0
      cases k with
      | zero => simp at hk; subst hk; exact h0
      | succ k =>
        have := first_all l (i + 1) h k t (by simpa using hk)
        rw [show i + (k + 1) = i + 1 + k by omega]; exact this
    · rename_i h0; exact absurd h h0
theorem task_cl {s : SetL} {i : Nat} {t : TaskL} (h : taskE s i t = 0) : formOk t ∧ (0 ≤ t.cluster ∧ t.cluster < (s.cores.length : Int)) ∧ partsOk s.homes.length t.parts ∧ ¬ ∃ o ∈ s.tasks.take i, o.name = t.name ∨ o.prio = t.prio := by
  unfold taskE at h
  split at h
  · exact absurd h (by simp)
  · rename_i h1
    split at h
    · exact absurd h (by simp)
    · rename_i h2
      split at h
      · exact absurd h (by simp)
      · rename_i h3
        split at h
        · exact absurd h (by simp)
        · rename_i h4
          exact ⟨by simpa using h1, by simpa using h2, by simpa using h4, h3⟩
theorem okSet_b {s0 s : SetL} (h : okSet s0) (sm : SameS s s0) : SetB s := by
  obtain ⟨h1, h2, h3, h4, h5⟩ := places_of h
  obtain ⟨⟨p1, p2, p3⟩, p4, p5⟩ := h1
  refine ⟨by rw [sm.cores]; exact p2, by rw [sm.homes]; exact p3, by rw [sm.len]; exact h2, fun k hk => by rw [sm.cores] at hk; exact p4 k hk, fun k hk => by rw [sm.homes] at hk; rw [sm.cores]; exact p5 k hk, fun t ht => ?_⟩
  have : coreT t ∈ s0.tasks.map coreT := by rw [← sm.tasks]; exact List.mem_map_of_mem ht
  obtain ⟨u, hu, e⟩ := List.mem_map.1 this
  obtain ⟨k, hk⟩ := List.mem_iff_getElem?.1 hu
  have := (task_cl (first_all _ 0 h5 k u hk)).2.1
  have e2 : t.cluster = u.cluster := (congrArg TCore.cluster e).symm
  rw [sm.cores, e2]; exact this

/-! ### the row of what is wanted -/
theorem warr_len {ak : List Ask} : (warr ak).length = 6 := by simp [warr]
theorem warr_set {ak bk : List Ask} {n : Nat} {v : Int} (h6 : n < 6) (hn : wantF bk n = v) (ho : ∀ t, t ≠ n → wantF bk t = wantF ak t) : warr bk = (warr ak).set n (.int .i64 v) := by
  apply List.ext_getElem?
  intro q
  rcases Nat.lt_or_ge q 6 with hq | hq
  · rw [warr_at hq]
    by_cases e : n = q
    · subst e
      rw [List.getElem?_set_self (by rw [warr_len]; omega), hn]
    · rw [List.getElem?_set_ne e, warr_at hq, ho q fun h => e h.symm]
  · rw [List.getElem?_eq_none (by rw [warr_len]; omega), List.getElem?_eq_none (by rw [List.length_set, warr_len]; omega)]
theorem want_ask {ak : List Ask} {a : Ask} (hx : findA ak (a.n : Int) = none) (h6 : a.n < 6) : warr (ak ++ [a]) = (warr ak).set a.n (.int .i64 (a.res + 1)) := by
  have hf : ∀ t : Nat, findA (ak ++ [a]) (t : Int) = if t = a.n then some a else findA ak (t : Int) := fun t => by
    unfold findA at hx ⊢
    rw [List.find?_append]
    by_cases e : t = a.n
    · subst e; rw [hx]; simp
    · have : ¬ (a.n : Int) = (t : Int) := by omega
      simp [e, this]
  refine warr_set h6 ?_ fun t ht => ?_
  · unfold wantF; rw [hf, if_pos rfl]
  · unfold wantF; rw [hf, if_neg ht]
theorem want_drop {ak : List Ask} {n : Nat} (h6 : n < 6) : warr (dropA ak (n : Int)) = (warr ak).set n (.int .i64 0) := by
  refine warr_set h6 ?_ fun t ht => ?_
  · unfold wantF; rw [find_drop, if_pos rfl]
  · unfold wantF; rw [find_drop, if_neg (by omega)]
theorem want_nr {ak bk : List Ask} (h : ak.map nrA = bk.map nrA) : warr ak = warr bk := by
  have : ∀ (ak bk : List Ask), ak.map nrA = bk.map nrA → ∀ t : Nat, wantF ak t = wantF bk t := by
    intro ak
    induction ak with
    | nil =>
      intro bk h t
      cases bk with
      | nil => rfl
      | cons b bk => cases h
    | cons a ak ih =>
      intro bk h t
      cases bk with
      | nil => cases h
      | cons b bk =>
        rw [List.map_cons, List.map_cons] at h
        obtain ⟨h1, h2⟩ := List.cons.inj h
        have e1 : a.n = b.n := congrArg Prod.fst h1
        have e2 : a.res = b.res := congrArg Prod.snd h1
        have := ih bk h2 t
        unfold wantF findA at this ⊢
        rw [List.find?_cons, List.find?_cons, e1]
        cases hd : decide ((b.n : Int) = (t : Int)) with
        | true => simp only [e2]
        | false => exact this
  unfold warr
  apply List.map_congr_left
  intro t _
  rw [this ak bk h]

section
variable {mp : FuncId → Option MDef} {H : MH} {F : List Nat} {l : Nat} {s s0 : SetL} {L : Lay} {x : LS}
/-- Who is told holds. -/
theorem told_loop (P : LkP mp) (v : LkInv s x) (b : SetB s) (sm : SameS s s0) (V : LkV H l s L (x.ak.map entC) x.cnt (waitL x.ak) x.ak x.ts) {out : List Int} (ho : ∀ n ∈ out, ∃ a ∈ x.ak, n = (a.n : Int) ∧ a.holds = true) {v1 : Value} {b2 b6 : Nat} {i2 i6 : Info} (h2 : H[b2]? = some (.cells i2 s0.cells)) (h6 : H[b6]? = some (.cells i6 (warr x.ak))) {ga : Option Addr} {gn gc : Nat} (hr : Row 1 H (.slice ga gn gc) (i64s out)) (hgn : gn = out.length) (hg : gn ≤ 1000) {v7 : Value} : ∀ (k q : Nat), q + k = gn →
    Rc mp (.loop m4_0) [(1, v1), (2, .pointer (some ⟨b2, 0, none⟩)), (5, .pointer (some ⟨l, 0, none⟩)), (6, .pointer (some ⟨b6, 0, none⟩)), (7, v7), (9, .slice ga gn gc), (10, .int .i64 (q : Int))] H =
      some (.exit 2, [(1, v1), (2, .pointer (some ⟨b2, 0, none⟩)), (5, .pointer (some ⟨l, 0, none⟩)), (6, .pointer (some ⟨b6, 0, none⟩)), (7, v7), (9, .slice ga gn gc), (10, .int .i64 (gn : Int)), (67, .bool false)], H) := by
  have hd := ld_at h2
  simp only [SetL.cells] at hd
  have hw6 := ld_at h6
  have hnt := b.nt
  have hlen := sm.len
  intro k
  induction k with
  | zero =>
    intro q hq
    have : q = gn := by omega
    subst this
    rw [Rc_loop]
    simp [m4_0]
  | succ k ih =>
    intro q hq
    have hin : q < gn := by omega
    obtain ⟨y, hy⟩ : ∃ y, out[q]? = some y := ⟨_, List.getElem?_eq_getElem (by omega)⟩
    obtain ⟨_, b, o, j, cs, rfl, hB, hat⟩ := Row.i64 hr hy
    obtain ⟨a, ha, rfl, hah⟩ := ho y (List.mem_of_getElem? hy)
    have hn := v.n a ha
    have hn6 : (a.n : Int) < 6 := by omega
    have hnN : ¬ s0.tasks.length ≤ a.n := by omega
    have hwa := warr_at (ak := x.ak) (t := a.n) (by omega)
    have hwn : ¬ wantF x.ak a.n = 0 := by
      have := (v.res a ha).1
      unfold wantF
      rw [uniq_find v.uniq ha]
      simp only []; omega
    have h21 := R_holds (mp := mp) P.f21 V (a.n : Int)
    rw [(holdsB_iff v.uniq).2 ⟨a, ha, rfl, hah⟩] at h21
    have w : IntKind.i64.wrap ((q : Int) + 1) = (q : Int) + 1 := wrap_i64 (by omega) (by omega)
    have := ih (q + 1) (by omega)
    rw [Rc_loop]
    simp [m4_0, hin, ld_at hB, hat, hd, hnN, h21, hn6, hw6, hwa, hwn, w, mdraw_full]
    simp at this
    exact this
end

def OL (l : Nat) (s : SetL) (L : Lay) (x : LS) (b6 : Nat) (ak : List Ask) : List (MH → List Nat → Prop) := [LkS l s L x, Pt b6 ⟨1, true, false⟩ (warr ak)]
theorem OL.good {l : Nat} {s : SetL} {L : Lay} {x : LS} {b6 : Nat} {ak : List Ask} : ∀ P ∈ OL l s L x b6 ak, Good P := by
  intro P hP
  simp only [OL, List.mem_cons, List.not_mem_nil, or_false] at hP
  rcases hP with rfl | rfl
  · exact LkS.good
  · exact Pt.good
section
variable {l : Nat} {s s0 : SetL} {L : Lay} {b2 b6 : Nat} {H0 : MH}
theorem ol_at {H : MH} {F : List Nat} {x : LS} {ak : List Ask} (h : Sep (OL l s L x b6 ak) H F) : H[b6]? = some (.cells ⟨1, true, false⟩ (warr ak)) := by
  obtain ⟨A, hA, _⟩ := Sep.at_ (k := 1) h rfl
  exact hA.2
theorem ol_lk {H : MH} {F : List Nat} {x y : LS} {ak : List Ask} {Q : MH → Prop} (h : Sep (OL l s L x b6 ak) H F) (hx : ∀ A, LkS l s L x H A → ∃ H' F', LkS l s L y H' F' ∧ Upd H A H' F' ∧ Q H') : ∃ H' F', Sep (OL l s L y b6 ak) H' F' ∧ Upd H F H' F' ∧ Q H' := by
  obtain ⟨_, H', F', p, u, e⟩ := Sep.upd (ι := Unit) (k := 0) (P' := fun _ => LkS l s L y) (C := fun _ H' => Q H') (fun _ => LkS.good) OL.good h rfl (fun A hA _ => by
    obtain ⟨H', F', e, p, u⟩ := hx A hA
    exact ⟨(), H', F', e, p, u⟩)
  exact ⟨H', F', p, u, e⟩
theorem ol_st {H : MH} {F : List Nat} {x : LS} {ak bk : List Ask} {n : Nat} {v : Int} (h : Sep (OL l s L x b6 ak) H F) (h6 : n < 6) (hb : warr bk = (warr ak).set n (.int .i64 v)) : ∃ H' F', meff (.st 1) [.pointer (some ⟨b6, n, none⟩), .int .i64 v] H = some (.tuple #[], H') ∧ Sep (OL l s L x b6 bk) H' F' ∧ Upd H F H' F' := by
  obtain ⟨_, H', F', p, u, e⟩ := Sep.upd (ι := Unit) (k := 1) (P' := fun _ => Pt b6 ⟨1, true, false⟩ (warr bk)) (C := fun _ H' => meff (.st 1) [.pointer (some ⟨b6, n, none⟩), .int .i64 v] H = some (.tuple #[], H')) (fun _ => Pt.good) OL.good h rfl (fun A hA _ => by
    obtain ⟨rfl, hA⟩ := hA
    have hl := (List.getElem?_eq_some_iff.1 hA).1
    refine ⟨(), _, [b6], ⟨rfl, ?_⟩, ⟨by simp, fun id hid hn => ?_, fun id hid => .inl hid⟩, st_at hA rfl n _ rfl (by rw [warr_len]; omega)⟩
    · rw [List.getElem?_set_self hl, hb]
    · have hne : b6 ≠ id := fun e => hn (by simp [e])
      rw [List.getElem?_set_ne hne])
  exact ⟨H', F', e, p, u⟩
theorem one_loop (b : SetB s) (sm : SameS s s0) (hs : SetAt H0 s0) (h2 : H0[b2]? = some (.cells ⟨0, true, false⟩ s0.cells)) {sa : Option Addr} {sc : Nat} {st : List StepL} (hr : RowG 3 H0 sa st stpC) (h60 : st.length ≤ 60) :
    ∀ (k i : Nat) (H : MH) (F : List Nat) (x : LS), i + k = st.length → x.cnt ≤ 7 * i → x.ts.map (·.id) = L.chs → LkInv s x → (∀ a ∈ x.ak, a.told = true → a.holds = true) → Sep (OL l s L x b6 x.ak) H F → Ext H0 H → (∀ id ∈ F, H0.length ≤ id) →
    ∃ H', Rc mpLk (.loop m4_1) [(1, .slice sa st.length sc), (2, .pointer (some ⟨b2, 0, none⟩)), (5, .pointer (some ⟨l, 0, none⟩)), (6, .pointer (some ⟨b6, 0, none⟩)), (7, .int .i64 (i : Int))] H =
      some (.exit 0, [(1, .slice sa st.length sc), (2, .pointer (some ⟨b2, 0, none⟩)), (5, .pointer (some ⟨l, 0, none⟩)), (6, .pointer (some ⟨b6, 0, none⟩)), (7, .int .i64 (st.length : Int)), (31, .bool false)], H') := by
  have hnt := b.nt
  have hnh := b.nh
  have hlen := sm.len
  intro k
  induction k with
  | zero =>
    intro i H F x hi hc hid v ht hS e hF
    have : i = st.length := by omega
    subst this
    refine ⟨H, ?_⟩
    rw [Rc_loop]
    simp [m4_1]
  | succ k ih =>
    intro i H F x hi hc hid v ht hS e hF
    have hin : i < st.length := by omega
    obtain ⟨y, hy⟩ : ∃ y, st[i]? = some y := ⟨_, List.getElem?_eq_getElem hin⟩
    have hrd := hr.rdn hy
    simp only [stpC] at hrd
    have w : IntKind.i64.wrap ((i : Int) + 1) = (i : Int) + 1 := wrap_i64 (by omega) (by omega)
    have hc0 := v.cnt
    -- ahead of the answer
    have e1 : Ext H (H ++ [.cells ⟨0, true, false⟩ [.int .i64 y.what, .int .i64 y.task, .int .i64 y.res]]) := ⟨_, rfl⟩
    have hS1 := Sep.ext OL.good hS e1
    have hl6 := v.uniq
    have hakl : x.ak.length ≤ 6 := by have := uniq_len v.uniq v.n; omega
    -- behind the answer
    have next : ∀ (Hb : MH) (Fb : List Nat) (y' : LS), y'.cnt ≤ x.cnt + 1 → y'.ts.map (·.id) = L.chs → LkInv s y' → (∀ a ∈ y'.ak, a.told = true → a.holds = true) → Sep (OL l s L y' b6 y'.ak) Hb Fb → Ext H0 Hb → (∀ id ∈ Fb, H0.length ≤ id) →
        (∀ (ga : Option Addr) (gn gc : Nat) (H1 H2 : MH), R mpLk 15 [.pointer (some ⟨l, 0, none⟩)] Hb = some (.slice ga gn gc, H1) →
          Rc mpLk (.loop m4_0) [(1, .slice sa st.length sc), (2, .pointer (some ⟨b2, 0, none⟩)), (5, .pointer (some ⟨l, 0, none⟩)), (6, .pointer (some ⟨b6, 0, none⟩)), (7, .int .i64 (i : Int)), (9, .slice ga gn gc), (10, .int .i64 0)] H1 =
            some (.exit 2, [(1, .slice sa st.length sc), (2, .pointer (some ⟨b2, 0, none⟩)), (5, .pointer (some ⟨l, 0, none⟩)), (6, .pointer (some ⟨b6, 0, none⟩)), (7, .int .i64 (i : Int)), (9, .slice ga gn gc), (10, .int .i64 (gn : Int)), (67, .bool false)], H1) →
          mread (.ld (some 4)) [.pointer (some ⟨b2, 0, none⟩)] H1 = some (.agg s0.cells.toArray) → mread (.ld (some 6)) [.pointer (some ⟨b6, 0, none⟩)] H1 = some (.agg (warr y'.ak).toArray) →
          R mpLk 22 [.agg s0.cells.toArray, .pointer (some ⟨l, 0, none⟩), .agg (warr y'.ak).toArray] H1 = some (.bool true, H2) →
          Rc mpLk (.loop m4_1) [(1, .slice sa st.length sc), (2, .pointer (some ⟨b2, 0, none⟩)), (5, .pointer (some ⟨l, 0, none⟩)), (6, .pointer (some ⟨b6, 0, none⟩)), (7, .int .i64 (i : Int))] H = Rc mpLk (.loop m4_1) [(1, .slice sa st.length sc), (2, .pointer (some ⟨b2, 0, none⟩)), (5, .pointer (some ⟨l, 0, none⟩)), (6, .pointer (some ⟨b6, 0, none⟩)), (7, .int .i64 ((i : Int) + 1))] H2) →
        ∃ H', Rc mpLk (.loop m4_1) [(1, .slice sa st.length sc), (2, .pointer (some ⟨b2, 0, none⟩)), (5, .pointer (some ⟨l, 0, none⟩)), (6, .pointer (some ⟨b6, 0, none⟩)), (7, .int .i64 (i : Int))] H =
      some (.exit 0, [(1, .slice sa st.length sc), (2, .pointer (some ⟨b2, 0, none⟩)), (5, .pointer (some ⟨l, 0, none⟩)), (6, .pointer (some ⟨b6, 0, none⟩)), (7, .int .i64 (st.length : Int)), (31, .bool false)], H') := by
      intro Hb Fb y' g0 g1 g2 g3 g4 g5 g6 g7
      have ok := g2.ok b g1 (by omega)
      obtain ⟨k1, k2, k3, k4, k5, k6, k7, k8⟩ := g2.grant b
      obtain ⟨H1, F1, p1, u1, gv, e15, hrow⟩ := ol_lk (y := grantF s y') (Q := fun H' => ∃ v, R mpLk 15 [.pointer (some ⟨l, 0, none⟩)] Hb = some (v, H') ∧ Row 1 H' v (i64s (grantO s y'))) g4 (fun A hA => by
        obtain ⟨v, H', F', e, p, u, r⟩ := lk_grant lkP hA ok
        exact ⟨H', F', p, u, v, e, r⟩)
      obtain ⟨ga, gn, gc, rfl, _⟩ := hrow.slice
      have hgn := Row.i64n hrow
      obtain ⟨e2, hF2⟩ := upd_extL g5 g6 u1
      have q2 := e2.get h2
      have q6 := ol_at p1
      have hwq : warr y'.ak = warr (grantF s y').ak := want_nr k6.symm
      obtain ⟨A, hA, _⟩ := Sep.at_ (k := 0) p1 rfl
      have V := LkV.of hA
      rw [hwq] at q6
      have hol : (grantO s y').length ≤ 6 := by
        have : grantO s y' = _ := tellF_out s.tasks.length 0 (Mod.grant0 s y').ak [] (g2.grant0 b).1.uniq
        rw [this]
        simp
        refine Nat.le_trans (List.length_filter_le _ _) ?_
        rw [List.length_range']; exact hnt
      have l1 := told_loop (mp := mpLk) (v1 := .slice sa st.length sc) (v7 := .int .i64 (i : Int)) lkP k1 b sm V k8 q2 q6 hrow hgn (by omega) gn 0 (by omega)
      obtain ⟨H2, e22, x2⟩ := G_holders (mp := mpLk) lkP rfl rfl k1 b k4 sm V (hs.ext e2)
      have d2 := ldn_at q2 0 4 (by simp [SetL.cells]) rfl
      have d6 := ldn_at q6 0 6 (by rw [warr_len]; omega) (by simp [warr, List.range, List.range.loop, one])
      have st := g7 ga gn gc H1 H2 e15 l1 (by simpa [SetL.cells] using d2) (by rw [hwq]; simpa [warr, List.range, List.range.loop] using d6) (by rw [hwq]; exact e22)
      rw [st]
      have p1' : Sep (OL l s L (grantF s y') b6 (grantF s y').ak) H1 F1 := by
        have := p1
        unfold OL at this ⊢
        rw [hwq] at this; exact this
      have := ih (i + 1) H2 F1 (grantF s y') (by omega) (by omega) (by
        have hids : (grantF s y').ts.map (·.id) = y'.ts.map (·.id) := by
          show (Mod.grant0 s y').ts.map (·.id) = _
          unfold Mod.grant0
          split
          · rfl
          · exact selF_ids _ _ _
        rw [hids]; exact g1) k1 (fun a ha h => by rw [k7 g3 a ha] at h; exact h) (Sep.ext OL.good p1' x2) (e2.trans x2) hF2
      simpa using this
    have dB : ∀ o, mread (.ld none) [.pointer (some ⟨H.length, o, none⟩)] (H ++ [.cells ⟨0, true, false⟩ [.int .i64 y.what, .int .i64 y.task, .int .i64 y.res]]) = knownO [Value.int .i64 y.what, .int .i64 y.task, .int .i64 y.res][o]? := fun o => ld_at (i := ⟨0, true, false⟩) (by simp) o
    by_cases hk : y.what ≤ 4
    · obtain ⟨A0, hA0, _⟩ := Sep.at_ (k := 0) hS1 rfl
      have V0 := LkV.of hA0
      by_cases ht1 : y.task < 0 ∨ (s.tasks.length : Int) ≤ y.task
      · have e12 := (R_ask_no (mp := mpLk) rfl V0 (n := y.task) (res := y.res)).1 ht1
        refine next _ F x (by omega) hid v ht hS1 (e.trans e1) hF (fun ga gn gc H1 H2 e15 l1 d2 d6 e22 => ?_)
        rw [Rc_loop]
        simp (maxDischargeDepth := 12) [m4_1, hin, hr.ia, hrd, e, stx, ldx, hk, e12, e15, l1, d2, d6, e22, w]
        done
      · by_cases ht2 : y.res < 0 ∨ (s.homes.length : Int) ≤ y.res
        · have e12 := (R_ask_no (mp := mpLk) rfl V0 (n := y.task) (res := y.res)).2.1 ht1 ht2
          refine next _ F x (by omega) hid v ht hS1 (e.trans e1) hF (fun ga gn gc H1 H2 e15 l1 d2 d6 e22 => ?_)
          rw [Rc_loop]
          simp (maxDischargeDepth := 12) [m4_1, hin, hr.ia, hrd, e, stx, ldx, hk, e12, e15, l1, d2, d6, e22, w]
          done
        · cases hfa : findA x.ak y.task with
          | some a =>
            have e12 := (R_ask_no (mp := mpLk) rfl V0 (n := y.task) (res := y.res)).2.2 ht1 ht2 (by rw [hfa]; rfl)
            refine next _ F x (by omega) hid v ht hS1 (e.trans e1) hF (fun ga gn gc H1 H2 e15 l1 d2 d6 e22 => ?_)
            rw [Rc_loop]
            simp (maxDischargeDepth := 12) [m4_1, hin, hr.ia, hrd, e, stx, ldx, hk, e12, e15, l1, d2, d6, e22, w]
            done
          | none =>
            obtain ⟨n, hn⟩ : ∃ n : Nat, (n : Int) = y.task := ⟨y.task.toNat, by omega⟩
            rw [← hn] at hfa ht1
            obtain ⟨_, H1, F1, p1, u1, p, e12, rfl⟩ := Sep.upd (ι := LS) (k := 0) (P' := fun y => LkS l s L y) (C := fun z H' => ∃ p, R mpLk 12 [.pointer (some ⟨l, 0, none⟩), .int .i64 (n : Int), .int .i64 y.res] (H ++ [.cells ⟨0, true, false⟩ [.int .i64 y.what, .int .i64 y.task, .int .i64 y.res]]) = some (.int .i64 0, H') ∧ z = ⟨newCnt s x.cnt, x.ak ++ [newA s x.cnt n y.res p], x.ts⟩) (fun _ => LkS.good) OL.good hS1 rfl (fun A hA _ => by
              obtain ⟨H', F', p, e, q, u⟩ := R_ask_ok (mp := mpLk) rfl rfl hA (n := n) (res := y.res) (by omega) (by omega) (by omega) hfa (by omega) hc0 (by omega)
              exact ⟨⟨newCnt s x.cnt, x.ak ++ [newA s x.cnt n y.res p], x.ts⟩, H', F', q, u, p, e, rfl⟩)
            have hA : (newA s x.cnt n y.res p).n = n ∧ (newA s x.cnt n y.res p).res = y.res ∧ (newA s x.cnt n y.res p).told = false := by unfold newA; split <;> simp
            have hn6 : n < 6 := by omega
            have hwk := want_ask (ak := x.ak) (a := newA s x.cnt n y.res p) (by rw [hA.1]; exact hfa) (by rw [hA.1]; exact hn6)
            rw [hA.1, hA.2.1] at hwk
            have p1 : Sep (OL l s L ⟨newCnt s x.cnt, x.ak ++ [newA s x.cnt n y.res p], x.ts⟩ b6 x.ak) H1 F1 := p1
            obtain ⟨H2, F2, est, p2, u2⟩ := ol_st p1 hn6 hwk
            have hcn : newCnt s x.cnt ≤ x.cnt + 1 := by unfold newCnt; split <;> omega
            obtain ⟨x2, hF2⟩ := upd_extL (e.trans e1) hF (u1.trans u2)
            have hlB : H.length < H1.length := by have := u1.len; simp at this; omega
            have hBo : H1[H.length]? = some (.cells ⟨0, true, false⟩ [.int .i64 y.what, .int .i64 y.task, .int .i64 y.res]) := u1.get (by simp) (fun hm => by
              have hg := Sep.good OL.good (l := OL l s L x b6 x.ak)
              have := hg.lt hS _ hm
              omega)
            have d1 := ld_at hBo
            have ws : IntKind.i64.wrap (y.res + 1) = y.res + 1 := wrap_i64 (by omega) (by omega)
            have hn6I : (n : Int) < 6 := by omega
            refine next H2 F2 ⟨newCnt s x.cnt, x.ak ++ [newA s x.cnt n y.res p], x.ts⟩ hcn hid (v.ask (by omega) ⟨by omega, by omega⟩ hfa p) (fun a ha h => by
              rcases List.mem_append.1 ha with ha | ha
              · exact ht a ha h
              · simp at ha; subst ha; rw [hA.2.2] at h; cases h) p2 x2 hF2 (fun ga gn gc H3 H4 e15 l1 d2 d6 e22 => ?_)
            rw [Rc_loop]
            rw [← hn] at e12 d1 hrd hS1
            simp (maxDischargeDepth := 12) [m4_1, hin, hr.ia, hrd, e, stx, ldx, hk, e12, d1, ws, hn6I, est, e15, l1, d2, d6, e22, w]
            done
    · obtain ⟨A0, hA0, _⟩ := Sep.at_ (k := 0) hS1 rfl
      have V0 := LkV.of hA0
      cases hfa : findA x.ak y.task with
      | none =>
        have e17 := R_leave_no (mp := mpLk) rfl V0 hfa
        refine next _ F x (by omega) hid v ht hS1 (e.trans e1) hF (fun ga gn gc H1 H2 e15 l1 d2 d6 e22 => ?_)
        rw [Rc_loop]
        simp (maxDischargeDepth := 12) [m4_1, hin, hr.ia, hrd, e, stx, ldx, hk, e17, e15, l1, d2, d6, e22, w]
        done
      | some a =>
        obtain ⟨ha, hn⟩ := findA_mem hfa
        have han := v.n a ha
        have hn6 : a.n < 6 := by omega
        have hn6I : (a.n : Int) < 6 := by omega
        obtain ⟨H1, F1, p1, u1, e17⟩ := ol_lk (y := ⟨x.cnt, dropA x.ak (a.n : Int), backT s a x.ts⟩) (Q := fun H' => R mpLk 17 [.pointer (some ⟨l, 0, none⟩), .int .i64 (a.n : Int)] (H ++ [.cells ⟨0, true, false⟩ [.int .i64 y.what, .int .i64 y.task, .int .i64 y.res]]) = some (.int .i64 0, H')) hS1 (fun A hA => by
          obtain ⟨H', F', e, p, u⟩ := R_leave_ok (mp := mpLk) rfl rfl rfl hA (n := (a.n : Int)) (a := a) (by rw [hn]; exact hfa) v.uniq hid (fun hp hi => by
            obtain ⟨t, htk⟩ := v.task ha
            obtain ⟨c1, c2, c3⟩ := cl_lt b htk
            obtain ⟨ch, q1, q2, q3⟩ := v.tok hp (clA s a) _ (List.getElem?_eq_getElem c3)
            refine ⟨t, ch, htk, c2, by rw [← c1]; exact q1, ?_⟩
            rw [q3]
            unfold inC
            exact List.length_pos_of_mem (List.mem_filter.2 ⟨ha, by simp [inP, hi]⟩))
          exact ⟨H', F', p, u, e⟩)
        obtain ⟨H2, F2, est, p2, u2⟩ := ol_st p1 hn6 (want_drop (ak := x.ak) hn6)
        obtain ⟨x2, hF2⟩ := upd_extL (e.trans e1) hF (u1.trans u2)
        have hBo : H1[H.length]? = some (.cells ⟨0, true, false⟩ [.int .i64 y.what, .int .i64 y.task, .int .i64 y.res]) := u1.get (by simp) (fun hm => by
          have hg := Sep.good OL.good (l := OL l s L x b6 x.ak)
          have := hg.lt hS _ hm
          omega)
        have d1 := ld_at hBo
        have hids : (backT s a x.ts).map (·.id) = x.ts.map (·.id) := by
          unfold backT
          split
          · split
            · split
              · rename_i ch hch
                exact map_set_same hch rfl
              · rfl
            · rfl
          · rfl
        refine next H2 F2 ⟨x.cnt, dropA x.ak (a.n : Int), backT s a x.ts⟩ (by show x.cnt ≤ x.cnt + 1; omega) (by rw [hids]; exact hid) (v.leave b ha) (fun d hd h => ht d (List.mem_filter.1 hd).1 h) p2 x2 hF2 (fun ga gn gc H3 H4 e15 l1 d2 d6 e22 => ?_)
        rw [Rc_loop]
        rw [← hn] at e17 d1 hrd
        simp (maxDischargeDepth := 12) [m4_1, hin, hr.ia, hrd, e, stx, ldx, hk, e17, d1, hn6I, est, e15, l1, d2, d6, e22, w]
        done
end
end Go.Mod

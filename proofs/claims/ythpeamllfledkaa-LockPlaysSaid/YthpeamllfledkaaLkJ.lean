/- Who holds: who is first of those that wait; what stays true. -/
import Derived.Test.YthpeamllfledkaaLkI
set_option linter.unusedVariables false
set_option linter.unusedSimpArgs false
namespace Go.Mod
open Classical

/-! ### the least, the first of these -/
def fmin1 {α : Type} (key : α → Int) : Option α → List α → Option α
  | c, [] => c
  | none, a :: l => fmin1 key (some a) l
  | some b, a :: l => fmin1 key (some (if key a < key b then a else b)) l
def fmin {α : Type} (key : α → Int) (l : List α) : Option α := fmin1 key none l
section
variable {α : Type} {key : α → Int}
theorem fmin1_some : ∀ (l : List α) (c b : α), fmin1 key (some c) l = some b ↔ (b = c ∧ ∀ a ∈ l, key c ≤ key a) ∨ ∃ l1 l2, l = l1 ++ b :: l2 ∧ key b < key c ∧ (∀ a ∈ l1, key b < key a) ∧ ∀ a ∈ l2, key b ≤ key a
  | [], c, b => by
    simp only [fmin1, Option.some.injEq]
    constructor
    · intro h; exact .inl ⟨h.symm, by simp⟩
    · rintro (⟨h, _⟩ | ⟨l1, l2, h, _⟩)
      · exact h.symm
      · simp at h
  | d :: l, c, b => by
    simp only [fmin1]
    rw [fmin1_some l]
    by_cases h : key d < key c
    · simp only [if_pos h]
      constructor
      · rintro (⟨rfl, h1⟩ | ⟨l1, l2, rfl, h1, h2, h3⟩)
        · exact .inr ⟨[], l, rfl, h, by simp, h1⟩
        · refine .inr ⟨d :: l1, l2, rfl, by omega, fun a ha => ?_, h3⟩
          rcases List.mem_cons.1 ha with rfl | ha
          · exact h1
          · exact h2 a ha
      · rintro (⟨rfl, h1⟩ | ⟨l1, l2, e, h1, h2, h3⟩)
        · have := h1 d (by simp); omega
        · cases l1 with
          | nil =>
            simp at e
            obtain ⟨rfl, rfl⟩ := e
            exact .inl ⟨rfl, h3⟩
          | cons x l1 =>
            simp at e
            obtain ⟨rfl, rfl⟩ := e
            exact .inr ⟨l1, l2, rfl, h2 d (by simp), fun a ha => h2 a (by simp [ha]), h3⟩
    · simp only [if_neg h]
      constructor
      · rintro (⟨rfl, h1⟩ | ⟨l1, l2, rfl, h1, h2, h3⟩)
        · refine .inl ⟨rfl, fun a ha => ?_⟩
          rcases List.mem_cons.1 ha with rfl | ha
          · omega
          · exact h1 a ha
        · refine .inr ⟨d :: l1, l2, rfl, h1, fun a ha => ?_, h3⟩
          rcases List.mem_cons.1 ha with rfl | ha
          · omega
          · exact h2 a ha
      · rintro (⟨rfl, h1⟩ | ⟨l1, l2, e, h1, h2, h3⟩)
        · exact .inl ⟨rfl, fun a ha => h1 a (by simp [ha])⟩
        · cases l1 with
          | nil =>
            simp at e
            obtain ⟨rfl, rfl⟩ := e
            omega
          | cons x l1 =>
            simp at e
            obtain ⟨rfl, rfl⟩ := e
            exact .inr ⟨l1, l2, rfl, h1, fun a ha => h2 a (by simp [ha]), h3⟩
theorem fmin_iff {l : List α} {b : α} : fmin key l = some b ↔ ∃ l1 l2, l = l1 ++ b :: l2 ∧ (∀ a ∈ l1, key b < key a) ∧ ∀ a ∈ l2, key b ≤ key a := by
  unfold fmin
  cases l with
  | nil => simp [fmin1]
  | cons c l =>
    simp only [fmin1]
    rw [fmin1_some l]
    constructor
    · rintro (⟨rfl, h⟩ | ⟨l1, l2, rfl, h1, h2, h3⟩)
      · exact ⟨[], l, rfl, by simp, h⟩
      · refine ⟨c :: l1, l2, rfl, fun a ha => ?_, h3⟩
        rcases List.mem_cons.1 ha with rfl | ha
        · exact h1
        · exact h2 a ha
    · rintro ⟨l1, l2, e, h2, h3⟩
      cases l1 with
      | nil =>
        simp at e
        obtain ⟨rfl, rfl⟩ := e
        exact .inl ⟨rfl, h3⟩
      | cons x l1 =>
        simp at e
        obtain ⟨rfl, rfl⟩ := e
        exact .inr ⟨l1, l2, rfl, h2 c (by simp), fun a ha => h2 a (by simp [ha]), h3⟩
theorem fmin_mem {l : List α} {b : α} (h : fmin key l = some b) : b ∈ l := by
  obtain ⟨l1, l2, rfl, _⟩ := fmin_iff.1 h; simp
theorem fmin_none {l : List α} : fmin key l = none ↔ l = [] := by
  unfold fmin
  have : ∀ (l : List α) (c : α), fmin1 key (some c) l ≠ none := by
    intro l
    induction l with
    | nil => intro c; simp [fmin1]
    | cons a l ih => intro c; simp only [fmin1]; exact ih _
  cases l with
  | nil => simp [fmin1]
  | cons c l => simp only [fmin1]; simp [this]
theorem fmin_filter {l : List α} {b : α} {p : α → Bool} (h : fmin key l = some b) (hp : p b = true) : fmin key (l.filter p) = some b := by
  obtain ⟨l1, l2, rfl, h1, h2⟩ := fmin_iff.1 h
  refine fmin_iff.2 ⟨l1.filter p, l2.filter p, by simp [hp], fun a ha => h1 a (List.mem_filter.1 ha).1, fun a ha => h2 a (List.mem_filter.1 ha).1⟩
theorem fmin_map {β : Type} {f : β → α} {l : List β} : fmin key (l.map f) = (fmin (fun b => key (f b)) l).map f := by
  have : ∀ (l : List β) (c : Option β), fmin1 key (c.map f) (l.map f) = (fmin1 (fun b => key (f b)) c l).map f := by
    intro l
    induction l with
    | nil => intro c; cases c <;> rfl
    | cons a l ih =>
      intro c
      cases c with
      | none => exact ih (some a)
      | some c =>
        simp only [List.map_cons, Option.map_some, fmin1]
        rw [← ih]
        congr 1
        simp only [Option.map_some]
        split <;> rfl
  exact this l none
end

/-! ### the row by which is given, its first one of some -/
theorem rankG_srt {key : Ask → Int} : ∀ (wa : List Ask) (ps : List (Int × Int)), ps.Pairwise (fun p q => p.1 ≤ q.1) → (rankG key ps wa).Pairwise fun p q => p.1 ≤ q.1
  | [], ps, h => h
  | a :: wa, ps, h => by
    simp only [rankG]
    split
    · exact rankG_srt wa _ (putAt_srt h)
    · exact rankG_srt wa _ h
where putAt_srt {k n : Int} : ∀ {ps : List (Int × Int)}, ps.Pairwise (fun p q => p.1 ≤ q.1) → (putAt ps (posR k ps) (k, n)).Pairwise fun p q => p.1 ≤ q.1
  | [], _ => by simp [posR_nil, putAt_zero]
  | e :: ps, h => by
    obtain ⟨h1, h2⟩ := List.pairwise_cons.1 h
    rw [posR_cons]
    split
    · rename_i hk
      rw [putAt_zero, List.pairwise_cons]
      refine ⟨fun p hp => ?_, h⟩
      rcases List.mem_cons.1 hp with rfl | hp
      · simp only []; omega
      · have := h1 p hp; simp only []; omega
    · rename_i hk
      rw [putAt_succ, List.pairwise_cons]
      refine ⟨fun p hp => ?_, putAt_srt h2⟩
      rcases mem_putAt.1 hp with rfl | hp
      · simp only []; omega
      · exact h1 p hp
/-- The first pair of these. -/
def headP (ps : List (Int × Int)) (p : Int → Bool) : Option (Int × Int) := ps.find? fun q => p q.2
theorem put_head {k n : Int} {p : Int → Bool} : ∀ {ps : List (Int × Int)}, ps.Pairwise (fun p q => p.1 ≤ q.1) → headP (putAt ps (posR k ps) (k, n)) p =
    if p n = true then (match headP ps p with | some q => if k < q.1 then some (k, n) else some q | none => some (k, n)) else headP ps p
  | [], _ => by
    rw [posR_nil, putAt_zero]
    by_cases h : p n = true <;> simp [headP, h]
  | e :: ps, h => by
    obtain ⟨h1, h2⟩ := List.pairwise_cons.1 h
    have ih := put_head (k := k) (n := n) (p := p) h2
    rw [posR_cons]
    unfold headP at ih ⊢
    split
    · rename_i hk
      rw [putAt_zero, List.find?_cons]
      by_cases hp : p n = true
      · simp only [hp, if_true]
        cases hf : (e :: ps).find? fun q => p q.2 with
        | none => rfl
        | some q =>
          have hm := List.mem_of_find?_eq_some hf
          have : e.1 ≤ q.1 := by
            rcases List.mem_cons.1 hm with rfl | hm
            · exact Int.le_refl _
            · exact h1 q hm
          simp only []
          rw [if_pos (by omega)]
      · simp [hp]
    · rename_i hk
      rw [putAt_succ, List.find?_cons, List.find?_cons]
      by_cases he : p e.2 = true
      · simp only [he]
        by_cases hp : p n = true
        · rw [if_pos hp, if_neg hk]
        · rw [if_neg hp]
      · have he : p e.2 = false := by simpa using he
        simp only [he]
        exact ih
theorem rank_head {key : Ask → Int} {p : Int → Bool} : ∀ (wa : List Ask) (ps : List (Int × Int)) (c : Option Ask), ps.Pairwise (fun p q => p.1 ≤ q.1) → headP ps p = c.map (fun a => (key a, (a.n : Int))) →
    headP (rankG key ps wa) p = (fmin1 key c (wa.filter fun a => a.isIn && p (a.n : Int))).map fun a => (key a, (a.n : Int))
  | [], ps, c, _, hc => by simpa [rankG, fmin1] using hc
  | a :: wa, ps, c, h, hc => by
    simp only [rankG]
    by_cases hi : a.isIn = true
    · rw [if_pos hi]
      by_cases hp : p (a.n : Int) = true
      · rw [List.filter_cons_of_pos (by simp [hi, hp])]
        cases c with
        | none =>
          simp only [fmin1]
          refine rank_head wa _ (some a) (rankG_srt.putAt_srt h) ?_
          rw [put_head h, if_pos hp, hc]; rfl
        | some b =>
          simp only [fmin1]
          refine rank_head wa _ (some (if key a < key b then a else b)) (rankG_srt.putAt_srt h) ?_
          rw [put_head h, if_pos hp, hc]
          simp only [Option.map_some]
          split <;> rfl
      · rw [List.filter_cons_of_neg (by simp [hp])]
        refine rank_head wa _ c (rankG_srt.putAt_srt h) ?_
        rw [put_head h, if_neg hp, hc]
    · rw [if_neg hi, List.filter_cons_of_neg (by simp [hi])]
      exact rank_head wa _ c h hc
theorem rank_find {key : Ask → Int} {p : Int → Bool} {wa : List Ask} : (idsR (rankG key [] wa)).find? p = (fmin key (wa.filter fun a => a.isIn && p (a.n : Int))).map fun a => (a.n : Int) := by
  have h := rank_head (key := key) (p := p) wa [] none (by simp) (by simp [headP])
  unfold idsR
  rw [List.find?_map]
  unfold headP at h
  have e : ((p ∘ fun x : Int × Int => x.2) : Int × Int → Bool) = fun q => p q.2 := rfl
  rw [e, h, Option.map_map]
  rfl

/-! ### what is given -/
def candA (s : SetL) (ak : List Ask) (g : Int) : List Ask := ak.filter fun b => !b.holds && b.isIn && decide (grpR s b.res = g)
/-- Is it given now? -/
def finA (s : SetL) (key : Ask → Int) (ak : List Ask) (a : Ask) : Prop := (∀ b ∈ ak, b.holds = true → grpR s b.res ≠ grpR s a.res) ∧ fmin key (candA s ak (grpR s a.res)) = some a
theorem gives_fin {s : SetL} {key : Ask → Int} {x : LS} (hu : uniqA x.ak) (hN : ∀ a ∈ x.ak, a.n < s.tasks.length) (hr : ∀ a ∈ x.ak, 0 ≤ a.res ∧ a.res < (s.homes.length : Int)) :
    (givesF s key x).ak = x.ak.map fun a => if finA s key x.ak a then holdA a else a := by
  have hres : ∀ a ∈ x.ak, resN x.ak (a.n : Int) = a.res := fun a ha => by unfold resN; rw [uniq_find hu ha]
  rw [gives_spec hu hN hr]
  apply List.map_congr_left
  intro a ha
  have e1 : noneG (fun n => grpR s (resN x.ak n)) x.ak (grpR s a.res) ↔ ∀ b ∈ x.ak, b.holds = true → grpR s b.res ≠ grpR s a.res := by
    unfold noneG
    constructor
    · intro h b hb hh; have := h b hb hh; simp only [hres b hb] at this; exact this
    · intro h b hb hh; simp only [hres b hb]; exact h b hb hh
  have e2 : (waitA x.ak).filter (fun b => b.isIn && decide (grpR s (resN x.ak (b.n : Int)) = grpR s a.res)) = candA s x.ak (grpR s a.res) := by
    unfold waitA candA
    rw [List.filter_filter]
    apply List.filter_congr
    intro b hb
    rw [hres b hb]
    cases b.holds <;> cases b.isIn <;> simp
  have e3 : ((idsR (rankG key [] (waitA x.ak))).find? (fun m => decide (grpR s (resN x.ak m) = grpR s a.res)) = some (a.n : Int)) ↔ fmin key (candA s x.ak (grpR s a.res)) = some a := by
    rw [rank_find, e2]
    constructor
    · intro h
      obtain ⟨b, hb, e⟩ := Option.map_eq_some_iff.1 h
      have hbm : b ∈ x.ak := (List.mem_filter.1 (fmin_mem hb)).1
      obtain ⟨i, hi⟩ := List.mem_iff_getElem?.1 hbm
      obtain ⟨k, hk⟩ := List.mem_iff_getElem?.1 ha
      have : i = k := map_inj_at hu hi hk (by show b.n = a.n; omega)
      subst this
      rw [hi] at hk
      cases hk
      exact hb
    · intro h; rw [h]; rfl
  by_cases hf : finA s key x.ak a
  · rw [if_pos hf, if_pos ⟨e1.2 hf.1, e3.2 hf.2⟩]
  · rw [if_neg hf, if_neg fun h => hf ⟨e1.1 h.1, e3.1 h.2⟩]
end Go.Mod

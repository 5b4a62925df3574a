/- A region whose order is drawn, I: the model's own run. -/
import Derived.Test.YtpdkmcnoidbjoaaFwP
set_option linter.unusedVariables false
set_option linter.unusedSimpArgs false
namespace Go.Mod

/-- A call's answer: the heap only grows, what is dead stays so. -/
structure Tame (call : CallF) : Prop where
  grows : ∀ f vs H r H', call f vs H = some (r, H') → H.length ≤ H'.length
  dead : ∀ f vs H r H', call f vs H = some (r, H') → ∀ (id : Nat), H[id]? = some MObj.dead → H'[id]? = some MObj.dead

section
variable {call : CallF} {T T' : Reg} {H H' : MH}

theorem set_dead {b id : Nat} {o o' : MObj} (hb : H[b]? = some o) (ho : o.live = true) (hd : H[id]? = some .dead) : (H.set b o')[id]? = some .dead := by
  have : b ≠ id := by rintro rfl; rw [hb] at hd; cases hd; simp [MObj.live] at ho
  rw [List.getElem?_set_ne this]; exact hd
theorem set_dead' {b id : Nat} (hd : H[id]? = some .dead) : (H.set b .dead)[id]? = some .dead := by
  rw [List.getElem?_set]
  split
  · rename_i e; subst e; rw [if_pos (List.getElem?_eq_some_iff.1 hd).1]
  · exact hd
theorem app_dead {id : Nat} {X : MH} (hd : H[id]? = some .dead) : (H ++ X)[id]? = some .dead := by
  rw [List.getElem?_append_left (List.getElem?_eq_some_iff.1 hd).1]; exact hd

theorem meff_dead {op : MOp} {vs : List Value} {v : Value} {id : Nat} (h : meff op vs H = some (v, H')) (hd : H[id]? = some .dead) : H'[id]? = some .dead := by
  unfold meff at h
  repeat' (first
    | contradiction
    | (cases h; first | exact hd | exact set_dead ‹H[_]? = some _› rfl hd | exact app_dead hd | exact app_dead (set_dead' hd))
    | split at h | (simp only [] at h; split at h))

/-- An operation of a drawn region: its new object lies at the place kept for it. -/
theorem mop_at {op : MOp} {vs : List Value} {b : Nat} {v : Value} (hc : Tame call) (h : mop call op vs H (some b) = some (v, H')) :
    H.length ≤ H'.length ∧ ∀ (id : Nat), H[id]? = some MObj.dead → (op.kind = .alloc → id ≠ b) → H'[id]? = some MObj.dead := by
  unfold mop at h
  split at h
  · split at h <;> first | contradiction | (cases h; exact ⟨Nat.le_refl _, fun id h _ => h⟩)
  · split at h <;> first | contradiction | (cases h; exact ⟨Nat.le_refl _, fun id h _ => h⟩)
  · rename_i hk
    simp only [] at h
    split at h <;> first | contradiction | skip
    cases h
    exact ⟨by simp, fun id hd hne => by rw [List.getElem?_set_ne (fun e => hne hk e.symm)]; exact hd⟩
  · refine ⟨meff_grows h, fun id hd _ => meff_dead h hd⟩
  · refine ⟨meff_grows h, fun id hd _ => meff_dead h hd⟩
  · split at h <;> first | contradiction | exact ⟨hc.grows _ _ _ _ _ h, fun id hd _ => hc.dead _ _ _ _ _ h id hd⟩
  · split at h <;> first | contradiction | exact ⟨hc.grows _ _ _ _ _ h, fun id hd _ => hc.dead _ _ _ _ _ h id hd⟩
theorem mop_none {op : MOp} {vs : List Value} {v : Value} (hc : Tame call) (h : mop call op vs H none = some (v, H')) :
    H.length ≤ H'.length ∧ ∀ (id : Nat), H[id]? = some MObj.dead → H'[id]? = some MObj.dead := by
  unfold mop at h
  split at h
  · split at h <;> first | contradiction | (cases h; exact ⟨Nat.le_refl _, fun id h => h⟩)
  · split at h <;> first | contradiction | (cases h; exact ⟨Nat.le_refl _, fun id h => h⟩)
  · simp only [] at h
    split at h <;> first | contradiction | skip
    cases h
    exact ⟨by simp, fun id hd => app_dead hd⟩
  · exact ⟨meff_grows h, fun id hd => meff_dead h hd⟩
  · exact ⟨meff_grows h, fun id hd => meff_dead h hd⟩
  · split at h <;> first | contradiction | exact ⟨hc.grows _ _ _ _ _ h, hc.dead _ _ _ _ _ h⟩
  · split at h <;> first | contradiction | exact ⟨hc.grows _ _ _ _ _ h, hc.dead _ _ _ _ _ h⟩

/-- What one step does: 'v' goes to the destination. -/
inductive StepIs (call : CallF) (m : MOper) (T : Reg) (H : MH) (b : Option Nat) (T' : Reg) (H' : MH) : Prop
  | no (hw : mwant T m.guard = some false) (hT : T' = mdst T m (.tuple #[])) (hH : H' = H) : StepIs call m T H b T' H'
  | yes (vs : List Value) (v : Value) (hw : mwant T m.guard = some true) (he : evs T m.args = some vs) (ho : mop call m.op vs H b = some (v, H')) (hT : T' = mdst T m v) : StepIs call m T H b T' H'

theorem stepIs {m : MOper} {b : Option Nat} (h : mstep call m T H b = some (T', H')) : StepIs call m T H b T' H' := by
  unfold mstep at h
  split at h <;> first | contradiction | skip
  · rename_i hw
    split at h <;> first | contradiction | skip
    rename_i vs he
    split at h <;> first | contradiction | skip
    rename_i v H1 ho
    cases h
    exact .yes vs v hw he ho rfl
  · rename_i hw
    cases h
    exact .no hw rfl rfl
end

/-- A run of a drawn region in the text's order: the states, the places kept for new objects. -/
structure TextRun (call : CallF) (all : List MOper) (base : Nat) (S : Nat → Reg × MH) : Prop where
  step : ∀ i m, all[i]? = some m → mstep call m (S i).1 (S i).2 (if m.op.kind = .alloc then some (allocAt all base i) else none) = some ((S (i + 1)).1, (S (i + 1)).2)

theorem mtrace_run {call : CallF} : ∀ (l : List MOper) (base : Nat) (T : Reg) (H : MH) (tr : List (Reg × MH)), mtrace call l base T H = some tr →
    tr.length = l.length + 1 ∧ tr[0]? = some (T, H) ∧ ∀ i m, l[i]? = some m → ∃ T1 H1 T2 H2, tr[i]? = some (T1, H1) ∧ tr[i + 1]? = some (T2, H2) ∧ mstep call m T1 H1 (if m.op.kind = .alloc then some (allocAt l base i) else none) = some (T2, H2)
  | [], base, T, H, tr, h => by
    simp only [mtrace] at h; cases h
    exact ⟨rfl, rfl, fun i m hm => by simp at hm⟩
  | o :: l, base, T, H, tr, h => by
    simp only [mtrace] at h
    split at h <;> first | contradiction | skip
    rename_i T1 H1 h1
    split at h <;> first | contradiction | skip
    rename_i tr1 h2
    cases h
    obtain ⟨g1, g2, g3⟩ := mtrace_run l _ T1 H1 tr1 h2
    refine ⟨by simp [g1], rfl, fun i m hm => ?_⟩
    cases i with
    | zero =>
      simp at hm; subst hm
      refine ⟨T, H, T1, H1, rfl, by simpa using g2, ?_⟩
      have : allocAt (o :: l) base 0 = base := rfl
      rw [this]; exact h1
    | succ i =>
      obtain ⟨a, b, c, d, e1, e2, e3⟩ := g3 i m (by simpa using hm)
      refine ⟨a, b, c, d, by simpa using e1, by simpa using e2, ?_⟩
      have : allocAt (o :: l) base (i + 1) = allocAt l (if o.op.kind = .alloc then base + 1 else base) i := rfl
      rw [this]; exact e3

theorem allocAt_ge : ∀ (l : List MOper) (base i : Nat), base ≤ allocAt l base i
  | [], base, i => by simp [allocAt]
  | o :: l, base, 0 => by simp [allocAt]
  | o :: l, base, i + 1 => by
    simp only [allocAt]
    have := allocAt_ge l (if o.op.kind = .alloc then base + 1 else base) i
    split at this <;> split <;> first | omega | simp_all
theorem allocAt_lt : ∀ (l : List MOper) (base i : Nat) (m : MOper), l[i]? = some m → m.op.kind = .alloc → allocAt l base i < base + nalloc l
  | [], base, i, m, h, hk => by simp at h
  | o :: l, base, 0, m, h, hk => by
    simp at h; subst h
    simp only [allocAt, nalloc, hk, if_true]; omega
  | o :: l, base, i + 1, m, h, hk => by
    simp only [allocAt, nalloc]
    have := allocAt_lt l (if o.op.kind = .alloc then base + 1 else base) i m (by simpa using h) hk
    split <;> simp_all <;> omega
theorem allocAt_mono : ∀ (l : List MOper) (base i j : Nat) (m : MOper), l[i]? = some m → m.op.kind = .alloc → i < j → allocAt l base i < allocAt l base j
  | [], base, i, j, m, h, hk, hij => by simp at h
  | o :: l, base, 0, j + 1, m, h, hk, hij => by
    simp at h; subst h
    simp only [allocAt, hk, if_true]
    exact allocAt_ge l (base + 1) j
  | o :: l, base, i + 1, j + 1, m, h, hk, hij => by
    simp only [allocAt]
    exact allocAt_mono l _ i j m (by simpa using h) hk (by omega)
  | o :: l, base, i, 0, m, h, hk, hij => by omega

section
variable {call : CallF} {all : List MOper} {base : Nat} {S : Nat → Reg × MH}

theorem TextRun.is (h : TextRun call all base S) {i : Nat} {m : MOper} (hm : all[i]? = some m) : StepIs call m (S i).1 (S i).2 (if m.op.kind = .alloc then some (allocAt all base i) else none) (S (i + 1)).1 (S (i + 1)).2 := stepIs (h.step i m hm)

def writer (all : List MOper) (t q : Nat) : Prop := ∃ m, all[q]? = some m ∧ m.dst = some t

/-- A register that nobody writes between two places. -/
theorem TextRun.reg (h : TextRun call all base S) {t : Nat} {v : Value} (i : Nat) : ∀ d, i + d ≤ all.length → (∀ q, i ≤ q → q < i + d → ¬ writer all t q) → rget (S (i + d)).1 t = some v → rget (S i).1 t = some v
  | 0, _, _, hv => hv
  | d + 1, hl, hn, hv => by
    have hlt : i + d < all.length := by omega
    have hm : all[i + d]? = some (all[i + d]) := List.getElem?_eq_getElem hlt
    refine h.reg i d (by omega) (fun q a b => hn q a (by omega)) ?_
    have hnw := hn (i + d) (by omega) (by omega)
    have key : ∀ u, rget (mdst (S (i + d)).1 all[i + d] u) t = some v → rget (S (i + d)).1 t = some v := by
      intro u hu
      unfold mdst at hu
      split at hu
      · rename_i dd hd
        have hu := rget_rkill hu
        rw [rget_rput] at hu
        split at hu
        · rename_i e; subst e; exact absurd ⟨_, hm, hd⟩ hnw
        · exact hu
      · exact rget_rkill hu
    rw [← Nat.add_assoc] at hv
    rcases h.is hm with ⟨_, hT, _⟩ | ⟨vs, u, _, _, _, hT⟩
    · rw [hT] at hv; exact key _ hv
    · rw [hT] at hv; exact key _ hv

/-- An object's place that nobody touches between two places of the text where nothing writes. -/
theorem TextRun.heap (h : TextRun call all base S) {id : Nat} (i : Nat) : ∀ d, i + d ≤ all.length → (∀ q m, i ≤ q → q < i + d → all[q]? = some m → isEff m = false ∧ noComm m = true ∧ (m.op.kind = .alloc → allocAt all base q ≠ id)) →
    (S (i + d)).2[id]? = (S i).2[id]? ∧ (S (i + d)).2.length = (S i).2.length
  | 0, _, _ => ⟨rfl, rfl⟩
  | d + 1, hl, hn => by
    have hlt : i + d < all.length := by omega
    have hm : all[i + d]? = some (all[i + d]) := List.getElem?_eq_getElem hlt
    obtain ⟨ih1, ih2⟩ := h.heap (id := id) i d (by omega) (fun q m a b => hn q m a (by omega))
    obtain ⟨he, hcm, ha⟩ := hn (i + d) _ (by omega) (by omega) hm
    rw [← ih1, ← ih2, ← Nat.add_assoc]
    rcases h.is hm with ⟨_, _, hH⟩ | ⟨vs, u, _, _, ho, _⟩
    · rw [hH]; exact ⟨rfl, rfl⟩
    · unfold mop at ho
      unfold isEff at he
      unfold noComm at hcm
      split at ho
      · split at ho <;> first | contradiction | (rw [← congrArg Prod.snd (Option.some.inj ho)]; exact ⟨rfl, rfl⟩)
      · split at ho <;> first | contradiction | (rw [← congrArg Prod.snd (Option.some.inj ho)]; exact ⟨rfl, rfl⟩)
      · rename_i hk
        rw [if_pos hk] at ho
        simp only [] at ho
        split at ho <;> first | contradiction | skip
        rename_i o v0 _
        have ho := Option.some.inj ho
        have e2 : (S (i + d + 1)).2 = (S (i + d)).2.set (allocAt all base (i + d)) o := (congrArg Prod.snd ho).symm
        rw [e2]
        exact ⟨by rw [List.getElem?_set_ne (ha hk)], by simp⟩
      · rename_i hk; rw [hk] at he; cases he
      · rename_i hk; rw [hk] at hcm; cases hcm
      · rename_i hk; rw [hk] at he; cases he
      · rename_i hk; rw [hk] at he; cases he

/-- The places kept for new objects are dead till then. -/
theorem TextRun.dead (hc : Tame call) (h : TextRun call all base S) {id : Nat} (i : Nat) : ∀ d, i + d ≤ all.length → (∀ q m, i ≤ q → q < i + d → all[q]? = some m → m.op.kind = .alloc → allocAt all base q ≠ id) →
    (S i).2[id]? = some .dead → (S (i + d)).2[id]? = some .dead
  | 0, _, _, hd => hd
  | d + 1, hl, hn, hd => by
    have hlt : i + d < all.length := by omega
    have hm : all[i + d]? = some (all[i + d]) := List.getElem?_eq_getElem hlt
    have ih := h.dead hc i d (by omega) (fun q m a b => hn q m a (by omega)) hd
    have ha := hn (i + d) _ (by omega) (by omega) hm
    rw [← Nat.add_assoc]
    rcases h.is hm with ⟨_, _, hH⟩ | ⟨vs, u, _, _, ho, _⟩
    · rw [hH]; exact ih
    · split at ho
      · rename_i hk
        exact (mop_at hc ho).2 id ih fun hk e => ha hk e.symm
      · exact (mop_none hc ho).2 id ih

theorem TextRun.grows (hc : Tame call) (h : TextRun call all base S) (i : Nat) : ∀ d, i + d ≤ all.length → (S i).2.length ≤ (S (i + d)).2.length
  | 0, _ => Nat.le_refl _
  | d + 1, hl => by
    have hlt : i + d < all.length := by omega
    have hm : all[i + d]? = some (all[i + d]) := List.getElem?_eq_getElem hlt
    refine Nat.le_trans (h.grows hc i d (by omega)) ?_
    rw [← Nat.add_assoc]
    rcases h.is hm with ⟨_, _, hH⟩ | ⟨vs, u, _, _, ho, _⟩
    · rw [hH]; exact Nat.le_refl _
    · split at ho
      · exact (mop_at hc ho).1
      · exact (mop_none hc ho).1
end
end Go.Mod

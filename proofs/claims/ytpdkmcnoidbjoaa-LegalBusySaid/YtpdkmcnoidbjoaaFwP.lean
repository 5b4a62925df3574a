/- A region in the text's order. -/
import Derived.Test.YtpdkmcnoidbjoaaFwO
set_option linter.unusedVariables false
set_option linter.unusedSimpArgs false
namespace Go.Mod

section
variable {P : Program} {call : CallF} {n : Nat} {ops : Array Oper} {a : Act} {w : World} {φ : Ren} {T T' : Reg} {H H' : MH}

def OpsJ (P : Program) (ops : Array Oper) (l : List Nat) (a : Act) (w : World) (Q : Act → World → Prop) : Prop :=
  ∀ (b : Frame) (k : List Item) (cs : List Frame), ∃ a' w', Q a' w' ∧ Steps P (lone (b.at a (.inRegion ops l :: k)) cs w) (lone (b.at a' (.inRegion ops [] :: k)) cs w')

theorem OpsJ.nil {Q : Act → World → Prop} (h : Q a w) : OpsJ P ops [] a w Q := fun b k cs => ⟨a, w, h, Steps.refl _ _⟩
theorem OpsJ.cons {i : Nat} {l : List Nat} {Q : Act → World → Prop} (h : OpJ P ops i a w fun a w => OpsJ P ops l a w Q) : OpsJ P ops (i :: l) a w Q := fun b k cs => by
  obtain ⟨a1, w1, h1, s1⟩ := h b k cs l
  obtain ⟨a2, w2, h2, s2⟩ := h1 b k cs
  exact ⟨a2, w2, h2, s1.trans s2⟩
theorem OpsJ.mono {l : List Nat} {Q Q' : Act → World → Prop} (h : OpsJ P ops l a w Q) (hq : ∀ a w, Q a w → Q' a w) : OpsJ P ops l a w Q' := fun b k cs =>
  let ⟨a', w', q, s⟩ := h b k cs; ⟨a', w', hq _ _ q, s⟩

theorem Post.trans {n : Nat} {φ φ₁ : Ren} {H H₁ H₂ : MH} {w w₁ : World} {T₂ : Reg} {ds : List Deferred} {a : Act} {w₂ : World} (st : Step H.length φ (hp H) w φ₁ (hp H₁) w₁) (hl : H.length ≤ H₁.length) (h : Post n φ₁ H₁ w₁ T₂ H₂ ds a w₂) :
    Post n φ H w T₂ H₂ ds a w₂ := by
  obtain ⟨h1, φ', h2, h3⟩ := h
  exact ⟨h1, φ', st.trans h2 hl, h3⟩

/-! ### the model's heap only grows -/
def Grows (call : CallF) : Prop := ∀ f vs H r H', call f vs H = some (r, H') → H.length ≤ H'.length

theorem meff_grows {op : MOp} {vs : List Value} {v : Value} (h : meff op vs H = some (v, H')) : H.length ≤ H'.length := by
  unfold meff at h
  repeat' (first | contradiction | (cases h; simp; done) | split at h | (simp only [] at h; split at h))
theorem mop_grows (hc : Grows call) {op : MOp} {vs : List Value} {b : Option Nat} {v : Value} (h : mop call op vs H b = some (v, H')) : H.length ≤ H'.length := by
  unfold mop at h
  split at h
  · split at h <;> first | contradiction | (cases h; exact Nat.le_refl _)
  · split at h <;> first | contradiction | (cases h; exact Nat.le_refl _)
  · split at h
    · split at h <;> first | contradiction | (cases h; simp)
    · split at h <;> first | contradiction | (cases h; simp)
  · exact meff_grows h
  · exact meff_grows h
  · split at h <;> first | contradiction | exact hc _ _ _ _ _ h
  · split at h <;> first | contradiction | exact hc _ _ _ _ _ h
theorem mstep_grows (hc : Grows call) {m : MOper} {b : Option Nat} (h : mstep call m T H b = some (T', H')) : H.length ≤ H'.length := by
  unfold mstep at h
  split at h <;> first | contradiction | skip
  · split at h <;> first | contradiction | skip
    split at h <;> first | contradiction | skip
    rename_i hm
    cases h
    exact mop_grows hc hm
  · cases h; exact Nat.le_refl _
theorem mops_grows (hc : Grows call) : ∀ {l : List MOper} {T : Reg} {H : MH}, mops call l T H = some (T', H') → H.length ≤ H'.length
  | [], T, H, h => by simp only [mops] at h; cases h; exact Nat.le_refl _
  | m :: l, T, H, h => by
    simp only [mops] at h
    split at h <;> first | contradiction | skip
    rename_i T1 H1 h1
    exact Nat.le_trans (mstep_grows hc h1) (mops_grows hc h)

theorem cOpers_get {ol : List Oper} {ms : List MOper} (h : cOpers P n ops ol = some ms) : ms.length = ol.length ∧ ∀ (i : Nat) o m, ol[i]? = some o → ms[i]? = some m → cOper P n ops o = some m := by
  induction ol generalizing ms with
  | nil => simp only [cOpers] at h; cases h; exact ⟨rfl, fun i o m h => by simp at h⟩
  | cons o ol ih =>
    simp only [cOpers] at h
    split at h <;> first | contradiction | skip
    rename_i m ms' h1 h2
    cases h
    obtain ⟨g1, g2⟩ := ih h2
    refine ⟨by simp [g1], fun i o' m' ho hm => ?_⟩
    cases i with
    | zero => simp at ho hm; subst ho; subst hm; exact h1
    | succ i => exact g2 i o' m' (by simpa using ho) (by simpa using hm)

theorem comps_of {l : List MOper} (h : cOpers P n ops ops.toList = some (l.map MOper.bare)) : l.length = ops.size ∧ ∀ (i : Nat) o m, ops[i]? = some o → l[i]? = some m → Comp P n ops o m := by
  obtain ⟨h1, h2⟩ := cOpers_get h
  refine ⟨by simpa using h1, fun i o m ho hm => comp_of (h2 i o m.bare (by simpa using ho) (by simp [hm]))⟩

theorem mops_sim (hcall : CallOk P call) (hgr : Grows call) {all : List MOper} (hall : all.length = ops.size) (hcomp : ∀ (i : Nat) o m, ops[i]? = some o → all[i]? = some m → Comp P n ops o m) :
    ∀ (l : List MOper) (j : Nat) (T : Reg) (H : MH) (a : Act) (w : World) (φ : Ren), all.drop j = l → TRel n φ T a.tmps → HRel φ (hp H) w → mops call l T H = some (T', H') →
    OpsJ P ops (List.range' j l.length) a w (Post n φ H w T' H' a.defers)
  | [], j, T, H, a, w, φ, hl, hT, hh, hm => by
    simp only [mops] at hm; cases hm
    exact OpsJ.nil ⟨rfl, φ, Step.refl hh, hT⟩
  | m :: l, j, T, H, a, w, φ, hl, hT, hh, hm => by
    simp only [mops] at hm
    split at hm <;> first | contradiction | skip
    rename_i T1 H1 h1
    have hj : j < all.length := by
      rcases Nat.lt_or_ge j all.length with h | h
      · exact h
      · rw [List.drop_eq_nil_of_le h] at hl; cases hl
    have hmj : all[j]? = some m := by
      have := congrArg (fun l => l[0]?) hl
      simpa using this
    have ho : ops[j]? = some (ops[j]'(by omega)) := Array.getElem?_eq_getElem _
    have hl' : all.drop (j + 1) = l := by
      have := congrArg (List.drop 1) hl
      simpa [List.drop_drop, Nat.add_comm] using this
    rw [List.length_cons, List.range'_succ]
    refine OpsJ.cons ((op_sim hcall ho (hcomp j _ m ho hmj) hT hh h1).mono fun a1 w1 ⟨hd, φ1, st, hT1⟩ => ?_)
    refine (mops_sim hcall hgr hall hcomp l (j + 1) T1 H1 a1 w1 φ1 hl' hT1 st.rel hm).mono fun a2 w2 h2 => ?_
    rw [hd] at h2
    exact h2.trans st (mstep_grows hgr h1)
end
end Go.Mod

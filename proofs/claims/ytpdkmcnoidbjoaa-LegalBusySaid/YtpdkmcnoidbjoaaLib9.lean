/- Rows of records of any kind. -/
import Derived.Test.YtpdkmcnoidbjoaaLib8
set_option linter.unusedVariables false
set_option linter.unusedSimpArgs false
namespace Go.Mod

section
variable {α : Type} {f : α → List Value} {w : Nat}
theorem flat_len : ∀ {l : List α}, (∀ x ∈ l, (f x).length = w) → (l.flatMap f).length = l.length * w
  | [], _ => by simp
  | p :: ps, h => by
    have := flat_len (l := ps) fun q hq => h q (by simp [hq])
    simp only [List.flatMap_cons, List.length_append] at this ⊢
    rw [this, h p (by simp), List.length_cons, Nat.add_mul]; omega
theorem flat_at : ∀ {l : List α} {k : Nat} {p : α}, (∀ x ∈ l, (f x).length = w) → l[k]? = some p → ((l.flatMap f).drop (k * w)).take w = f p
  | [], k, p, _, hk => by simp at hk
  | q :: ps, 0, p, h, hk => by
    simp at hk; subst hk
    have := h q (by simp)
    simp only [List.flatMap_cons, Nat.zero_mul, List.drop_zero]
    rw [List.take_left']; exact this
  | q :: ps, k + 1, p, h, hk => by
    have ih := flat_at (l := ps) (k := k) (fun q hq => h q (by simp [hq])) (by simpa using hk)
    have := h q (by simp)
    simp only [List.flatMap_cons]
    rw [show (k + 1) * w = (f q).length + k * w by rw [this, Nat.add_mul]; omega, ← List.drop_drop, List.drop_left']
    · exact ih
    · rfl
variable {H : MH} {a : Option Addr} {n c : Nat} {l : List α}
theorem Row.gn (h : Row w H (.slice a n c) (l.flatMap f)) (hw : ∀ x ∈ l, (f x).length = w) (hw0 : 0 < w) : n = l.length := by
  obtain ⟨a', n', c', e, hl⟩ := h.slice
  cases e
  rw [flat_len hw] at hl
  exact Nat.eq_of_mul_eq_mul_right hw0 hl
/-- A record of a row. -/
theorem Row.grec (h : Row w H (.slice a n c) (l.flatMap f)) (hw : ∀ x ∈ l, (f x).length = w) (hw0 : 0 < w) {k : Nat} {p : α} (hk : l[k]? = some p) :
    ∃ b o j cs, a = some ⟨b, o, none⟩ ∧ H[b]? = some (.cells j cs) ∧ j.es = w ∧ o + k * w + w ≤ cs.length ∧ (cs.drop (o + k * w)).take w = f p ∧ ∀ (m : Nat) x, (f p)[m]? = some x → cs[o + k * w + m]? = some x := by
  have hkl := (List.getElem?_eq_some_iff.1 hk).1
  have hl := flat_len hw
  have hn := h.gn hw hw0
  rcases h with ⟨h1, h2⟩ | ⟨b, o, m, d, i, cs, h1, h2, h3, h4, h5, h6⟩
  · rw [h2] at hl
    have := Nat.mul_le_mul_right w (show 1 ≤ l.length by omega)
    simp at hl; omega
  · cases h1
    have hm := Nat.mul_le_mul_right w (show k + 1 ≤ n by omega)
    rw [Nat.add_mul] at hm
    have hat : (cs.drop (o + k * w)).take w = f p := by
      have := flat_at hw hk
      rw [← h6, List.drop_take, List.take_take, List.drop_drop, Nat.min_eq_left (by omega)] at this
      exact this
    refine ⟨b, o, i, cs, rfl, h3, h4, by omega, hat, fun m x hx => ?_⟩
    have hp := hw p (List.mem_of_getElem? hk)
    have hml := (List.getElem?_eq_some_iff.1 hx).1
    rw [← hat, List.getElem?_take, if_pos (by omega), List.getElem?_drop] at hx
    exact hx
end
/-- An argument's row, as records. -/
theorem rep_row {α : Type} {f : α → List Value} {fs : List Sh} {H : MH} {v : Value} {d : D} (h : Rep H (.row fs) v d) (hd : ∀ ms ds, RepL H fs ms ds → ∃ x : α, ms = f x) :
    ∃ l : List α, Row fs.length H v (l.flatMap f) ∧ ∀ x ∈ l, (f x).length = fs.length := by
  cases h with
  | nil => exact ⟨[], .inl ⟨rfl, rfl⟩, by simp⟩
  | row hB hn hm hl hw h =>
    rename_i b n cs ds
    obtain ⟨l, h1, h2⟩ := choose_list (α := α) (n := n) (p := fun i x => (cs.drop (i * fs.length)).take fs.length = f x) (fun i hi => by
      have hd' : ds[i]? = some ds[i] := List.getElem?_eq_getElem (by omega)
      have := Rep.cells (H := H) (fs := fs) (b := b) hn hl hw h hd'
      exact hd _ _ this)
    have hlen : ∀ x ∈ l, (f x).length = fs.length := fun x hx => by
      obtain ⟨i, hi⟩ := List.mem_iff_getElem?.1 hx
      have hil := (List.getElem?_eq_some_iff.1 hi).1
      have hm := Nat.mul_le_mul_right fs.length (show i + 1 ≤ n by omega)
      rw [Nat.add_mul] at hm
      rw [← h2 i x hi]; simp; omega
    refine ⟨l, .inr ⟨b, 0, n, n, _, cs, rfl, Nat.le_refl _, hB, rfl, by omega, ?_⟩, hlen⟩
    rw [List.drop_zero, ← hl, List.take_length]
    apply List.ext_getElem?
    intro q
    have hrl := flat_len hlen
    by_cases hq : q < n * fs.length
    · have hw0 : 0 < fs.length := by
        rcases Nat.eq_zero_or_pos fs.length with h | h
        · rw [h] at hq; simp at hq
        · exact h
      have hkl : q / fs.length < l.length := by rw [h1]; exact (Nat.div_lt_iff_lt_mul hw0).2 hq
      have hmod := Nat.mod_lt q hw0
      have e := Nat.div_add_mod q fs.length
      rw [Nat.mul_comm] at e
      have g1 := h2 (q / fs.length) _ (List.getElem?_eq_getElem hkl)
      have g2 := flat_at hlen (List.getElem?_eq_getElem hkl)
      have g3 := congrArg (fun l => l[q % fs.length]?) (g1.trans g2.symm)
      simp only [List.getElem?_take, if_pos hmod, List.getElem?_drop] at g3
      rw [e] at g3; exact g3
    · rw [List.getElem?_eq_none (by omega), List.getElem?_eq_none (by rw [hrl, h1]; omega)]
/-- A step of ClockPlays. -/
def stepC (s : Int × Bool × Int × Int) : List Value := [.int .i64 s.1, .bool s.2.1, .int .i64 s.2.2.1, .int .i64 s.2.2.2]
theorem rep_stepC {H : MH} {ms : List Value} {ds : List D} (h : RepL H [.int .i64, .bool, .int .i64, .int .i64] ms ds) : ∃ x, ms = stepC x := by
  have h1 := h.ml
  have h2 := h.dl
  match ms, ds, h1, h2 with
  | [m0, m1, m2, m3], [d0, d1, d2, d3], _, _ =>
    have g0 := h.at_ 0 (.int .i64) m0 d0 rfl rfl rfl
    have g1 := h.at_ 1 .bool m1 d1 rfl rfl rfl
    have g2 := h.at_ 2 (.int .i64) m2 d2 rfl rfl rfl
    have g3 := h.at_ 3 (.int .i64) m3 d3 rfl rfl rfl
    cases g0; cases g1; cases g2; cases g3
    exact ⟨(_, _, _, _), rfl⟩
end Go.Mod

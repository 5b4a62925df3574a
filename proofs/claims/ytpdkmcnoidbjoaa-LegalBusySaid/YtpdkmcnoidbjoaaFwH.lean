/- Operations that hang on their operands alone: the whole; the reading of memory. -/
import Derived.Test.YtpdkmcnoidbjoaaFwG
set_option linter.unusedVariables false
set_option linter.unusedSimpArgs false
namespace Go.Mod

section
variable {P : Program} {o : Oper} {ρ : Operand → Value} {w : World} {φ : Ren} {vs : List Value} {v : Value} {op : MOp} {xs : List Operand}

theorem pure_sim (hc : cOp P o.op = some (op, xs)) (hk : op.kind = .pure) (hr : Rels (VRel φ) vs (xs.map ρ)) (hm : mpure op vs = some v) : Yields P o ρ w φ v := by
  unfold cOp at hc
  split at hc
  · rename_i ho; cases hc; exact mov_sim (.inl ho) hr hm
  · rename_i ho; cases hc; exact mov_sim (.inr ho) hr hm
  · rename_i ho; cases hc; exact pick_sim ho hr hm
  · -- alloc
    split at hc <;> first | contradiction | skip
    · rename_i el _ _
      cases hs : szOf P el with
      | none => simp [hs] at hc
      | some n => simp [hs] at hc; obtain ⟨rfl, rfl⟩ := hc; cases hk
    · cases hc; cases hk
  · cases hc; cases hk
  · rename_i t parts ho
    split at hc <;> first | contradiction | skip
    · rename_i z fs hz hu
      split at hc <;> first | contradiction | skip
      rename_i hall
      cases hp : placesOf P fs parts.toList with
      | none => simp [hp] at hc
      | some l => simp [hp] at hc; obtain ⟨rfl, rfl⟩ := hc; exact build_sim ho hz (.inl ⟨fs, hu, hall, hp⟩) (by simpa using hr) (by simpa using hm)
    · rename_i z k e hz hu
      cases hs : szOf P e with
      | none => simp [hs] at hc
      | some n => simp [hs] at hc; obtain ⟨rfl, rfl⟩ := hc; exact build_sim ho hz (.inr ⟨k, e, n, hu, hs, rfl⟩) (by simpa using hr) (by simpa using hm)
  · -- buildSlice
    split at hc <;> first | contradiction | skip
    split at hc <;> first | contradiction | skip
    cases hc; cases hk
  · rename_i t a ho
    cases hl : ldOf P t with
    | none => simp [hl] at hc
    | some l => simp [hl] at hc; obtain ⟨rfl, rfl⟩ := hc; cases l <;> cases hk
  · rename_i t a x ho
    cases hl : szOf P t with
    | none => simp [hl] at hc
    | some l => simp [hl] at hc; obtain ⟨rfl, rfl⟩ := hc; cases hk
  · rename_i ho; cases hc; exact nilck_sim ho hr hm
  · rename_i bop t x y u ho
    split at hc
    · split at hc
      · cases hc; exact bin_sim ho hr hm
      · rename_i hi
        cases he : eqTy P t with
        | none => simp [he] at hc
        | some e => simp [he] at hc; obtain ⟨rfl, rfl⟩ := hc; exact eqv_sim (neg := false) ho rfl (by simpa using hi) he hr hm
    · split at hc
      · cases hc; exact bin_sim ho hr hm
      · rename_i hi
        cases he : eqTy P t with
        | none => simp [he] at hc
        | some e => simp [he] at hc; obtain ⟨rfl, rfl⟩ := hc; exact eqv_sim (neg := true) ho rfl (by simpa using hi) he hr hm
    · cases hc; exact bin_sim ho hr hm
  · rename_i ho; cases hc; exact un_sim ho hr hm
  · rename_i s d x ho
    split at hc <;> first | contradiction | skip
    rename_i ds k hs hd
    cases hc; exact conv_sim ho hs hd hr hm
  · rename_i f first captured ho
    split at hc <;> first | contradiction | skip
    rename_i he
    cases hc
    have : first = #[] := by simpa using he
    subst this
    exact mkfunc_sim ho hr hm
  · cases hc; cases hk
  · rename_i t s ho
    split at hc <;> first | contradiction | skip
    rename_i e _
    cases hb : bytesOf' P e with
    | none => simp [hb] at hc
    | some b => simp [hb] at hc; obtain ⟨rfl, rfl⟩ := hc; cases hk
  · split at hc <;> first | contradiction | skip
    split at hc <;> first | contradiction | skip
    split at hc <;> first | contradiction | skip
    cases hc; cases hk
  · rename_i t x lo hi mx ho
    split at hc <;> first | contradiction | skip
    · rename_i e _
      cases hb : szOf P e with
      | none => simp [hb] at hc
      | some b => simp [hb, cSlice] at hc; obtain ⟨rfl, rfl⟩ := hc; cases hk
    · rename_i hu
      split at hc <;> first | contradiction | skip
      rename_i hmx
      cases hc
      have : mx = none := by simpa using hmx
      subst this
      exact slstr_sim ho hu hr hm
  · rename_i t x i ho
    split at hc <;> first | contradiction | skip
    rename_i fs hu
    split at hc <;> first | contradiction | skip
    rename_i f hf
    split at hc <;> first | contradiction | skip
    rename_i n hs
    cases hc
    exact fa_sim ho hu hf hs hr hm
  · rename_i t x i ho
    split at hc <;> first | contradiction | skip
    rename_i fs hu
    split at hc <;> first | contradiction | skip
    rename_i f hf
    cases hl : ldOf P f.type with
    | none => simp [hl] at hc
    | some l => simp [hl] at hc; obtain ⟨rfl, rfl⟩ := hc; exact fld_sim ho hu hf hl hr hm
  · rename_i t x i ho
    split at hc <;> first | contradiction | skip
    · rename_i e hu
      cases hs : szOf P e with
      | none => simp [hs] at hc
      | some n => simp [hs] at hc; obtain ⟨rfl, rfl⟩ := hc; exact ia_sim ho hu hs hr hm
    · rename_i k e hu
      cases hs : szOf P e with
      | none => simp [hs] at hc
      | some n => simp [hs] at hc; obtain ⟨rfl, rfl⟩ := hc; exact iarr_sim ho hu hs hr hm
  · rename_i t x i ho
    split at hc <;> first | contradiction | skip
    · rename_i hu; cases hc; exact idxs_sim ho hu hr hm
    · rename_i k e hu
      split at hc <;> first | contradiction | skip
      rename_i n l hs hl
      cases hc; exact idxa_sim ho hu hs hl hr hm
  · split at hc <;> first | contradiction | skip
    split at hc <;> first | contradiction | skip
    cases hc; cases hk
  · split at hc <;> first | contradiction | skip
    split at hc <;> first | contradiction | skip
    cases hc; cases hk
  · rename_i ho; cases hc; exact extract_sim ho hr hm
  · rename_i c ho
    split at hc <;> first | contradiction | skip
    · rename_i b hcal
      unfold cBuiltin at hc
      simp only [] at hc
      split at hc <;> first | contradiction | skip
      · split at hc <;> first | contradiction | skip
        · rename_i e hd; cases hc; exact len_sim ho hcal hd hr hm
        · rename_i hd; cases hc; exact lens_sim ho hcal hd hr hm
        · cases hc; cases hk
      · split at hc <;> first | contradiction | skip
        cases hc; cases hk
      · split at hc <;> first | contradiction | skip
        split at hc <;> first | contradiction | skip
        all_goals (split at hc <;> first | contradiction | skip)
        all_goals (cases hc; cases hk)
      · split at hc <;> first | contradiction | skip
        split at hc <;> first | contradiction | skip
        split at hc <;> first | contradiction | skip
        cases hc; cases hk
      · split at hc <;> first | contradiction | skip
        split at hc <;> first | contradiction | skip
        split at hc <;> first | contradiction | skip
        cases hc; cases hk
      · cases hc; exact minmax_sim (m := false) ho hcal hr hm
      · cases hc; exact minmax_sim (m := true) ho hcal hr hm
      · split at hc <;> first | contradiction | skip
        split at hc <;> first | contradiction | skip
        split at hc <;> first | contradiction | skip
        cases hc; cases hk
    · cases hc; cases hk
    · cases hc; cases hk
  · cases hc; cases hk
  · split at hc <;> first | contradiction | skip
    rename_i e _
    cases hb : zeroOf P e with
    | none => simp [hb] at hc
    | some b => simp [hb] at hc; obtain ⟨rfl, rfl⟩ := hc; cases hk
  · split at hc <;> first | contradiction | skip
    split at hc <;> first | contradiction | skip
    cases hc; cases hk
  · cases hc
end
end Go.Mod

/- Operations that hang on their operands alone, joined. -/
import Derived.Test.YtpdkmcnoidbjoaaFwD
set_option linter.unusedVariables false
set_option linter.unusedSimpArgs false
namespace Go.Mod

theorem foldl_fill (off : Nat) : ∀ (l : List Value) (k : Nat) (cs : Array Value), off + k + l.length ≤ cs.size →
    ((l.zipIdx k).foldl (fun (cs : Array Value) (p : Value × Nat) => cs.setIfInBounds (off + p.2) p.1) cs).toList = cs.toList.take (off + k) ++ l ++ cs.toList.drop (off + k + l.length)
  | [], k, cs, h => by simp
  | x :: l, k, cs, h => by
    simp only [List.length_cons] at h
    rw [List.zipIdx_cons, List.foldl_cons, foldl_fill off l (k + 1) _ (by simp; omega)]
    simp only [Array.toList_setIfInBounds, List.length_cons]
    have h1 : List.take (off + (k + 1)) (cs.toList.set (off + k) x) = List.take (off + k) cs.toList ++ [x] := by
      rw [show off + (k + 1) = off + k + 1 by omega, List.take_add_one]
      rw [List.take_set_of_le (by omega)]
      rw [List.getElem?_set_self (by simp; omega)]
      rfl
    have h2 : List.drop (off + (k + 1) + l.length) (cs.toList.set (off + k) x) = List.drop (off + k + (l.length + 1)) cs.toList := by
      rw [List.drop_set_of_lt (by omega)]
      congr 1; omega
    rw [h1, h2]; simp

theorem fill_sim {φ : Ren} {ρ : Operand → Value} {place : Nat → Option (Nat × Nat)} : ∀ (ps : List (Nat × Operand)) (l : List (Nat × Nat)) (vs cells c : List Value) (cells' : Array Value),
    (l.length = ps.length) → (∀ (i : Nat) p q, ps[i]? = some p → l[i]? = some q → place p.1 = some q) →
    Rels (VRel φ) vs (ps.map (fun p => ρ p.2)) → Rels (VRel φ) cells cells'.toList → fillAll cells l vs = some c →
    ∃ c', Instr.fill place cells' (ps.map fun p => (p.1, ρ p.2)) = some c' ∧ Rels (VRel φ) c c'.toList
  | [], l, vs, cells, c, cells', hl, hp, hv, hc, h => by
    cases l with
    | cons => simp at hl
    | nil =>
      cases hv
      simp only [fillAll] at h; cases h
      exact ⟨cells', by simp [Instr.fill], hc⟩
  | p :: ps, l, vs, cells, c, cells', hl, hp, hv, hc, h => by
    cases l with
    | nil => simp at hl
    | cons q l =>
      obtain ⟨off, sz⟩ := q
      simp only [List.map_cons] at hv
      cases hv with
      | cons rv tv =>
      rename_i v vs
      simp only [fillAll] at h
      split at h <;> first | (cases h; done) | skip
      rename_i hcond
      have hcells := rv.cells
      have hlen : (ρ p.2).cells.size = sz := by
        have := hcells.length; simp only [Array.length_toList] at this; rw [this]; exact hcond.1
      have hsz : cells'.size = cells.length := by have := hc.length; simpa using this
      obtain ⟨c', h1, h2⟩ := fill_sim ps l vs (fillAt cells off v.cells.toList) c ⟨fillAt cells'.toList off (ρ p.2).cells.toList⟩ (by simpa using hl)
        (fun i a b ha hb => hp (i + 1) a b (by simpa using ha) (by simpa using hb)) tv
        (by unfold fillAt; rw [hcells.length]; exact ((hc.take _).append hcells).append (hc.drop _)) h
      refine ⟨c', ?_, h2⟩
      simp only [List.map_cons, Instr.fill, hp 0 p (off, sz) (by simp) (by simp)]
      rw [if_neg (by simp only [hlen, ne_eq, not_true_eq_false, decide_false, Bool.false_or, decide_eq_true_eq]; omega)]
      have hf := foldl_fill off (ρ p.2).cells.toList 0 cells' (by simp only [Array.length_toList]; omega)
      rw [show ((ρ p.2).cells.zipIdx.foldl (fun cs (x : Value × Nat) => cs.setIfInBounds (off + x.2) x.1) cells') = ⟨fillAt cells'.toList off (ρ p.2).cells.toList⟩ from ?_]
      · exact h1
      · apply Array.ext'
        rw [← Array.foldl_toList, Array.toList_zipIdx, hf]
        simp [fillAt]

section
variable {P : Program} {o : Oper} {ρ : Operand → Value} {w : World} {φ : Ren}

theorem zeroOf_sim {t : TypeId} {z : Value} (h : zeroOf P t = some z) : (zeroValue t).run P w = .ok z w ∧ VRel φ z z := by
  unfold zeroOf at h
  split at h <;> first | (cases h; done) | skip
  rename_i z0 hz
  split at h <;> first | (cases h; done) | skip
  rename_i hp
  cases h
  cases hi : P.info? t with
  | none => simp [hi] at hz
  | some i =>
    simp [hi] at hz
    exact ⟨by simp [zeroValue, typeInfo, hi, hz], VRel.plain hp⟩

theorem szOf_sim {t : TypeId} {n : Nat} (h : szOf P t = some n) : (sizeOf t).run P w = .ok n w := by
  unfold szOf at h
  cases hi : P.info? t with
  | none => simp [hi] at h
  | some i => simp [hi] at h; simp [sizeOf, typeInfo, hi, h]

theorem bytesOf_sim {t : TypeId} {n : Nat} (h : bytesOf' P t = some n) : ∃ i, (typeInfo t).run P w = .ok i w ∧ i.bytes = n := by
  unfold bytesOf' at h
  cases hi : P.info? t with
  | none => simp [hi] at h
  | some i => simp [hi] at h; exact ⟨i, by simp [typeInfo, hi], h⟩

theorem aggOf_sim {t : TypeId} {b : Bool} (h : aggOf P t = some b) : (isAgg t).run P w = .ok b w := by
  unfold aggOf at h
  split at h <;> first | (cases h; done) | skip
  · cases h; rename_i hu; simp [isAgg, underlying, hu]
  · cases h; rename_i hu; simp [isAgg, underlying, hu]
  · cases h
    rename_i d hn1 hn2 hu
    simp only [isAgg, Sem.run_bind, run_underlying hu, Result.andThen_ok]
    rfl

theorem ldOf_cases {t : TypeId} {l : Option Nat} (h : ldOf P t = some l) : (l = none ∧ aggOf P t = some false) ∨ (∃ n, l = some n ∧ aggOf P t = some true ∧ szOf P t = some n) := by
  unfold ldOf at h
  split at h <;> first | (cases h; done) | skip
  · cases h; rename_i ha hs; exact .inr ⟨_, rfl, ha, hs⟩
  · cases h; rename_i ha; exact .inl ⟨rfl, ha⟩

theorem part_none {t : TypeId} {cs : Array Value} {i : Nat} {x : Value} (ht : ldOf P t = some none) (hx : cs[i]? = some x) : (part t cs i).run P w = .ok x w := by
  rcases ldOf_cases ht with ⟨_, ha⟩ | ⟨n, h, _⟩
  · simp [part, aggOf_sim ha, hx]
  · cases h
theorem part_some {t : TypeId} {cs : Array Value} {i n : Nat} (ht : ldOf P t = some (some n)) : (part t cs i).run P w = .ok (.agg (cs.extract i (i + n))) w := by
  rcases ldOf_cases ht with ⟨h, _⟩ | ⟨m, h, ha, hs⟩
  · cases h
  · cases h; simp [part, aggOf_sim ha, szOf_sim hs]

theorem VRel.extract {φ : Ren} {a a' : Array Value} (hs : a.size = a'.size) (h : ∀ (i : Nat) (x x' : Value), a[i]? = some x → a'[i]? = some x' → VRel φ x x') (m n : Nat) :
    VRel φ (.agg (a.extract m n)) (.agg (a'.extract m n)) :=
  .agg (by simp [hs]) fun i x x' hx hx' => by
    rw [Array.getElem?_extract] at hx hx'
    split at hx <;> first | (cases hx; done) | skip
    split at hx' <;> first | (cases hx'; done) | skip
    exact h _ _ _ hx hx'
theorem VRel.at {φ : Ren} {a a' : Array Value} (hs : a.size = a'.size) (h : ∀ (i : Nat) (x x' : Value), a[i]? = some x → a'[i]? = some x' → VRel φ x x') {i : Nat} {v : Value} (hv : a[i]? = some v) :
    ∃ v', a'[i]? = some v' ∧ VRel φ v v' := by
  have hi := (Array.getElem?_eq_some_iff.1 hv).1
  exact ⟨a'[i]'(by omega), by rw [Array.getElem?_eq_getElem], h i _ _ hv (by rw [Array.getElem?_eq_getElem])⟩

theorem Addr.add_eq (b o n : Nat) : (⟨b, o, none⟩ : Addr).add n = ⟨b, o + n, none⟩ := by
  unfold Addr.add; split
  · subst_vars; rfl
  · rfl
end
end Go.Mod

/- Operations that hang on their operands alone: the whole. -/
import Derived.Test.YtpdkmcnoidbjoaaFwF
set_option linter.unusedVariables false
set_option linter.unusedSimpArgs false
namespace Go.Mod

section
variable {P : Program} {o : Oper} {ρ : Operand → Value} {w : World} {φ : Ren} {vs : List Value} {v : Value}

theorem mov_sim {x : Operand} (ho : o.op = .move x ∨ o.op = .assign x) (hr : Rels (VRel φ) vs ([x].map ρ)) (hm : mpure .mov vs = some v) : Yields P o ρ w φ v := by
  obtain ⟨a, rfl, ha⟩ := rels1 hr
  simp only [mpure] at hm; cases hm
  rcases ho with ho | ho <;> exact ⟨_, by simp [execOp, ho], ha⟩

/-- The one operand of a call of a builtin. -/
theorem one_arg {c : Call} {x' : Value} (h : (c.args.map ρ).toList = [x']) : (c.args.map ρ)[0]? = some x' := by
  have := congrArg (fun l => l[0]?) h; simpa using this
theorem type_arg {c : Call} {d : TypeDesc} {i : Nat} (hd : (c.argTypes[i]?).bind P.underlying = some d) : ∃ t, c.argTypes[i]? = some t ∧ P.underlying t = some d := by
  cases h : c.argTypes[i]? with
  | none => simp [h] at hd
  | some t => exact ⟨t, rfl, by simpa [h] using hd⟩

theorem run_builtin {c : Call} {b : Builtin} {x : Value} (ho : o.op = .call c) (hc : c.callee = .builtin b)
    (h : (builtin b c.argTypes o.type (c.args.map fun | .const _ => true | _ => false) (c.args.map ρ)).run P w = .ok (.value x) w) : (execOp ρ o).run P w = .ok (.value x) w := by
  simp only [execOp, ho, resolve, hc]
  exact h

theorem len_sim {c : Call} {e : TypeId} (ho : o.op = .call c) (hc : c.callee = .builtin .len) (hd : (c.argTypes[0]?).bind P.underlying = some (.slice e))
    (hr : Rels (VRel φ) vs (c.args.toList.map ρ)) (hm : mpure .len vs = some v) : Yields P o ρ w φ v := by
  obtain ⟨t, ht, hu⟩ := type_arg hd
  unfold mpure at hm
  split at hm <;> first | contradiction | skip
  cases hm
  rw [show c.args.toList.map ρ = (c.args.map ρ).toList by simp] at hr
  generalize hA : (c.args.map ρ).toList = A at hr
  cases hr with
  | cons hx tl =>
  cases tl
  have h0 := one_arg hA
  cases hx with
  | slice0 =>
    refine ⟨_, run_builtin ho hc ?_, .int ..⟩
    simp only [builtin, Builtin.len_, ht, h0, Sem.run_bind, run_underlying hu, Result.andThen_ok]
    rfl
  | slicee =>
    refine ⟨_, run_builtin ho hc ?_, .int ..⟩
    simp only [builtin, Builtin.len_, ht, h0, Sem.run_bind, run_underlying hu, Result.andThen_ok]
    rfl
  | slice h hn hcc hex hroom ha =>
    refine ⟨_, run_builtin ho hc ?_, .int ..⟩
    simp only [builtin, Builtin.len_, ht, h0, Sem.run_bind, run_underlying hu, Result.andThen_ok]
    rfl

theorem lens_sim {c : Call} (ho : o.op = .call c) (hc : c.callee = .builtin .len) (hd : (c.argTypes[0]?).bind P.underlying = some .string)
    (hr : Rels (VRel φ) vs (c.args.toList.map ρ)) (hm : mpure .lens vs = some v) : Yields P o ρ w φ v := by
  obtain ⟨t, ht, hu⟩ := type_arg hd
  unfold mpure at hm
  split at hm <;> first | contradiction | skip
  cases hm
  rw [show c.args.toList.map ρ = (c.args.map ρ).toList by simp] at hr
  generalize hA : (c.args.map ρ).toList = A at hr
  cases hr with
  | cons hx tl =>
  cases tl
  have h0 := one_arg hA
  cases hx with
  | string s =>
    refine ⟨_, run_builtin ho hc ?_, .int ..⟩
    simp only [builtin, Builtin.len_, ht, h0, Sem.run_bind, run_underlying hu, Result.andThen_ok]
    rfl

theorem minmax_sim {c : Call} {m : Bool} (ho : o.op = .call c) (hc : c.callee = .builtin (if m then .max else .min))
    (hr : Rels (VRel φ) vs (c.args.toList.map ρ)) (hm : mpure (.minmax m) vs = some v) : Yields P o ρ w φ v := by
  rw [mpure_minmax] at hm
  unfold mmin at hm
  split at hm <;> first | contradiction | skip
  rename_i k x l
  rw [show c.args.toList.map ρ = (c.args.map ρ).toList by simp] at hr
  generalize hA : (c.args.map ρ).toList = A at hr
  cases hr with
  | cons hx tl =>
  cases hx
  obtain ⟨n, rfl, hrun⟩ := mmin1_sim (P := P) (w := w) tl hm
  refine ⟨_, run_builtin ho hc ?_, .int ..⟩
  cases m
  · simp only [Bool.false_eq_true, if_false] at hrun ⊢
    simp only [builtin, Builtin.min_, hA, Sem.run_bind, hrun, Result.andThen_ok]
    rfl
  · simp only [if_true] at hrun ⊢
    simp only [builtin, Builtin.max_, hA, Sem.run_bind, hrun, Result.andThen_ok]
    rfl

theorem mapM_places (P : Program) (w : World) : ∀ (fs : List Field), fs.all (fun f => (szOf P f.type).isSome) = true →
    ∃ l, (fs.mapM (fun f => do pure (f.offset, ← sizeOf f.type) : Field → Sem (Nat × Nat))).run P w = .ok l w ∧ ∀ (i : Nat) f n, fs[i]? = some f → szOf P f.type = some n → l[i]? = some (f.offset, n)
  | [], _ => ⟨[], by simp, fun i f n h => by simp at h⟩
  | f :: fs, h => by
    simp only [List.all_cons, Bool.and_eq_true] at h
    obtain ⟨l, h1, h2⟩ := mapM_places P w fs h.2
    obtain ⟨n, hn⟩ := Option.isSome_iff_exists.1 h.1
    refine ⟨(f.offset, n) :: l, by rw [List.mapM_cons]; simp only [Sem.run_bind, Sem.run_pure, szOf_sim hn, h1, Result.andThen_ok], fun i g m hg hm => ?_⟩
    cases i with
    | zero => simp at hg; subst hg; rw [hn] at hm; cases hm; simp
    | succ i => simpa using h2 i g m (by simpa using hg) hm

theorem placesOf_sim {fs : Array Field} : ∀ {ps : List (Nat × Operand)} {l : List (Nat × Nat)}, placesOf P fs ps = some l →
    l.length = ps.length ∧ ∀ (i : Nat) p q, ps[i]? = some p → l[i]? = some q → ∃ f, fs[p.1]? = some f ∧ q.1 = f.offset ∧ szOf P f.type = some q.2
  | [], l, h => by simp only [placesOf] at h; cases h; exact ⟨rfl, fun i p q hp => by simp at hp⟩
  | (j, x) :: ps, l, h => by
    simp only [placesOf] at h
    split at h <;> first | contradiction | skip
    rename_i f l' hf hl'
    split at h <;> first | contradiction | skip
    rename_i n hn
    cases h
    obtain ⟨h1, h2⟩ := placesOf_sim hl'
    refine ⟨by simp [h1], fun i p q hp hq => ?_⟩
    cases i with
    | zero => simp at hp hq; subst hp; subst hq; exact ⟨f, hf, rfl, hn⟩
    | succ i => exact h2 i p q (by simpa using hp) (by simpa using hq)

theorem rowPlaces_sim (n : Nat) (ps : List (Nat × Operand)) : (rowPlaces n ps).length = ps.length ∧ ∀ (i : Nat) p q, ps[i]? = some p → (rowPlaces n ps)[i]? = some q → some (p.1 * n, n) = some q := by
  refine ⟨by simp [rowPlaces], fun i p q hp hq => ?_⟩
  simp [rowPlaces, hp] at hq
  simp [hq]

theorem build_sim {t : TypeId} {parts : Array (Nat × Operand)} {z : Value} {l : List (Nat × Nat)} (ho : o.op = .build t parts) (hz : zeroOf P t = some z)
    (hl : (∃ fs, P.underlying t = some (.struct fs) ∧ fs.toList.all (fun f => (szOf P f.type).isSome) = true ∧ placesOf P fs parts.toList = some l) ∨
      (∃ k e n, P.underlying t = some (.array k e) ∧ szOf P e = some n ∧ l = rowPlaces n parts.toList))
    (hr : Rels (VRel φ) vs ((parts.toList.map (·.2)).map ρ)) (hm : mpure (.build z.cells.toList l) vs = some v) : Yields P o ρ w φ v := by
  rw [mpure_build] at hm
  cases hf : fillAll z.cells.toList l vs with
  | none => simp [hf] at hm
  | some c =>
  simp [hf] at hm
  subst hm
  rw [List.map_map] at hr
  obtain ⟨hz1, hz2⟩ := zeroOf_sim (w := w) (φ := φ) hz
  have hparts : (parts.map fun (x : Nat × Operand) => (x.1, ρ x.2)).toList = parts.toList.map fun p => (p.1, ρ p.2) := by simp
  rcases hl with ⟨fs, hu, hall, hp⟩ | ⟨k, e, n, hu, hn, rfl⟩
  · obtain ⟨pl, hpl, hget⟩ := mapM_places P w fs.toList hall
    obtain ⟨hlen, hq⟩ := placesOf_sim hp
    obtain ⟨c', h1, h2⟩ := fill_sim (place := (pl.toArray[·]?)) parts.toList l vs z.cells.toList c z.cells hlen
      (fun i p q hpi hqi => by
        obtain ⟨f, ha, hb, hc⟩ := hq i p q hpi hqi
        have := hget p.1 f q.2 (by simpa using ha) hc
        show pl.toArray[p.1]? = some q
        rw [List.getElem?_toArray, this, ← hb]) hr hz2.cells hf
    refine ⟨.agg c', ?_, ?_⟩
    · simp only [execOp, ho, Instr.build, Sem.run_bind, hz1, Result.andThen_ok, run_underlying hu]
      have hm' : (fs.mapM (fun f => do pure (f.offset, ← sizeOf f.type) : Field → Sem (Nat × Nat))).run P w = .ok pl.toArray w := by
        have e : fs = fs.toList.toArray := by simp
        rw [e, List.mapM_toArray, Sem.run_map, hpl]
        rfl
      rw [hm']
      simp only [Result.andThen_ok]
      rw [hparts, h1]
      rfl
    · have := VRel.agg_of h2; simpa using this
  · obtain ⟨hlen, hq⟩ := rowPlaces_sim n parts.toList
    obtain ⟨c', h1, h2⟩ := fill_sim (place := fun i => some (i * n, n)) parts.toList _ vs z.cells.toList c z.cells hlen
      (fun i p q hpi hqi => hq i p q hpi hqi) hr hz2.cells hf
    refine ⟨.agg c', ?_, ?_⟩
    · simp only [execOp, ho, Instr.build, Sem.run_bind, hz1, Result.andThen_ok, run_underlying hu, szOf_sim hn]
      rw [hparts, h1]
      rfl
    · have := VRel.agg_of h2; simpa using this
end
end Go.Mod

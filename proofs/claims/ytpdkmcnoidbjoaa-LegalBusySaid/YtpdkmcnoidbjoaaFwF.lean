/- Operations that hang on their operands alone, case by case. -/
import Derived.Test.YtpdkmcnoidbjoaaFwE
set_option linter.unusedVariables false
set_option linter.unusedSimpArgs false
namespace Go.Mod

section
variable {P : Program} {o : Oper} {ρ : Operand → Value} {w : World} {φ : Ren} {vs : List Value} {v : Value}

theorem pick_sim {c a b : Operand} (ho : o.op = .pick c a b) (hr : Rels (VRel φ) vs ([c, a, b].map ρ)) (hm : mpure .pick vs = some v) : Yields P o ρ w φ v := by
  obtain ⟨x, y, z, rfl, hx, hy, hz⟩ := rels3 hr
  unfold mpure at hm
  split at hm <;> first | contradiction | skip
  rename_i t a' b' _ heq
  cases heq
  cases hm
  generalize hc : ρ c = c' at hx
  cases hx with
  | bool t =>
  refine ⟨if t then ρ a else ρ b, ?_, ?_⟩
  · simp [execOp, ho, hc, asBool]
  · cases t <;> simp [hy, hz]

theorem nilck_sim {x : Operand} (ho : o.op = .nilCheck x) (hr : Rels (VRel φ) vs ([x].map ρ)) (hm : mpure .nilck vs = some v) : Yields P o ρ w φ v := by
  obtain ⟨x, rfl, hx⟩ := rels1 hr
  unfold mpure at hm
  split at hm <;> first | contradiction | skip
  · rename_i heq
    cases heq; cases hm
    generalize hv : ρ _ = v' at hx
    cases hx with
    | ptr h => exact ⟨_, by simp [execOp, ho, hv], .ptr h⟩
  · rename_i heq
    cases heq; cases hm
    generalize hv : ρ _ = v' at hx
    cases hx with
    | func fn ha hc h g => exact ⟨_, by simp [execOp, ho, hv], .func _ ha hc h g⟩

theorem bin_sim {op : BinOp} {t u : TypeId} {x y : Operand} (ho : o.op = .binOp op t x y u) (hr : Rels (VRel φ) vs ([x, y].map ρ)) (hm : mpure (.bin op) vs = some v) : Yields P o ρ w φ v := by
  obtain ⟨a, b, rfl, ha, hb⟩ := rels2 hr
  simp only [mpure] at hm
  obtain ⟨v', h1, h2⟩ := mbin_sim (P := P) (w := w) (t := t) (x := x) (y := y) ha hb hm
  refine ⟨v', ?_, h2⟩
  simp only [execOp, ho]
  rw [Sem.run_bind, h1]; rfl

theorem eqv_sim {op : BinOp} {t u : TypeId} {x y : Operand} {e : EqK} {neg : Bool} (ho : o.op = .binOp op t x y u) (hop : op = if neg then .neq else .eql) (hi : isIntStr P t = false) (he : eqTy P t = some e)
    (hr : Rels (VRel φ) vs ([x, y].map ρ)) (hm : mpure (.eqv neg e) vs = some v) : Yields P o ρ w φ v := by
  obtain ⟨a, b, rfl, ha, hb⟩ := rels2 hr
  simp only [mpure] at hm
  cases hq : meq e a b with
  | none => simp [hq] at hm
  | some r =>
    simp [hq] at hm
    subst hm
    have h1 := eqGuard_ok (w := w) (op := op) (x := x) (y := y) he ha hb hq
    have h2 := meq_sim (w := w) he ha hb hq
    have hns : (∀ k k' m n, ¬ (ρ x = .int k m ∧ ρ y = .int k' n)) ∧ (∀ s u, ¬ (ρ x = .string s ∧ ρ y = .string u)) ∧ (∀ k a k' b, ¬ (ρ x = .float k a ∧ ρ y = .float k' b)) ∧ (∀ k a c k' b d, ¬ (ρ x = .complex k a c ∧ ρ y = .complex k' b d)) := by
      unfold meq at hq
      split at hq <;> first | (cases hq; done) | skip
      all_goals (generalize ρ x = a' at ha; generalize ρ y = b' at hb; cases ha <;> cases hb <;> simp)
    refine ⟨.bool (if neg then !r else r), ?_, ?_⟩
    · simp only [execOp, ho]
      rw [Sem.run_bind, Sem.run_bind, h1]
      simp only [Result.andThen_ok]
      have hb : (binOp op t (ρ x) (ρ y)).run P w = .ok (.bool (if neg then !r else r)) w := by
        generalize hX : ρ x = X at *
        generalize hY : ρ y = Y at *
        cases neg
        · simp only [Bool.false_eq_true, if_false] at hop; subst hop
          unfold binOp
          split <;> first
            | (exfalso; exact hns.1 _ _ _ _ ⟨rfl, rfl⟩)
            | (exfalso; exact hns.2.1 _ _ ⟨rfl, rfl⟩)
            | (exfalso; exact hns.2.2.1 _ _ _ _ ⟨rfl, rfl⟩)
            | (exfalso; exact hns.2.2.2 _ _ _ _ _ _ ⟨rfl, rfl⟩)
            | (simp [h2]; done)
            | contradiction
            | (exfalso; exact (‹BinOp.eql = BinOp.eql → False› rfl))
        · simp only [if_true] at hop; subst hop
          unfold binOp
          split <;> first
            | (exfalso; exact hns.1 _ _ _ _ ⟨rfl, rfl⟩)
            | (exfalso; exact hns.2.1 _ _ ⟨rfl, rfl⟩)
            | (exfalso; exact hns.2.2.1 _ _ _ _ ⟨rfl, rfl⟩)
            | (exfalso; exact hns.2.2.2 _ _ _ _ _ _ ⟨rfl, rfl⟩)
            | (simp [h2]; done)
            | contradiction
            | (exfalso; exact (‹BinOp.neq = BinOp.neq → False› rfl))
      rw [hb]; rfl
    · cases neg <;> simp <;> exact .bool _

theorem un_sim {op : UnOp} {t : TypeId} {x : Operand} (ho : o.op = .unOp op t x) (hr : Rels (VRel φ) vs ([x].map ρ)) (hm : mpure (.un op) vs = some v) : Yields P o ρ w φ v := by
  obtain ⟨a, rfl, ha⟩ := rels1 hr
  unfold mpure at hm
  split at hm <;> first | contradiction | skip
  · rename_i h1 h2; cases h1; cases h2; cases hm
    generalize hv : ρ _ = v' at ha; cases ha
    exact ⟨_, by simp [execOp, ho, hv, Op.unary], .bool _⟩
  · rename_i h1 h2; cases h1; cases h2; cases hm
    generalize hv : ρ _ = v' at ha; cases ha
    exact ⟨_, by simp [execOp, ho, hv, Op.unary, Op.intArith], .int ..⟩

theorem conv_sim {s d : TypeId} {ds : TypeDesc} {k : IntKind} {x : Operand} (ho : o.op = .convert s d x) (hs : P.underlying s = some ds) (hd : P.underlying d = some (.int k)) (hr : Rels (VRel φ) vs ([x].map ρ)) (hm : mpure (.conv k) vs = some v) : Yields P o ρ w φ v := by
  obtain ⟨a, rfl, ha⟩ := rels1 hr
  unfold mpure at hm
  split at hm <;> first | contradiction | skip
  rename_i h1 h2; cases h1; cases h2; cases hm
  generalize hv : ρ _ = v' at ha; cases ha
  refine ⟨_, ?_, .int ..⟩
  simp only [execOp, ho, hv]
  rw [Sem.run_bind]
  unfold convert
  simp only [Sem.run_bind, run_underlying hs, run_underlying hd, Result.andThen_ok]
  rfl

theorem fa_sim {t : TypeId} {x : Operand} {i n : Nat} {fs : Array Field} {f : Field} (ho : o.op = .fieldAddr t x i) (ht : P.underlying t = some (.struct fs)) (hf : fs[i]? = some f) (hs : szOf P f.type = some (n + 1))
    (hr : Rels (VRel φ) vs ([x].map ρ)) (hm : mpure (.fa f.offset) vs = some v) : Yields P o ρ w φ v := by
  obtain ⟨a, rfl, ha⟩ := rels1 hr
  unfold mpure at hm
  split at hm <;> first | contradiction | skip
  rename_i h1 h2; cases h1; cases h2; cases hm
  generalize hv : ρ _ = v' at ha
  cases ha with
  | ptr h =>
  refine ⟨_, ?_, .ptr h⟩
  simp [execOp, ho, hv, Instr.fieldAt, run_underlying ht, hf, Instr.sureAddr, fieldPlace, szOf_sim hs, Addr.add_eq, Nat.add_assoc]

theorem fld_sim {t : TypeId} {x : Operand} {i : Nat} {l : Option Nat} {fs : Array Field} {f : Field} (ho : o.op = .field t x i) (ht : P.underlying t = some (.struct fs)) (hf : fs[i]? = some f) (hl : ldOf P f.type = some l)
    (hr : Rels (VRel φ) vs ([x].map ρ)) (hm : mpure (.fld f.offset l) vs = some v) : Yields P o ρ w φ v := by
  obtain ⟨a, rfl, ha⟩ := rels1 hr
  unfold mpure at hm
  split at hm <;> first | contradiction | skip
  · rename_i h1 h2; cases h1; cases h2
    generalize hv : ρ _ = v' at ha
    cases ha with
    | agg hs h =>
    obtain ⟨y, hy, hrel⟩ := VRel.at hs h hm
    exact ⟨y, by simp [execOp, ho, hv, Instr.field, run_underlying ht, hf, asAgg, part_none hl hy], hrel⟩
  · rename_i h1 h2; cases h1; cases h2
    split at hm <;> first | contradiction | skip
    cases hm
    generalize hv : ρ _ = v' at ha
    cases ha with
    | agg hs h =>
    exact ⟨_, by simp [execOp, ho, hv, Instr.field, run_underlying ht, hf, asAgg, part_some hl], VRel.extract hs h _ _⟩

theorem ia_sim {t e : TypeId} {x i : Operand} {n : Nat} (ho : o.op = .indexAddr t x i) (ht : P.underlying t = some (.slice e)) (hs : szOf P e = some n)
    (hr : Rels (VRel φ) vs ([x, i].map ρ)) (hm : mpure (.ia n) vs = some v) : Yields P o ρ w φ v := by
  obtain ⟨a, b, rfl, ha, hb⟩ := rels2 hr
  unfold mpure at hm
  split at hm <;> first | contradiction | skip
  rename_i h1 h2; cases h1; cases h2
  split at hm <;> first | contradiction | skip
  rename_i hc
  cases hm
  generalize hv : ρ x = v' at ha
  generalize hu : ρ i = u' at hb
  cases hb
  cases ha with
  | slicee => omega
  | slice h hn hcc hex hroom haa =>
  have hb' := haa (by omega)
  subst hb'
  refine ⟨_, ?_, .ptr h⟩
  simp [execOp, ho, hv, hu, Instr.indexAt, asIntOf, run_underlying ht, hc, szOf_sim hs, Addr.add_eq, Nat.add_assoc]

theorem iarr_sim {t e : TypeId} {x i : Operand} {n k : Nat} (ho : o.op = .indexAddr t x i) (ht : P.underlying t = some (.array k e)) (hs : szOf P e = some n)
    (hr : Rels (VRel φ) vs ([x, i].map ρ)) (hm : mpure (.iarr k n) vs = some v) : Yields P o ρ w φ v := by
  obtain ⟨a, b, rfl, ha, hb⟩ := rels2 hr
  unfold mpure at hm
  split at hm <;> first | contradiction | skip
  rename_i h1 h2; cases h1; cases h2
  split at hm <;> first | contradiction | skip
  rename_i hc
  cases hm
  generalize hv : ρ x = v' at ha
  generalize hu : ρ i = u' at hb
  cases hb
  cases ha with
  | ptr h =>
  refine ⟨_, ?_, .ptr h⟩
  simp [execOp, ho, hv, hu, Instr.indexAt, asIntOf, run_underlying ht, hc, szOf_sim hs, Addr.add_eq, Nat.add_assoc, Instr.sureAddr]

theorem idxs_sim {t : TypeId} {x i : Operand} (ho : o.op = .index t x i) (ht : P.underlying t = some .string)
    (hr : Rels (VRel φ) vs ([x, i].map ρ)) (hm : mpure .idxs vs = some v) : Yields P o ρ w φ v := by
  obtain ⟨a, b, rfl, ha, hb⟩ := rels2 hr
  unfold mpure at hm
  split at hm <;> first | contradiction | skip
  rename_i heq; cases heq
  split at hm <;> first | contradiction | skip
  rename_i s k n _ hc
  generalize hv : ρ x = v' at ha
  generalize hu : ρ i = u' at hb
  cases hb; cases ha
  cases hg : s[n.toNat]? with
  | none => simp [hg] at hm
  | some b =>
    simp [hg] at hm; subst hm
    exact ⟨_, by simp [execOp, ho, hv, hu, Instr.index, asIntOf, run_underlying ht, hc, hg], .int ..⟩

theorem idxa_sim {t e : TypeId} {x i : Operand} {n k : Nat} {l : Option Nat} (ho : o.op = .index t x i) (ht : P.underlying t = some (.array k e)) (hs : szOf P e = some n) (hl : ldOf P e = some l)
    (hr : Rels (VRel φ) vs ([x, i].map ρ)) (hm : mpure (.idxa k n l) vs = some v) : Yields P o ρ w φ v := by
  obtain ⟨a, b, rfl, ha, hb⟩ := rels2 hr
  unfold mpure at hm
  split at hm <;> first | contradiction | skip
  · rename_i h1 h2; cases h1; cases h2
    split at hm <;> first | contradiction | skip
    rename_i hc
    generalize hv : ρ x = v' at ha
    generalize hu : ρ i = u' at hb
    cases hb
    cases ha with
    | agg hs' h =>
    obtain ⟨y, hy, hrel⟩ := VRel.at hs' h hm
    exact ⟨y, by simp [execOp, ho, hv, hu, Instr.index, asIntOf, run_underlying ht, hc, szOf_sim hs, part_none hl hy], hrel⟩
  · rename_i h1 h2; cases h1; cases h2
    split at hm <;> first | contradiction | skip
    rename_i hc
    cases hm
    generalize hv : ρ x = v' at ha
    generalize hu : ρ i = u' at hb
    cases hb
    cases ha with
    | agg hs' h =>
    exact ⟨_, by simp [execOp, ho, hv, hu, Instr.index, asIntOf, run_underlying ht, hc, szOf_sim hs, part_some hl], VRel.extract hs' h _ _⟩

theorem extract_sim {x : Operand} {i : Nat} (ho : o.op = .extract x i) (hr : Rels (VRel φ) vs ([x].map ρ)) (hm : mpure (.extract i) vs = some v) : Yields P o ρ w φ v := by
  obtain ⟨a, rfl, ha⟩ := rels1 hr
  unfold mpure at hm
  split at hm <;> first | contradiction | skip
  rename_i h1 h2; cases h1; cases h2
  generalize hv : ρ _ = v' at ha
  cases ha with
  | tuple hs h =>
  obtain ⟨y, hy, hrel⟩ := VRel.at hs h hm
  exact ⟨y, by simp [execOp, ho, hv, Instr.extract, hy], hrel⟩

theorem mpure_mkfunc (f : FuncId) (vs : List Value) : mpure (.mkfunc f) vs = some (.func (.func f) #[] vs.toArray) := by
  rcases vs with _ | ⟨a, _ | ⟨b, _ | ⟨c, _⟩⟩⟩ <;> rfl
theorem mpure_build (z : List Value) (l : List (Nat × Nat)) (vs : List Value) : mpure (.build z l) vs = (fillAll z l vs).map fun c => .agg c.toArray := by
  rcases vs with _ | ⟨a, _ | ⟨b, _ | ⟨c, _⟩⟩⟩ <;> rfl
theorem mpure_minmax (m : Bool) (vs : List Value) : mpure (.minmax m) vs = mmin m vs := by
  rcases vs with _ | ⟨a, _ | ⟨b, _ | ⟨c, _⟩⟩⟩ <;> rfl

theorem mkfunc_sim {f : FuncId} {c : Array Operand} (ho : o.op = .makeFunc (.func f) #[] c) (hr : Rels (VRel φ) vs (c.toList.map ρ)) (hm : mpure (.mkfunc f) vs = some v) : Yields P o ρ w φ v := by
  rw [mpure_mkfunc] at hm
  cases hm
  refine ⟨.func (.func f) #[] (c.map ρ), by simp [execOp, ho, Instr.makeFunc], .func _ rfl ?_ (fun i x x' hx _ => by simp at hx) ?_⟩
  · have := hr.length; simp at this; simp [this]
  · intro i x x' hx hx'
    simp only [List.getElem?_toArray] at hx
    obtain ⟨y, hy, hrel⟩ := hr.get i x hx
    have : (c.map ρ)[i]? = some y := by simpa using hy
    rw [this] at hx'; cases hx'; exact hrel

theorem slice_arms {s : ByteArray} {l h : Option Value} {L H : Nat} (hl : l = none ∧ L = 0 ∨ ∃ k, l = some (.int k L)) (hh : h = none ∧ H = s.size ∨ ∃ k, h = some (.int k H)) (h1 : L ≤ H) (h2 : H ≤ s.size) :
    (Instr.sliceBounds false s.size s.size l h none).run P w = .ok (L, H, s.size) w := by
  rcases hl with ⟨rfl, rfl⟩ | ⟨k, rfl⟩ <;> rcases hh with ⟨rfl, rfl⟩ | ⟨k', rfl⟩ <;>
    simp [Instr.sliceBounds, Instr.sliceBound, asIntOf, h1, h2]

theorem slstr_sim {t : TypeId} {x : Operand} {lo hi : Option Operand} (ho : o.op = .slice t x lo hi none) (ht : P.underlying t = some .string)
    (hr : Rels (VRel φ) vs ((x :: (lo.toList ++ hi.toList)).map ρ)) (hm : mpure (.slstr lo.isSome hi.isSome) vs = some v) : Yields P o ρ w φ v := by
  simp only [List.map_cons] at hr
  cases hr with
  | cons hx hr =>
  rename_i a bs
  have run : ∀ (s : ByteArray) (L H : Nat), ρ x = .string s → (Instr.sliceBounds false s.size s.size (lo.map ρ) (hi.map ρ) none).run P w = .ok (L, H, s.size) w →
      (execOp ρ o).run P w = .ok (.value (.string (s.extract L H))) w := by
    intro s L H hs hb
    simp [execOp, ho, hs, Instr.sliceAt, Instr.slice, run_underlying ht, hb]
  cases lo with
  | none =>
    cases hi with
    | none =>
      simp at hr; cases hr
      unfold mpure at hm
      split at hm <;> first | contradiction | skip
      rename_i h1 h2; cases h1; cases h2
      simp at hm
      subst hm
      generalize hv : ρ x = v' at hx; cases hx
      exact ⟨_, run _ 0 _ hv (slice_arms (.inl ⟨rfl, rfl⟩) (.inl ⟨rfl, rfl⟩) (Nat.zero_le _) (Nat.le_refl _)), by simp; exact .string _⟩
    | some y =>
      simp at hr
      obtain ⟨b, rfl, hb⟩ := rels1 hr
      unfold mpure at hm
      split at hm <;> first | contradiction | skip
      rename_i h1 h2; cases h1; cases h2
      simp at hm
      split at hm <;> first | contradiction | skip
      rename_i heq; cases heq
      split at hm <;> first | contradiction | skip
      rename_i hc
      cases hm
      generalize hv : ρ x = v' at hx; cases hx
      generalize hu : ρ y = u' at hb; cases hb
      rename_i h hh
      obtain ⟨n, rfl⟩ := Int.eq_ofNat_of_zero_le hc.1
      exact ⟨_, run _ 0 n hv (slice_arms (.inl ⟨rfl, rfl⟩) (.inr ⟨_, by rw [Option.map_some, hu]⟩) (Nat.zero_le _) (by omega)), .string _⟩
  | some z =>
    cases hi with
    | none =>
      simp at hr
      obtain ⟨b, rfl, hb⟩ := rels1 hr
      unfold mpure at hm
      split at hm <;> first | contradiction | skip
      rename_i h1 h2; cases h1; cases h2
      simp at hm
      split at hm <;> first | contradiction | skip
      rename_i heq; cases heq
      split at hm <;> first | contradiction | skip
      rename_i hc
      cases hm
      generalize hv : ρ x = v' at hx; cases hx
      generalize hu : ρ z = u' at hb; cases hb
      rename_i h hh
      obtain ⟨n, rfl⟩ := Int.eq_ofNat_of_zero_le hc.1
      exact ⟨_, run _ n _ hv (slice_arms (.inr ⟨_, by rw [Option.map_some, hu]⟩) (.inl ⟨rfl, rfl⟩) (by omega) (Nat.le_refl _)), .string _⟩
    | some y =>
      simp at hr
      obtain ⟨b, c, rfl, hb, hc'⟩ := rels2 hr
      unfold mpure at hm
      split at hm <;> first | contradiction | skip
      rename_i h1 h2; cases h1; cases h2
      simp at hm
      split at hm <;> first | contradiction | skip
      rename_i heq; cases heq
      split at hm <;> first | contradiction | skip
      rename_i hc
      cases hm
      generalize hv : ρ x = v' at hx; cases hx
      generalize hu : ρ z = u' at hb; cases hb
      generalize hq : ρ y = q' at hc'; cases hc'
      rename_i l _ h _ _
      obtain ⟨n, rfl⟩ := Int.eq_ofNat_of_zero_le hc.1
      obtain ⟨m, rfl⟩ := Int.eq_ofNat_of_zero_le (show 0 ≤ h by omega)
      exact ⟨_, run _ n m hv (slice_arms (.inr ⟨_, by rw [Option.map_some, hu]⟩) (.inr ⟨_, by rw [Option.map_some, hq]⟩) (by omega) (by omega)), .string _⟩
end
end Go.Mod

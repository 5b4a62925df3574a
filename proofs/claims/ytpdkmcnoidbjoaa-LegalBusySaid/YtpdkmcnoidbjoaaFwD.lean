/- Operations that hang on their operands alone: where the model answers, the machine answers alike. -/
import Derived.Test.YtpdkmcnoidbjoaaFwC
import Derived.Laws.StructEq
set_option linter.unusedVariables false
set_option linter.unusedSimpArgs false
namespace Go.Mod

section
variable {P : Program} {o : Oper} {ρ : Operand → Value} {w : World} {φ : Ren}

/-- What an operation comes to: a value, the world as it was. -/
def Yields (P : Program) (o : Oper) (ρ : Operand → Value) (w : World) (φ : Ren) (v : Value) : Prop :=
  ∃ v', (execOp ρ o).run P w = .ok (.value v') w ∧ VRel φ v v'

theorem rels1 {R : Value → Value → Prop} {xs : List Value} {y : Value} (h : Rels R xs [y]) : ∃ x, xs = [x] ∧ R x y := by
  cases h with | cons h t => cases t; exact ⟨_, rfl, h⟩
theorem rels2 {R : Value → Value → Prop} {xs : List Value} {y z : Value} (h : Rels R xs [y, z]) : ∃ x u, xs = [x, u] ∧ R x y ∧ R u z := by
  cases h with | cons h t => obtain ⟨u, rfl, hu⟩ := rels1 t; exact ⟨_, _, rfl, h, hu⟩
theorem rels3 {R : Value → Value → Prop} {xs : List Value} {y z a : Value} (h : Rels R xs [y, z, a]) : ∃ x u b, xs = [x, u, b] ∧ R x y ∧ R u z ∧ R b a := by
  cases h with | cons h t => obtain ⟨u, b, rfl, hu, hb⟩ := rels2 t; exact ⟨_, _, _, rfl, h, hu, hb⟩

theorem mbin_sim {op : BinOp} {a b v : Value} {a' b' : Value} {t : TypeId} {x y : Operand} (ha : VRel φ a a') (hb : VRel φ b b') (h : mbin op a b = some v) :
    ∃ v', (do eqGuard op t x y a' b'; binOp op t a' b' : Sem Value).run P w = .ok v' w ∧ VRel φ v v' := by
  unfold mbin at h
  split at h
  · rename_i k m k' n
    cases ha; cases hb
    have hg : (eqGuard op t x y (.int k m) (.int k' n)).run P w = .ok () w := by
      unfold eqGuard; split <;> rfl
    rw [Sem.run_bind, hg]
    simp only [Result.andThen_ok]
    split at h
    · split at h <;> first | (cases h; done) | skip
      rename_i hn
      cases h
      exact ⟨_, by simp [binOp, Op.shift, hn], .int ..⟩
    · split at h <;> first | (cases h; done) | skip
      rename_i hn
      cases h
      exact ⟨_, by simp [binOp, Op.shift, hn], .int ..⟩
    · rename_i h1 h2
      split at h
      · cases h
      · rename_i hk
        have hk : k = k' := by simpa using hk
        subst hk
        split at h <;> first
          | (cases h; exact ⟨_, by simp [binOp, Op.intArith, Op.intBits, Op.intCmp]; rfl, by constructor⟩)
          | (split at h <;> first | (cases h; done) | (rename_i hz; cases h; exact ⟨_, by simp [binOp, Op.intDiv, hz]; rfl, by constructor⟩))
          | (cases h; done)
  · rename_i s u
    cases ha; cases hb
    have hg : (eqGuard op t x y (.string s) (.string u)).run P w = .ok () w := by
      unfold eqGuard; split <;> rfl
    rw [Sem.run_bind, hg]
    simp only [Result.andThen_ok]
    split at h <;> first
      | (cases h; exact ⟨_, rfl, by constructor⟩)
      | (split at h <;> first | (cases h; done) | (rename_i hz; cases h; refine ⟨_, ?_, .string _⟩; simp only [binOp, Op.stringOp]; rw [if_neg (by simp only [show IntKind.i64.max = 9223372036854775807 from by decide]; omega)]; rfl))
      | (cases h; done)
  · cases h

theorem ceq_sim {d : Nat} {t : TypeId} {k : CK} {a b a' b' : Value} {r : Bool} (ht : cellK P t = some k) (ha : VRel φ a a') (hb : VRel φ b b') (h : ceq k a b = some r) :
    (Op.equalIn (d + 1) t a' b').run P w = .ok r w := by
  unfold cellK at ht
  unfold ceq at h
  split at h
  · split at h <;> first | (cases h; done) | skip
    rename_i k m k' n hk
    cases h; cases ha; cases hb; subst hk
    split at ht <;> first | (cases ht; done) | skip
    rename_i hu
    simp [Op.equalIn, underlying, hu]
  · cases h; cases ha; cases hb
    split at ht <;> first | (cases ht; done) | skip
    rename_i hu
    simp [Op.equalIn, underlying, hu]
  · cases h; cases ha; cases hb
    split at ht <;> first | (cases ht; done) | skip
    rename_i hu
    simp [Op.equalIn, underlying, hu]
  · cases h

theorem part_cell {t : TypeId} {ck : CK} (ht : cellK P t = some ck) {cs : Array Value} {i : Nat} {x : Value} (hx : cs[i]? = some x) : (part t cs i).run P w = .ok x w := by
  unfold cellK at ht
  split at ht <;> first | (cases ht; done) | skip
  all_goals
    rename_i hu
    simp [part, isAgg, underlying, hu, hx]

theorem ceqs_sim {d : Nat} {xs ys : Array Value} {xs' ys' : List Value} : ∀ (fs : List Field) (i : Nat) (ks : List CK) (r : Bool), fieldKs P i fs = some ks →
    Rels (VRel φ) (xs'.drop i) (xs.toList.drop i) → Rels (VRel φ) (ys'.drop i) (ys.toList.drop i) → ceqs ks (xs'.drop i) (ys'.drop i) = some r →
    (Op.eqFields (d + 1) xs ys fs).run P w = .ok r w
  | [], i, ks, r, hk, hx, hy, h => by
    simp only [fieldKs] at hk; cases hk
    unfold ceqs at h
    split at h <;> first | (cases h; done) | (rename_i h1 _; cases h1; done) | skip
    · cases h; simp [Op.eqFields]
    · simp at *
  | f :: fs, i, ks, r, hk, hx, hy, h => by
    simp only [fieldKs] at hk
    split at hk <;> first | (cases hk; done) | skip
    rename_i hn
    have hn := Bool.and_eq_true_iff.1 hn
    have hname : f.name ≠ "_" := by simpa using hn.1
    have hoff : f.offset = i := by simpa using hn.2
    split at hk <;> first | (cases hk; done) | skip
    rename_i k ks' hck hks
    cases hk
    unfold ceqs at h
    split at h <;> first | (cases h; done) | (rename_i h1 _ _; cases h1; done) | skip
    rename_i k0 ks0 x0 xs0 y0 ys0 hk0 hxs hys
    cases hk0
    split at h <;> first | (cases h; done) | skip
    rename_i a b ha hb
    cases h
    rw [hxs] at hx; rw [hys] at hy
    generalize hX : xs.toList.drop i = X at hx
    generalize hY : ys.toList.drop i = Y at hy
    cases hx with
    | cons rx tx =>
    rename_i x1 X1
    cases hy with
    | cons ry ty =>
    rename_i y1 Y1
    have ex : xs[i]? = some x1 := by
      have := congrArg (fun l => l[0]?) hX
      simpa using this
    have ey : ys[i]? = some y1 := by
      have := congrArg (fun l => l[0]?) hY
      simpa using this
    have hX1 : xs.toList.drop (i + 1) = X1 := by
      have := congrArg (List.drop 1) hX
      simpa [List.drop_drop, Nat.add_comm] using this
    have hY1 : ys.toList.drop (i + 1) = Y1 := by
      have := congrArg (List.drop 1) hY
      simpa [List.drop_drop, Nat.add_comm] using this
    have hxs1 : xs'.drop (i + 1) = xs0 := by
      have := congrArg (List.drop 1) hxs
      simpa [List.drop_drop, Nat.add_comm] using this
    have hys1 : ys'.drop (i + 1) = ys0 := by
      have := congrArg (List.drop 1) hys
      simpa [List.drop_drop, Nat.add_comm] using this
    have ih := ceqs_sim (d := d) (xs := xs) (ys := ys) (xs' := xs') (ys' := ys') fs (i + 1) ks' b hks (by rw [hX1, hxs1]; exact tx) (by rw [hY1, hys1]; exact ty) (by rw [hxs1, hys1]; exact hb)
    simp only [Op.eqFields, hoff]
    rw [if_pos hname]
    simp only [Sem.run_bind, part_cell hck ex, part_cell hck ey, Result.andThen_ok, ceq_sim hck rx ry ha]
    cases a
    · simp
    · simpa using ih

theorem meq_sim' (d : Nat) {e : EqK} {t : TypeId} {a b a' b' : Value} {r : Bool} (ht : eqTy P t = some e) (ha : VRel φ a a') (hb : VRel φ b b') (h : meq e a b = some r) :
    (Op.equalIn (d + 2) t a' b').run P w = .ok r w := by
  unfold eqTy at ht
  split at ht
  · rename_i hu; cases ht
    unfold meq at h; split at h <;> first | (cases h; done) | skip
    all_goals first | (rename_i he _ _; cases he; done) | (rename_i he; cases he; done) | skip
    cases h; cases ha; cases hb
    simp only [Op.equalIn, Sem.run_bind, run_underlying hu, Result.andThen_ok, Sem.run_pure]
  · rename_i hu; cases ht
    unfold meq at h; split at h <;> first | (cases h; done) | skip
    all_goals first | contradiction | (cases h; cases ha <;> cases hb <;> (unfold Op.equalIn; rw [Sem.run_bind, run_underlying hu]; rfl))
  · rename_i hu; cases ht
    unfold meq at h; split at h <;> first | (cases h; done) | skip
    all_goals first | contradiction | (cases h; cases ha <;> cases hb <;> (unfold Op.equalIn; rw [Sem.run_bind, run_underlying hu]; rfl))
  · rename_i hu; cases ht
    unfold meq at h; split at h <;> first | (cases h; done) | skip
    all_goals first | contradiction | (cases h; cases ha <;> cases hb <;> (unfold Op.equalIn; rw [Sem.run_bind, run_underlying hu]; rfl))
  · rename_i fs hu
    split at ht <;> first | (cases ht; done) | skip
    rename_i hg
    have hg := Bool.and_eq_true_iff.1 hg
    cases hk : fieldKs P 0 fs.toList with
    | none => simp [hk] at ht
    | some ks =>
      simp [hk] at ht; subst ht
      unfold meq at h; split at h <;> first | (cases h; done) | skip
      all_goals first | (rename_i he; cases he; done) | skip
      rename_i he; cases he
      cases ha with
      | agg sa ha =>
      cases hb with
      | agg sb hb =>
      have hf : P.fieldsOf t = fs := by simp [Program.fieldsOf, hu]
      rw [run_equalIn_struct w _ t _ _ (by rw [hf]; exact hu) (by simpa using hg.1), hf]
      exact ceqs_sim fs.toList 0 ks r hk (by simpa using VRel.rels sa ha) (by simpa using VRel.rels sb hb) (by simpa using h)
  · cases ht

theorem meq_sim {e : EqK} {t : TypeId} {a b a' b' : Value} {r : Bool} (ht : eqTy P t = some e) (ha : VRel φ a a') (hb : VRel φ b b') (h : meq e a b = some r) :
    (Op.equal t a' b').run P w = .ok r w := meq_sim' 9998 ht ha hb h

theorem eqGuard_ok {e : EqK} {op : BinOp} {t : TypeId} {x y : Operand} {a b a' b' : Value} {r : Bool} (ht : eqTy P t = some e) (ha : VRel φ a a') (hb : VRel φ b b') (h : meq e a b = some r) :
    (eqGuard op t x y a' b').run P w = .ok () w := by
  have key : (match a', b' with
      | .nilIface, .nilIface => False
      | .agg _, .agg _ => P.eqGuardType P.depth t = false
      | _, _ => True) := by
    unfold meq at h
    split at h <;> first | (cases h; done) | skip
    case h_8 ks xs ys =>
      cases ha; cases hb
      unfold eqTy at ht
      split at ht <;> first | (cases ht; done) | skip
      split at ht <;> first | (cases ht; done) | skip
      rename_i hg
      have hg := Bool.and_eq_true_iff.1 hg
      have hg2 : P.eqGuardType P.depth t = false := by simpa using hg.2
      simp [hg2]
    all_goals (cases ha <;> cases hb <;> trivial)
  unfold eqGuard
  cases op <;> first
    | rfl
    | (rw [if_neg (by simp)]
       split
       · exact key.elim
       · simp only [] at key
         simp [key]
       · rfl)

theorem mmin1_sim {m : Bool} {k : IntKind} : ∀ {l : List Value} {l' : List Value} {x : Int} {v : Value}, Rels (VRel φ) l l' → mmin1 m k x l = some v →
    ∃ n, v = .int k n ∧ ((l'.foldlM (if m then Builtin.max2 else Builtin.min2) (.int k x) : Sem Value)).run P w = .ok (.int k n) w
  | [], l', x, v, hl, h => by
    cases hl; simp only [mmin1] at h; cases h
    exact ⟨x, rfl, by simp⟩
  | y :: l, l', x, v, hl, h => by
    cases hl with
    | cons hy ht =>
    unfold mmin1 at h
    split at h
    · rename_i heq; cases heq
    · rename_i k' n l0 heq
      cases heq
      cases hy
      split at h <;> first | (cases h; done) | skip
      rename_i hk
      subst hk
      obtain ⟨r, hr, hrun⟩ := mmin1_sim ht h
      refine ⟨r, hr, ?_⟩
      cases m
      · simp only [Bool.false_eq_true, if_false] at hrun ⊢
        simp only [List.foldlM_cons, Sem.run_bind, Builtin.min2, Sem.run_pure, Result.andThen_ok]
        exact hrun
      · simp only [if_true] at hrun ⊢
        simp only [List.foldlM_cons, Sem.run_bind, Builtin.max2, Sem.run_pure, Result.andThen_ok]
        exact hrun
    · cases h
end
end Go.Mod

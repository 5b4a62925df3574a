/- A region whose order is drawn, IV: whichever operation is taken next. -/
import Derived.Test.YtpdkmcnoidbjoaaFwS
set_option linter.unusedVariables false
set_option linter.unusedSimpArgs false
namespace Go.Mod

section
variable {P : Program} {call : CallF} {n : Nat} {ops : Array Oper} {all : List MOper} {base : Nat} {S : Nat → Reg × MH} {anc : Nat → List Nat} {H : MH} {φ0 : Ren} {w0 : World} {ds : List Deferred}
variable {φ : Ren} {p : Nat} {listed : Array Bool} {a : Act} {w : World}

theorem uses_arg {m : MOper} {t : Nat} (h : t ∈ argRegs m.args) : (uses m).elem t = true := by simp [uses, h]
theorem uses_guard {m : MOper} {r : Nat} {b : Bool} (h : m.guard = some (r, b)) : (uses m).elem r = true := by simp [uses, h]

/-- The first place from i on where something holds. -/
theorem first_of (Q : Nat → Prop) : ∀ (d i : Nat), (∃ q, i ≤ q ∧ q < i + d ∧ Q q) → ∃ e, i ≤ e ∧ e < i + d ∧ Q e ∧ ∀ q, i ≤ q → q < e → ¬ Q q
  | 0, i, ⟨q, h1, h2, _⟩ => by omega
  | d + 1, i, ⟨q, h1, h2, h3⟩ => by
    by_cases h : Q i
    · exact ⟨i, Nat.le_refl _, by omega, h, fun q a b => by omega⟩
    · have : i ≠ q := fun e => h (e ▸ h3)
      obtain ⟨e, e1, e2, e3, e4⟩ := first_of Q d (i + 1) ⟨q, by omega, by omega, h3⟩
      refine ⟨e, by omega, by omega, e3, fun q a b => ?_⟩
      by_cases hq : q = i
      · exact hq ▸ h
      · exact e4 q (by omega) b

/-- For a writing operation: everything that writes lies on the same side as in the text. -/
theorem Inv.eff_le (C : Ctx P call n ops all base S anc H) (I : Inv P call n ops all base S H φ0 w0 ds φ p listed a w) {i0 : Nat} (hR : Ready ops listed i0) {m : MOper} (hm : all[i0]? = some m) (he : isEff m = true) :
    p ≤ i0 ∧ ∀ q mq, p ≤ q → q < i0 → all[q]? = some mq → isEff mq = false := by
  have hnl : ¬ i0 < p := fun h => hR.not ((I.eff i0 m hm he).2 h)
  refine ⟨by omega, fun q mq h1 h2 hmq => ?_⟩
  cases hq : isEff mq with
  | false => rfl
  | true =>
    have := I.ready_anc C hR q (C.ok q i0 mq m h2 hmq hm (.inr ⟨hq, he⟩))
    have := (I.eff q mq hmq hq).1 this
    omega

/-- A heap that the world has now and in which the operation reads what it reads in the text's order. -/
theorem Inv.readAt (C : Ctx P call n ops all base S anc H) (I : Inv P call n ops all base S H φ0 w0 ds φ p listed a w) {i0 : Nat} (hR : Ready ops listed i0) {m : MOper} (hm : all[i0]? = some m) (hk : m.op.kind = .read)
    {vs : List Value} {v : Value} (hw : mwant (S i0).1 m.guard = some true) (hvs : evs (S i0).1 m.args = some vs) (hv : mread m.op vs (S i0).2 = some v) : ∃ G, HRel φ (Mod.hp G) w ∧ mread m.op vs G = some v := by
  have hlen := C.len
  have hil : i0 < ops.size := hR.lt
  by_cases hpi : p ≤ i0
  · by_cases hx : ∃ q, p ≤ q ∧ q < p + (i0 - p) ∧ ∃ mq, all[q]? = some mq ∧ isEff mq = true
    · obtain ⟨e, e1, e2, ⟨me, hme, hee⟩, e4⟩ := first_of _ _ _ hx
      have hnl : ¬ listed.getD e false = true := fun h => by have := (I.eff e me hme hee).1 h; omega
      have hh := C.heapAt I e1 (by omega) (fun q mq h1 h2 hmq => by
        cases hq : isEff mq with
        | false => rfl
        | true => exact absurd ⟨mq, hmq, hq⟩ (e4 q h1 h2))
      have hpr := C.pread i0 e m me vs v hm hme hk hee (fun h => by have := C.anc_lt' (by omega) h; omega) (fun h => hnl (I.ready_anc C hR e h)) hw hvs hv
      exact ⟨_, hh, hpr.1⟩
    · exact ⟨_, C.heapAt I hpi (by omega) (fun q mq h1 h2 hmq => by
        cases hq : isEff mq with
        | false => rfl
        | true => exact absurd ⟨q, h1, by omega, mq, hmq, hq⟩ hx), hv⟩
  · rcases I.pos with h | ⟨e, me, h1, h2, h3, h4⟩
    · omega
    · have hne : i0 ≠ e := fun h => hR.not (h ▸ h4)
      have hes : e < ops.size := by rw [← hlen]; exact (List.getElem?_eq_some_iff.1 h2).1
      have hh := C.heapAt I (Nat.le_refl p) (by rw [hlen]; exact I.hp) (fun q mq a b => by omega)
      have hpr := C.pread i0 e m me vs v hm h2 hk h3 (fun h => hR.not (I.anc_of C h4 hes i0 h)) (fun h => by have := C.anc_lt' hil h; omega) hw hvs hv
      exact ⟨_, hh, by rw [h1]; exact hpr.2⟩

theorem Inv.step (C : Ctx P call n ops all base S anc H) (I : Inv P call n ops all base S H φ0 w0 ds φ p listed a w) {i0 : Nat} (hR : Ready ops listed i0) :
    OpJ P ops i0 a w fun a' w' => ∃ φ' p', Inv P call n ops all base S H φ0 w0 ds φ' p' (listed.setIfInBounds i0 true) a' w' := by
  have hlen := C.len
  have hi0 : i0 < listed.size := by rw [I.lsz]; exact hR.lt
  have ho : ops[i0]? = some (ops[i0]'hR.lt) := Array.getElem?_eq_getElem _
  have hm : all[i0]? = some (all[i0]'(by have := hR.lt; omega)) := List.getElem?_eq_getElem _
  generalize ops[i0]'hR.lt = o at ho
  generalize all[i0]'(by have := hR.lt; omega) = m at hm
  have hT := I.trel C hR hm
  obtain ⟨⟨xs, hop, hxs⟩, hg, hd, hn⟩ := C.comp i0 o m ho hm
  have hnb : base + nalloc all ≤ (S i0).2.length := C.len_le (by have := hR.lt; omega)
  -- nothing in memory changes
  have still : ∀ (u v' : Value), VRel φ u v' → (S (i0 + 1)).1 = mdst (S i0).1 m u → isEff m = false → (m.op.kind ≠ .alloc ∨ φ (allocAt all base i0) = none) → ∃ φ' p', Inv P call n ops all base S H φ0 w0 ds φ' p' (listed.setIfInBounds i0 true) (a.put o.dst v') w := by
    intro u v' hv hS he hal
    refine ⟨φ, p, I.next C hR hm ho (Ren.le.refl φ) hS hv ?_ (fun i mi _ _ _ h => h) (.inl ⟨he, rfl⟩)⟩
    refine I.st.congr fun id pl hφ => virt_congr (early_set hm hi0 fun hk => ?_)
    rcases hal with h | h
    · exact absurd hk h
    · intro e; rw [e, h] at hφ; cases hφ
  -- what writes
  have writes : ∀ (u v' : Value) (φ' : Ren) (w' : World), VRel φ' u v' → (S (i0 + 1)).1 = mdst (S i0).1 m u → isEff m = true → Step (S i0).2.length φ (Mod.hp (S i0).2) w φ' (Mod.hp (S (i0 + 1)).2) w' → (∀ (id : Nat), (S i0).2[id]? = some MObj.dead → (S (i0 + 1)).2[id]? = some MObj.dead) →
      ∃ φ' p', Inv P call n ops all base S H φ0 w0 ds φ' p' (listed.setIfInBounds i0 true) (a.put o.dst v') w' := by
    intro u v' φ' w' hv hS he st hdead
    obtain ⟨hpi, hno⟩ := I.eff_le C hR hm he
    have hka := kind_of_eff he
    refine ⟨φ', i0 + 1, I.next C hR hm ho st.le hS hv ?_ (fun i mi hmi hk hne hnn => ?_) (.inr ⟨he, rfl⟩)⟩
    · refine I.st.trans (Step.lift (k := Mod.hp (S i0).2) (k' := Mod.hp (S (i0 + 1)).2) (n := (S i0).2.length) st I.st.rel hdead fun id pl hφ' => ?_) (by omega)
      by_cases hE : ∃ i, Early all base (i0 + 1) (fun i => listed.getD i false = true) id i
      · obtain ⟨i, hEi⟩ := hE
        obtain ⟨⟨mi, hmi, hki⟩, hLi, hpi', hid⟩ := hEi
        have hil : i < all.length := (List.getElem?_eq_some_iff.1 hmi).1
        refine .inr ⟨?_, ?_, ?_⟩
        · have := C.run.dead C.tame (id := id) 0 i0 (by omega) (fun q mq h1 h2 hmq hkq e => by
            have := alloc_inj hmi hki hmq hkq (hid.trans e.symm); omega) (by rw [← hid]; exact C.start_dead hmi hki)
          rw [Nat.zero_add] at this
          exact this
        · rw [virt_early (i := i) ((early_set hm hi0 (fun h => absurd h hka) i).2 ⟨⟨mi, hmi, hki⟩, hLi, hpi', hid⟩), virt_early (i := i) ⟨⟨mi, hmi, hki⟩, hLi, by omega, hid⟩]
        · rcases st.dom id pl hφ' with h | ⟨_, h⟩
          · exact h
          · have := allocAt_lt all base i mi hmi hki
            omega
      · refine .inl ⟨fun hφ => ?_, ?_⟩
        · -- the heap ahead of the operation
          by_cases hE' : ∃ i, Early all base p (fun i => listed.getD i false = true) id i
          · obtain ⟨i, hEi⟩ := hE'
            have hEi0 := hEi
            obtain ⟨⟨mi, hmi, hki⟩, hLi, hpi', hid⟩ := hEi
            have hne : i ≠ i0 := fun e => hR.not (e ▸ hLi)
            have hlt : i < i0 := by
              rcases Nat.lt_or_ge i i0 with h | h
              · exact h
              · exact absurd ⟨i, ⟨mi, hmi, hki⟩, hLi, by omega, hid⟩ hE
            rw [virt_early hEi0]
            have := (C.run.heap (id := id) (i + 1) (i0 - (i + 1)) (by have := hR.lt; omega) (fun q m' h1 h2 hm' => ⟨hno q m' (by omega) (by omega) hm', C.noComm q m' hm', fun hk' e => by
              have := alloc_inj hmi hki hm' hk' (hid.trans e.symm); omega⟩)).1
            rw [show i + 1 + (i0 - (i + 1)) = i0 by omega] at this
            exact this
          · rw [virt_else hE']
            have := (C.run.heap (id := id) p (i0 - p) (by have := hR.lt; omega) (fun q m' h1 h2 hm' => ⟨hno q m' (by omega) (by omega) hm', C.noComm q m' hm', fun hk' e => by
              by_cases hL : listed.getD q false = true
              · exact hE' ⟨q, ⟨m', hm', hk'⟩, hL, h1, e⟩
              · have := I.unm q m' hm' hk' hL
                rw [e, hφ] at this; cases this⟩)).1
            rw [show p + (i0 - p) = i0 by omega] at this
            exact this
        · rw [virt_else]
          · rfl
          · rintro ⟨i, hi⟩
            exact hE ⟨i, (early_set hm hi0 (fun h => absurd h hka) i).1 hi⟩
    · cases hφ : φ' (allocAt all base i) with
      | none => rfl
      | some q =>
        rcases st.dom _ q hφ with h | ⟨_, h⟩
        · rw [hnn] at h; cases h
        · have := allocAt_lt all base i mi hmi hk
          omega
  rcases C.run.is hm with ⟨hwant, hS, hH⟩ | ⟨vs, v, hwant, hvs, hmo, hS⟩
  · -- not wanted
    rw [← want_filter _ (uses m) m.guard (fun r b h => uses_guard h)] at hwant
    have hw := want_sim hT hg hwant
    cases he : isEff m with
    | false =>
      refine OpJ.skip ho hw (still _ _ VRel.undef hS he ?_)
      by_cases hk : m.op.kind = .alloc
      · exact .inr (I.unm i0 m hm hk hR.not)
      · exact .inl hk
    | true =>
      obtain ⟨hpi, hno⟩ := I.eff_le C hR hm he
      refine OpJ.skip ho hw (writes _ _ φ w VRel.undef hS he ?_ (fun id h => by rw [hH]; exact h))
      rw [hH]
      exact Step.refl (C.heapAt I hpi (by have := hR.lt; omega) hno)
  · -- wanted
    have hwant' := hwant
    rw [← want_filter _ (uses m) m.guard (fun r b h => uses_guard h)] at hwant'
    have hw := want_sim hT hg hwant'
    have hvs' := hvs
    rw [← evs_filter _ (uses m) m.args (fun t h => uses_arg h)] at hvs'
    have hr := args_sim hT hxs hvs'
    have hmo0 := hmo
    unfold mop at hmo
    split at hmo
    · rename_i hk
      split at hmo <;> first | contradiction | skip
      rename_i v0 hp'
      have e := Option.some.inj hmo
      have e1 : v0 = v := congrArg Prod.fst e
      subst e1
      obtain ⟨v', h1, h2⟩ := pure_sim (w := w) hop hk hr hp'
      exact OpJ.value ho hw h1 (.inl rfl) (still _ _ h2 hS (by unfold isEff; rw [hk]) (.inl (by rw [hk]; simp)))
    · rename_i hk
      split at hmo <;> first | contradiction | skip
      rename_i v0 hp'
      have e := Option.some.inj hmo
      have e1 : v0 = v := congrArg Prod.fst e
      subst e1
      obtain ⟨G, hG, hrd⟩ := I.readAt C hR hm hk hwant hvs hp'
      obtain ⟨v', h1, h2⟩ := read_sim hop hk hG hr hrd
      exact OpJ.value ho hw h1 (.inl rfl) (still _ _ h2 hS (by unfold isEff; rw [hk]) (.inl (by rw [hk]; simp)))
    · rename_i hk
      rw [if_pos hk] at hmo
      simp only [] at hmo
      split at hmo <;> first | contradiction | skip
      rename_i ob v0 hp'
      have e := Option.some.inj hmo
      have e1 : v0 = v := congrArg Prod.fst e
      have e2 : (S i0).2.set (allocAt all base i0) ob = (S (i0 + 1)).2 := congrArg Prod.snd e
      subst e1
      have hb := I.unm i0 m hm hk hR.not
      have he : isEff m = false := by unfold isEff; rw [hk]
      obtain ⟨v', blk, pl, h1, h2, h3, h4⟩ := alloc_sim (w := w) hop hk hr hp'
      refine OpJ.value ho hw h1 (.inl rfl) ?_
      have hlt := allocAt_lt all base i0 m hm hk
      have hS1 : (S (i0 + 1)).2[allocAt all base i0]? = some ob := by
        rw [← e2, List.getElem?_set_self (by omega)]
      have hset : (listed.setIfInBounds i0 true).getD i0 false = true := by rw [getD_set hi0, if_pos rfl]
      refine ⟨φ.set (allocAt all base i0) pl, p, I.next C hR hm ho (Ren.le_set pl hb) hS h4 ?_ (fun i mi hmi hki hne hnn => ?_) (.inl ⟨he, rfl⟩)⟩
      · refine I.st.trans (Step.put (n := base) I.st.rel (allocAt_ge all base i0) hb h2 (fun id q hφ => ?_) ?_ h3) (Nat.le_refl _)
        · exact virt_congr (early_set hm hi0 fun _ e => by rw [e, hb] at hφ; cases hφ)
        · by_cases hpi : p ≤ i0
          · rw [virt_early (i := i0) ⟨⟨m, hm, hk⟩, hset, hpi, rfl⟩]
            exact hS1
          · rw [virt_else]
            · rcases I.pos with h | ⟨e, me, g1, g2, g3, g4⟩
              · omega
              · have hes : e < ops.size := by rw [← hlen]; exact (List.getElem?_eq_some_iff.1 g2).1
                have hne : i0 ≠ e := fun h => hR.not (h ▸ g4)
                have := C.palloc i0 e m me hm g2 hk g3 (by omega) (fun h => hR.not (I.anc_of C g4 hes i0 h)) (fun h => by have := C.anc_lt' hR.lt h; omega)
                rw [g1, this]; exact hS1
            · rintro ⟨i, ⟨mi, hmi, hki⟩, _, h3, h4⟩
              have := alloc_inj hmi hki hm hk h4
              omega
      · rw [Ren.set_ne _ _ (fun e => hne (alloc_inj hmi hki hm hk e))]
        exact hnn
    · rename_i hk
      have he : isEff m = true := by unfold isEff; rw [hk]
      obtain ⟨hpi, hno⟩ := I.eff_le C hR hm he
      have hh := C.heapAt I hpi (by have := hR.lt; omega) hno
      obtain ⟨nx, v', w', φ', h1, h2, h3, h4⟩ := eff_sim hop hk hh hr hmo
      exact OpJ.value ho hw h1 h2 (writes _ _ φ' w' h3 hS he h4 fun id hdd => meff_dead hmo hdd)
    · rename_i hk
      have := C.noComm i0 m hm
      unfold noComm at this; rw [hk] at this; cases this
    · rename_i hk
      have he : isEff m = true := by unfold isEff; rw [hk]
      obtain ⟨hpi, hno⟩ := I.eff_le C hR hm he
      have hh := C.heapAt I hpi (by have := hR.lt; omega) hno
      split at hmo <;> first | contradiction | skip
      rename_i f hmf
      have hi := cOp_inv hop
      generalize hoo : o.op = oo at hi
      rw [hmf] at hi
      cases hi
      case pure h => cases h
      case call c hcal =>
        refine OpJ.invoke (args := (c.args.toList.map a.eval).toArray) (f := f) ho hw ?_ (C.callOk f vs _ v _ hmo φ w _ hh hr) (fun v' w' ⟨φ', h1, h2⟩ => writes _ _ φ' w' h1 hS he h2 fun id hdd => C.tame.dead _ _ _ _ _ hmo id hdd)
        simp [execOp, hoo, resolve, hcal, Deferred.ofValue, Act.eval, invoke]
        congr 2
        apply Array.ext'; simp
    · rename_i hk
      have he : isEff m = true := by unfold isEff; rw [hk]
      obtain ⟨hpi, hno⟩ := I.eff_le C hR hm he
      have hh := C.heapAt I hpi (by have := hR.lt; omega) hno
      split at hmo <;> first | contradiction | skip
      rename_i f fa fc args
      have hi := cOp_inv hop
      generalize hoo : o.op = oo at hi
      generalize hmm : m.op = mo at hi hk
      cases hi <;> first | (cases hk; done) | skip
      case pure h => rw [h] at hk; cases hk
      case callv c x hcal =>
        simp only [List.map_cons] at hr
        cases hr with
        | cons hx hr =>
        generalize hX : a.eval x = x' at hx
        cases hx with
        | func fn ha hcc h1 h2 =>
        rename_i fa' fc'
        have hr' : Rels (VRel φ) (fa.toList ++ args ++ fc.toList) (fa'.toList ++ c.args.toList.map a.eval ++ fc'.toList) := ((VRel.rels ha h1).append hr).append (VRel.rels hcc h2)
        refine OpJ.invoke (f := f) ho hw ?_ (C.callOk f _ _ v _ hmo φ w _ hh hr') (fun v' w' ⟨φ', h1, h2⟩ => writes _ _ φ' w' h1 hS he h2 fun id hdd => C.tame.dead _ _ _ _ _ hmo id hdd)
        simp [execOp, hoo, resolve, hcal, Deferred.ofValue, hX, invoke]
        congr 2
        apply Array.ext'; simp
end
end Go.Mod

/- Code, functions, calls. -/
import Derived.Test.YtpdkmcnoidbjoaaFwU
import Derived.Scope
set_option linter.unusedVariables false
set_option linter.unusedSimpArgs false
namespace Go.Mod

section
variable {P : Program} {call : CallF} {n : Nat} {a : Act} {w : World} {φ : Ren} {T T' : Reg} {H H' : MH}

def Ex : MExit → Exit
  | .normal => .normal
  | .exit id => .exit id
  | .ret => .ret

/-- How a piece of code ends. -/
def Ends (n : Nat) (φ : Ren) (H : MH) (w : World) (e : MExit) (T' : Reg) (H' : MH) (ds : List Deferred) : Exit → Act → World → Prop :=
  fun e' a' w' => e' = Ex e ∧ Post n φ H w T' H' ds a' w'

/-! ### the heap grows, what is dead stays so -/
def Keeps (H H' : MH) : Prop := H.length ≤ H'.length ∧ ∀ (id : Nat), H[id]? = some MObj.dead → H'[id]? = some MObj.dead
theorem Keeps.refl (H : MH) : Keeps H H := ⟨Nat.le_refl _, fun _ h => h⟩
theorem Keeps.trans {H H1 H2 : MH} (h : Keeps H H1) (g : Keeps H1 H2) : Keeps H H2 := ⟨Nat.le_trans h.1 g.1, fun id hd => g.2 id (h.2 id hd)⟩

theorem mstep_keeps (ht : Tame call) {m : MOper} (h : mstep call m T H none = some (T', H')) : Keeps H H' := by
  rcases stepIs h with ⟨_, _, hH⟩ | ⟨vs, v, _, _, ho, _⟩
  · rw [hH]; exact Keeps.refl _
  · exact mop_none ht ho
theorem mops_keeps (ht : Tame call) : ∀ {l : List MOper} {T : Reg} {H : MH}, mops call l T H = some (T', H') → Keeps H H'
  | [], T, H, h => by simp only [mops] at h; cases h; exact Keeps.refl _
  | m :: l, T, H, h => by
    simp only [mops] at h
    split at h <;> first | contradiction | skip
    rename_i T1 H1 h1
    exact (mstep_keeps ht h1).trans (mops_keeps ht h)
theorem mloop_keeps {f : Reg → MH → Option (MExit × Reg × MH)} (hf : ∀ T H e T' H', f T H = some (e, T', H') → Keeps H H') : ∀ (k : Nat) (T : Reg) (H : MH) {e : MExit}, mloop f k T H = some (e, T', H') → Keeps H H'
  | 0, T, H, e, h => by simp [mloop] at h
  | k + 1, T, H, e, h => by
    simp only [mloop] at h
    split at h
    · rename_i T1 H1 h1
      exact (hf _ _ _ _ _ h1).trans (mloop_keeps hf k T1 H1 h)
    · exact hf _ _ _ _ _ h
theorem mcode_keeps (ht : Tame call) (k : Nat) : ∀ (c : MCode) {e : MExit} {T T' : Reg} {H H' : MH}, mcode call k c T H = some (e, T', H') → Keeps H H'
  | .skip, e, T, T', H, H', h => by simp only [mcode] at h; cases h; exact Keeps.refl _
  | .exit id, e, T, T', H, H', h => by simp only [mcode] at h; cases h; exact Keeps.refl _
  | .ret, e, T, T', H, H', h => by simp only [mcode] at h; cases h; exact Keeps.refl _
  | .ops l, e, T, T', H, H', h => by
    simp only [mcode] at h
    split at h <;> first | contradiction | skip
    rename_i h1
    cases h
    exact mops_keeps ht h1
  | .draw l ps, e, T, T', H, H', h => by
    simp only [mcode] at h
    split at h <;> first | contradiction | skip
    rename_i h1
    cases h
    exact mdraw_tame ht h1
  | .seq x y, e, T, T', H, H', h => by
    simp only [mcode] at h
    split at h
    · rename_i h1
      exact (mcode_keeps ht k x h1).trans (mcode_keeps ht k y h)
    · exact mcode_keeps ht k x h
  | .cond c x y, e, T, T', H, H', h => by
    simp only [mcode] at h
    split at h <;> first | contradiction | skip
    · exact mcode_keeps ht k x h
    · exact mcode_keeps ht k y h
  | .block id c, e, T, T', H, H', h => by
    simp only [mcode] at h
    split at h
    · rename_i h1
      split at h <;> cases h <;> exact mcode_keeps ht k c h1
    · exact mcode_keeps ht k c h
  | .loop c, e, T, T', H, H', h => by
    simp only [mcode] at h
    exact mloop_keeps (fun T H e T' H' h => mcode_keeps ht k c h) k T H h

theorem Ends.trans {φ₁ : Ren} {H₁ H₂ : MH} {w₁ : World} {e : MExit} {T₂ : Reg} {ds : List Deferred} {e' : Exit} {a : Act} {w₂ : World} (st : Step H.length φ (hp H) w φ₁ (hp H₁) w₁) (hl : H.length ≤ H₁.length) (h : Ends n φ₁ H₁ w₁ e T₂ H₂ ds e' a w₂) :
    Ends n φ H w e T₂ H₂ ds e' a w₂ := ⟨h.1, h.2.trans st hl⟩

theorem wp_of_ops {ops : Array Oper} {l : List Nat} {Q : Act → World → Prop} {c : Code} {w0 : World} (h : OpsJ P ops l a w Q) (hs : ∀ (b : Frame) (k : List Item) (cs : List Frame), step P (lone (b.at a (.code c :: k)) cs w0) = .next (lone (b.at a (.inRegion ops l :: k)) cs w)) :
    c.wp P (fun e a w => e = .normal ∧ Q a w) a w0 := fun b k cs => by
  obtain ⟨a', w', hq, s⟩ := h b k cs
  exact ⟨.normal, a', w', ⟨rfl, hq⟩, .head (hs b k cs) (s.trans (.one step_region_end))⟩

theorem Step.drew {m : Nat} {w' : World} {φ' : Ren} {h' : Nat → Option MObj} (st : Step m φ (hp H) { w with drawn := w.drawn + 1 } φ' h' w') : Step m φ (hp H) w φ' h' w' :=
  ⟨st.rel, st.le, ⟨st.fr.os, st.fr.tape, st.fr.output, st.fr.size, st.fr.block⟩, st.new, st.fresh, st.dom⟩

theorem region_sim (hcall : CallOk P call) (ht : Tame call) {id : Nat} {ops : Array Oper} {l : List MOper} (hc : cOpers P n ops ops.toList = some (l.map MOper.bare)) (hm : mops call l T H = some (T', H')) (hT : TRel n φ T a.tmps) (hh : HRel φ (hp H) w) :
    (Code.region id ops false).wp P (Ends n φ H w .normal T' H' a.defers) a w := by
  obtain ⟨hlen, hcomp⟩ := comps_of hc
  have := mops_sim hcall (fun f vs H r H' h => ht.grows f vs H r H' h) hlen hcomp l 0 T H a w φ (by simp) hT hh hm
  rw [hlen] at this
  refine wp_mono (wp_of_ops this fun b k cs => ?_) fun e a' w' ⟨h1, h2⟩ => ⟨h1, h2⟩
  rw [← List.range_eq_range']; exact step_region
theorem region_draw_sim (hmix : P.follows .mixedOrders = true) (hcall : CallOk P call) (ht : Tame call) {id : Nat} {ops : Array Oper} {l : List MOper} {ps : List (Nat × Nat)} (hc : cDraw P n ops = some (l.map MOper.bare, ps)) (hm : mdraw call l ps T H = some (T', H')) (hT : TRel n φ T a.tmps) (hh : HRel φ (hp H) w) :
    (Code.region id ops true).wp P (Ends n φ H w .normal T' H' a.defers) a w := fun b k cs => by
  have := draw_sim (w := { w with drawn := w.drawn + 1 }) hcall ht hc hm hT hh.drew (w.tape w.drawn (.order b.fn id))
  obtain ⟨a', w', ⟨h1, φ', h2, h3⟩, s⟩ := this b k cs
  refine ⟨.normal, a', w', ⟨rfl, h1, φ', h2.drew, h3⟩, .head ?_ (s.trans (.one step_region_end))⟩
  have := step_region_draw (P := P) (b := b) (a := a) (k := k) (cs := cs) (w := w) (ops := ops) (id := id)
  rw [show Region.schedule (P.follows .mixedOrders) ops (w.tape w.drawn (.order b.fn id)) = Region.linearise .any ops (w.tape w.drawn (.order b.fn id)) by unfold Region.schedule; rw [hmix]; rfl] at this
  exact this

theorem code_sim (hmix : P.follows .mixedOrders = true) (hcall : CallOk P call) (ht : Tame call) (k : Nat) : ∀ (c : Code) (mc : MCode), cCode P n c = some mc.bare → ∀ (a : Act) (w : World) (φ : Ren) (T T' : Reg) (H H' : MH) (e : MExit), TRel n φ T a.tmps → HRel φ (hp H) w → mcode call k mc T H = some (e, T', H') →
    c.wp P (Ends n φ H w e T' H' a.defers) a w := by
  intro c
  induction c with
  | skip =>
    intro mc hc a w φ T T' H H' e hT hh hm
    simp only [cCode] at hc
    cases mc <;> simp [MCode.bare] at hc
    simp only [mcode] at hm; cases hm
    exact wp_skip ⟨rfl, rfl, φ, Step.refl hh, hT⟩
  | label l =>
    intro mc hc a w φ T T' H H' e hT hh hm
    simp only [cCode] at hc
    cases mc <;> simp [MCode.bare] at hc
    simp only [mcode] at hm; cases hm
    exact wp_label ⟨rfl, rfl, φ, Step.refl hh, hT⟩
  | region id ops draw =>
    intro mc hc a w φ T T' H H' e hT hh hm
    cases draw with
    | false =>
      simp only [cCode] at hc
      obtain ⟨l0, h1, h2⟩ := Option.map_eq_some_iff.1 hc
      cases mc <;> simp [MCode.bare] at h2
      subst h2
      simp only [mcode] at hm
      split at hm <;> first | contradiction | skip
      rename_i hm1
      cases hm
      exact region_sim hcall ht h1 hm1 hT hh
    | true =>
      simp only [cCode] at hc
      obtain ⟨l0, h1, h2⟩ := Option.map_eq_some_iff.1 hc
      cases mc <;> simp [MCode.bare] at h2
      obtain ⟨e1, e2⟩ := h2
      simp only [mcode] at hm
      split at hm <;> first | contradiction | skip
      rename_i hm1
      cases hm
      refine region_draw_sim hmix hcall ht ?_ hm1 hT hh
      rw [h1, ← e1, ← e2]
  | seq x y ihx ihy =>
    intro mc hc a w φ T T' H H' e hT hh hm
    simp only [cCode] at hc
    split at hc <;> first | contradiction | skip
    rename_i mx my hx hy
    cases mc <;> simp [MCode.bare] at hc
    rename_i m1 m2
    obtain ⟨e1, e2⟩ := hc
    subst e1; subst e2
    simp only [mcode] at hm
    split at hm
    · rename_i T1 H1 h1
      refine wp_seq (wp_mono (ihx m1 hx a w φ T T1 H H1 .normal hT hh h1) fun e' a1 w1 ⟨he, hd, φ1, st, hT1⟩ => ?_)
      subst he
      show y.wp P _ a1 w1
      refine wp_mono (ihy m2 hy a1 w1 φ1 T1 T' H1 H' e hT1 st.rel hm) fun e2 a2 w2 h2 => ?_
      rw [hd] at h2
      exact h2.trans st (mcode_keeps ht k m1 h1).1
    · rename_i hne
      refine wp_seq (wp_mono (ihx m1 hx a w φ T T' H H' e hT hh hm) fun e' a1 w1 h => ?_)
      have he := h.1
      cases e with
      | normal => exact absurd hm (hne T' H')
      | exit id => subst he; exact h
      | ret => subst he; exact h
  | cond c x y ihx ihy =>
    intro mc hc a w φ T T' H H' e hT hh hm
    simp only [cCode] at hc
    split at hc <;> first | contradiction | skip
    rename_i mcnd mx my hcnd hx hy
    cases mc <;> simp [MCode.bare] at hc
    rename_i m0 m1 m2
    obtain ⟨e0, e1, e2⟩ := hc
    subst e0; subst e1; subst e2
    simp only [mcode] at hm
    split at hm <;> first | contradiction | skip
    · rename_i hev
      have hv := arg_sim (a := a) hT hcnd hev
      generalize hX : a.eval c = x' at hv
      cases hv
      exact wp_cond_true hX (ihx m1 hx a w φ T T' H H' e hT hh hm)
    · rename_i hev
      have hv := arg_sim (a := a) hT hcnd hev
      generalize hX : a.eval c = x' at hv
      cases hv
      exact wp_cond_false hX (ihy m2 hy a w φ T T' H H' e hT hh hm)
  | block id c ih =>
    intro mc hc a w φ T T' H H' e hT hh hm
    simp only [cCode] at hc
    obtain ⟨m0, h1, h2⟩ := Option.map_eq_some_iff.1 hc
    cases mc <;> simp [MCode.bare] at h2
    rename_i id' m1
    obtain ⟨e1, e2⟩ := h2
    subst e1; subst e2
    simp only [mcode] at hm
    split at hm
    · rename_i idx T1 H1 h1'
      split at hm
      · rename_i heq
        cases hm
        refine wp_block (wp_mono (ih m1 h1 a w φ T T' H H' _ hT hh h1') fun e' a1 w1 h => ?_)
        have he := h.1
        subst he
        show Exit.inBlock id _ (.exit idx) a1 w1
        simp only [Exit.inBlock, if_pos heq]
        exact ⟨rfl, h.2⟩
      · rename_i hne
        cases hm
        refine wp_block (wp_mono (ih m1 h1 a w φ T T' H H' _ hT hh h1') fun e' a1 w1 h => ?_)
        have he := h.1
        subst he
        show Exit.inBlock id _ (.exit idx) a1 w1
        simp only [Exit.inBlock, if_neg hne]
        exact ⟨rfl, h.2⟩
    · rename_i hne
      refine wp_block (wp_mono (ih m1 h1 a w φ T T' H H' e hT hh hm) fun e' a1 w1 h => ?_)
      have he := h.1
      cases e with
      | normal => subst he; exact h
      | exit id' => exact absurd hm (hne id' T' H')
      | ret => subst he; exact h
  | loop c ih =>
    intro mc hc a w φ T T' H H' e hT hh hm
    simp only [cCode] at hc
    obtain ⟨m0, h1, h2⟩ := Option.map_eq_some_iff.1 hc
    cases mc <;> simp [MCode.bare] at h2
    rename_i m1
    subst h2
    simp only [mcode] at hm
    intro b kk cs
    have key : ∀ (j : Nat) (T : Reg) (H : MH) (a : Act) (w : World) (φ : Ren), TRel n φ T a.tmps → HRel φ (hp H) w → mloop (mcode call k m1) j T H = some (e, T', H') →
        ∃ e' a' w', Ends n φ H w e T' H' a.defers e' a' w' ∧ Arrives P (lone (b.at a (.code c :: .inLoop c :: kk)) cs w) b kk cs e' a' w' := by
      intro j
      induction j with
      | zero => intro T H a w φ _ _ h; simp [mloop] at h
      | succ j ihj =>
        intro T H a w φ hT hh h
        simp only [mloop] at h
        split at h
        · rename_i T1 H1 h1'
          obtain ⟨e1, a1, w1, ⟨he, hd, φ1, st, hT1⟩, harr⟩ := ih m1 h1 a w φ T T1 H H1 .normal hT hh h1' b (.inLoop c :: kk) cs
          subst he
          obtain ⟨e2, a2, w2, hq2, harr2⟩ := ihj T1 H1 a1 w1 φ1 hT1 st.rel h
          rw [hd] at hq2
          exact ⟨e2, a2, w2, hq2.trans st (mcode_keeps ht k m1 h1').1, .of_steps (Steps.trans harr (.one step_inLoop)) harr2⟩
        · rename_i hne
          obtain ⟨e1, a1, w1, hq, harr⟩ := ih m1 h1 a w φ T T' H H' e hT hh h b (.inLoop c :: kk) cs
          have he := hq.1
          cases e with
          | normal => exact absurd h (hne T' H')
          | exit id => subst he; exact ⟨_, a1, w1, hq, .pass (x := .inLoop c) rfl (fun _ _ => .inl (by simp [Ex])) harr⟩
          | ret => subst he; exact ⟨_, a1, w1, hq, .pass (x := .inLoop c) rfl (fun _ _ => .inl (by simp [Ex])) harr⟩
    obtain ⟨e', a', w', hq, harr⟩ := key k T H a w φ hT hh hm
    exact ⟨e', a', w', hq, .of_steps (.one step_loop) harr⟩
  | scope c ih =>
    intro mc hc a w φ T T' H H' e hT hh hm
    simp only [cCode] at hc
    refine wp_scope_straight (wp_mono (ih mc hc a w φ T T' H H' e hT hh hm) fun e' a1 w1 h => ?_)
    have he := h.1
    subst he
    cases e <;> exact h
  | exit id =>
    intro mc hc a w φ T T' H H' e hT hh hm
    simp only [cCode] at hc
    cases mc <;> simp [MCode.bare] at hc
    subst hc
    simp only [mcode] at hm; cases hm
    exact wp_exit ⟨rfl, rfl, φ, Step.refl hh, hT⟩
  | ret =>
    intro mc hc a w φ T T' H H' e hT hh hm
    simp only [cCode] at hc
    cases mc <;> simp [MCode.bare] at hc
    simp only [mcode] at hm; cases hm
    exact wp_ret ⟨rfl, rfl, φ, Step.refl hh, hT⟩
  | _ =>
    intro mc hc
    simp [cCode] at hc

/-! ### functions -/
theorem rget_init {vs : List Value} : ∀ {k t : Nat} {v : Value}, rget (initRegs k vs) t = some v → k ≤ t ∧ vs[t - k]? = some v := by
  induction vs with
  | nil => intro k t v h; simp [initRegs, rget] at h
  | cons x vs ih =>
    intro k t v h
    simp only [initRegs, rget] at h
    split at h
    · rename_i e; subst e; cases h; simp
    · obtain ⟨h1, h2⟩ := ih h
      refine ⟨by omega, ?_⟩
      rw [show t - k = (t - (k + 1)) + 1 by omega]
      simpa using h2

theorem TRel.init {vs args : List Value} (h : Rels (VRel φ) vs args) : TRel n φ (initRegs 0 vs) (args.toArray ++ Array.replicate (n - args.toArray.size) undef) := by
  refine ⟨by simp; omega, fun t v hv => ?_⟩
  obtain ⟨_, h2⟩ := rget_init hv
  obtain ⟨y, hy, hr⟩ := h.get _ _ h2
  have hlt : t < args.length := (List.getElem?_eq_some_iff.1 (by simpa using hy)).1
  rw [Array.getD_eq_getD_getElem?, Array.getElem?_append_left (by simpa using hlt)]
  have : args[t]? = some y := by simpa using hy
  simp [this]
  exact hr

theorem res_load {t : TypeId} {l : Option Nat} {x x' v : Value} (hl : ldOf P t = some l) (hh : HRel φ (hp H) w) (hx : VRel φ x x') (hm : mread (.ld l) [x] H = some v) :
    ∃ u, (do loadVar t (← asAddr x')).run P w = .ok u w ∧ VRel φ v u := by
  unfold mread at hm
  split at hm <;> first | contradiction | skip
  · rename_i heq hv; cases heq; cases hv
    split at hm <;> first | contradiction | skip
    rename_i i c hH
    split at hm <;> first | contradiction | skip
    rename_i y hy
    split at hm <;> first | contradiction | skip
    rename_i hu
    cases hm
    cases hx with
    | ptr hφ =>
    obtain ⟨y', hy', hrel⟩ := (hh.cells hφ hH).cell hy
    rcases ldOf_cases hl with ⟨_, ha⟩ | ⟨n, h, _⟩
    · refine ⟨y', ?_, hrel.resolve_left hu⟩
      simp [asAddr, loadVar, aggOf_sim ha, hy']
    · cases h
  · rename_i heq hv; cases heq; cases hv
    split at hm <;> first | contradiction | skip
    rename_i i c hH
    split at hm <;> first | contradiction | skip
    rename_i hc
    cases hm
    cases hx with
    | ptr hφ =>
    rcases ldOf_cases hl with ⟨h, _⟩ | ⟨m, h, ha, hs⟩
    · cases h
    · cases h
      obtain ⟨ys, hrun, hrel⟩ := (hh.cells hφ hH).row (P := P) _ _ hc.1
      refine ⟨.agg ys.toArray, ?_, VRel.agg_of (hrel.toV hc.2)⟩
      simp [asAddr, loadVar, aggOf_sim ha, szOf_sim hs, hrun]

theorem resVs_sim (hh : HRel φ (hp H) w) {tmps : Array Value} (hT : TRel n φ T tmps) (g : ResultVar → Sem Value) (g1 : ∀ t, g (.tmp t) = pure (tmps.getD t undef)) (g2 : ∀ a t, g (.cell a t) = do loadVar t (← asAddr (tmps.getD a undef))) :
    ∀ {l : List ResultVar} {rs : List MRes} {vs : List Value}, cRes P l = some rs → resVs T H rs = some vs → ∃ ys, (l.mapM g).run P w = .ok ys w ∧ Rels (VRel φ) vs ys
  | [], rs, vs, h, hv => by
    simp only [cRes] at h; cases h
    simp only [resVs] at hv; cases hv
    exact ⟨[], by simp, .nil⟩
  | .tmp t :: l, rs, vs, h, hv => by
    simp only [cRes] at h
    obtain ⟨rs', h1, h2⟩ := Option.map_eq_some_iff.1 h
    subst h2
    simp only [resVs] at hv
    split at hv <;> first | contradiction | skip
    rename_i v1 vs1 e1 e2
    cases hv
    obtain ⟨ys, h3, h4⟩ := resVs_sim hh hT g g1 g2 h1 e2
    refine ⟨tmps.getD t undef :: ys, ?_, .cons (hT.get t v1 e1) h4⟩
    simp only [List.mapM_cons, g1, Sem.run_bind, Sem.run_pure, Result.andThen_ok, h3]
  | .cell t ty :: l, rs, vs, h, hv => by
    simp only [cRes] at h
    split at h <;> first | contradiction | skip
    rename_i z rs' hz h1
    cases h
    simp only [resVs] at hv
    split at hv <;> first | contradiction | skip
    rename_i v1 vs1 e1 e2
    cases hv
    obtain ⟨ys, h3, h4⟩ := resVs_sim hh hT g g1 g2 h1 e2
    simp only [resV] at e1
    split at e1 <;> first | contradiction | skip
    rename_i x hx
    obtain ⟨u, h5, h6⟩ := res_load (P := P) hz hh (hT.get t x hx) e1
    refine ⟨u :: ys, ?_, .cons h6 h4⟩
    rw [← g2] at h5
    simp only [List.mapM_cons, Sem.run_bind, Sem.run_pure, Result.andThen_ok, h3, h5]

theorem results_sim {fn : Func} {rs : List MRes} {v : Value} (h : cRes P fn.results.toList = some rs) (hh : HRel φ (hp H) w) {tmps : Array Value} (hT : TRel n φ T tmps) (hr : resOf T H rs = some v) :
    ∃ u, (results fn tmps).run P w = .ok u w ∧ VRel φ v u := by
  have he : fn.results = fn.results.toList.toArray := by simp
  unfold resOf at hr
  have main : ∀ vs, resVs T H rs = some vs → ∃ ys : List Value, (results fn tmps).run P w = .ok (if h : ys.toArray.size = 1 then ys.toArray[0] else .tuple ys.toArray) w ∧ Rels (VRel φ) vs ys := by
    intro vs hv
    unfold results
    rw [he, List.mapM_toArray]
    generalize hg : (fun (x : ResultVar) => (match x with | .tmp t => pure (tmps.getD t undef) | .cell a t => do loadVar t (← asAddr (tmps.getD a undef)) : Sem Value)) = g
    obtain ⟨ys, h1, h2⟩ := resVs_sim (P := P) hh hT g (fun t => by rw [← hg]) (fun a t => by rw [← hg]) h hv
    refine ⟨ys, ?_, h2⟩
    simp only [Sem.run_bind, Sem.run_map, h1, Result.andThen_ok, Sem.run_pure]
  split at hr <;> first | contradiction | skip
  · rename_i v0 h
    cases hr
    obtain ⟨ys, h1, h2⟩ := main _ h
    obtain ⟨y, hy, hx⟩ := rels1' h2
    subst hy
    exact ⟨y, h1, hx⟩
  · rename_i vs hne h
    cases hr
    obtain ⟨ys, h1, h2⟩ := main _ h
    have hlen := h2.length
    rw [dif_neg] at h1
    · exact ⟨_, h1, VRel.tuple_of h2⟩
    · intro h1
      simp at h1
      have : vs.length = 1 := by omega
      match vs, this with
      | [x], _ => exact hne x rfl

theorem cFn_sim (hmix : P.follows .mixedOrders = true) (hcall : CallOk P call) (ht : Tame call) (k : Nat) {f : FuncId} {fn : MFn} (hc : cFn P f = some fn.bare) {vs : List Value} {v : Value} (hm : mfn call k fn vs H = some (v, H')) {args : List Value} (hh : HRel φ (hp H) w) (hr : Rels (VRel φ) vs args) :
    Invokes P f args.toArray w fun u w' => ∃ φ', VRel φ' v u ∧ Step H.length φ (hp H) w φ' (hp H') w' := by
  unfold cFn at hc
  split at hc <;> first | contradiction | skip
  rename_i gf hf
  split at hc <;> first | contradiction | skip
  rename_i c hb
  split at hc
  · contradiction
  rename_i hname
  split at hc <;> first | contradiction | skip
  rename_i rs b hrs hcc
  have hc := Option.some.inj hc
  have e1 : rs = fn.results := congrArg MFn.results hc
  have e2 : b = fn.body.bare := congrArg MFn.body hc
  subst e1; subst e2
  unfold mfn at hm
  have main : ∀ (e : MExit) (T1 : Reg), mcode call k fn.body (initRegs 0 vs) H = some (e, T1, H') → resOf T1 H' fn.results = some v → (e = .normal ∨ e = .ret) → Invokes P f args.toArray w fun u w' => ∃ φ', VRel φ' v u ∧ Step H.length φ (hp H) w φ' (hp H') w' := by
    intro e T1 hm1 hres he
    refine .inl ⟨⟨gf, hf, by rw [hb]; rfl, by simpa using hname⟩, ?_⟩
    refine calls_of_wp hf hb (wp_mono (code_sim hmix hcall ht k c fn.body hcc { tmps := args.toArray ++ Array.replicate (gf.ntmps - args.toArray.size) undef, defers := [] } w φ _ _ _ _ _ (TRel.init hr) hh hm1) fun e' a' w' ⟨h1, h2, φ', h3, h4⟩ => ?_)
    subst h1
    obtain ⟨u, hrun, hv⟩ := results_sim (P := P) hrs h3.rel h4 hres
    rcases he with rfl | rfl
    · exact ⟨h2, _, hrun, _, rfl, φ', hv, h3⟩
    · exact ⟨h2, _, hrun, _, rfl, φ', hv, h3⟩
  split at hm
  · contradiction
  · rename_i e T1 H1 hne hm1
    split at hm <;> first | contradiction | skip
    rename_i v0 hres
    cases hm
    refine main e T1 hm1 hres ?_
    cases e with
    | normal => exact .inl rfl
    | ret => exact .inr rfl
    | exit id => exact absurd rfl (hne id)
  · contradiction

/-- A function's own model, given by hand. -/
structure IntrOk (P : Program) (f : FuncId) (s : List Value → MH → Option (Value × MH)) : Prop where
  sim : ∀ vs H r H', s vs H = some (r, H') → ∀ (φ : Ren) (w : World) (args : List Value), HRel φ (hp H) w → Rels (VRel φ) vs args → Invokes P f args.toArray w fun v w' => ∃ φ', VRel φ' r v ∧ Step H.length φ (hp H) w φ' (hp H') w'
  keeps : ∀ vs H r H', s vs H = some (r, H') → Keeps H H'

/-- The model's functions are the program's. -/
structure MapOk (P : Program) (mp : FuncId → Option MDef) : Prop where
  mixed : P.follows .mixedOrders = true
  code : ∀ f fn, mp f = some (.code fn) → cFn P f = some fn.bare
  intr : ∀ f s, mp f = some (.intr s) → IntrOk P f s

theorem mcall_ok {mp : FuncId → Option MDef} (h : MapOk P mp) : ∀ k, CallOk P (mcall mp k) ∧ Tame (mcall mp k)
  | 0 => ⟨fun f vs H r H' hm => by simp [mcall] at hm, ⟨fun f vs H r H' hm => by simp [mcall] at hm, fun f vs H r H' hm => by simp [mcall] at hm⟩⟩
  | k + 1 => by
    obtain ⟨hcall, ht⟩ := mcall_ok h k
    have keeps : ∀ f vs H r H', mcall mp (k + 1) f vs H = some (r, H') → Keeps H H' := by
      intro f vs H r H' hm
      simp only [mcall] at hm
      split at hm
      · rename_i fn hf
        unfold mfn at hm
        split at hm <;> first | contradiction | skip
        rename_i hm1
        split at hm <;> first | contradiction | skip
        cases hm
        exact mcode_keeps ht k _ hm1
      · rename_i s hf
        exact (h.intr f s hf).keeps _ _ _ _ hm
      · contradiction
    refine ⟨fun f vs H r H' hm φ w args hh hr => ?_, ⟨fun f vs H r H' hm => (keeps f vs H r H' hm).1, fun f vs H r H' hm => (keeps f vs H r H' hm).2⟩⟩
    simp only [mcall] at hm
    split at hm
    · rename_i fn hf
      exact cFn_sim h.mixed hcall ht k (h.code f fn hf) hm hh hr
    · rename_i s hf
      exact (h.intr f s hf).sim _ _ _ _ hm φ w args hh hr
    · contradiction
end
end Go.Mod

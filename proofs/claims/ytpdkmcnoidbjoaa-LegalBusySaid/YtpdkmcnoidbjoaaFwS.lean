/- A region whose order is drawn, III: one more operation. -/
import Derived.Test.YtpdkmcnoidbjoaaFwR
set_option linter.unusedVariables false
set_option linter.unusedSimpArgs false
namespace Go.Mod

theorem Step.congr {n : Nat} {φ φ' : Ren} {h h' h2 : Nat → Option MObj} {w w' : World} (st : Step n φ h w φ' h' w') (he : ∀ id pl, φ' id = some pl → h2 id = h' id) : Step n φ h w φ' h2 w' := by
  refine ⟨⟨fun id pl hφ => ?_, st.rel.lt, fun i j pi pj oi oj hi hj hoi hoj hmi hlj hb => ?_⟩, st.le, st.fr, fun id pl o' hφ ho hm hlt => ?_, st.fresh, st.dom⟩
  · obtain ⟨o, h1, h2⟩ := st.rel.obj id pl hφ
    exact ⟨o, (he id pl hφ).trans h1, h2⟩
  · exact st.rel.sep i j pi pj oi oj hi hj ((he i pi hi) ▸ hoi) ((he j pj hj) ▸ hoj) hmi hlj hb
  · exact st.new id pl o' hφ ((he id pl hφ) ▸ ho) hm hlt

/-- A step seen from heaps that know more. -/
theorem Step.lift {n : Nat} {φ φ' : Ren} {h h' k k' : Nat → Option MObj} {w w' : World} (st : Step n φ k w φ' k' w') (hr : HRel φ h w) (hd : ∀ id, k id = some .dead → k' id = some .dead)
    (hc : ∀ id pl, φ' id = some pl → ((φ id = some pl → k id = h id) ∧ k' id = h' id) ∨ (k id = some .dead ∧ h' id = h id ∧ φ id = some pl)) : Step n φ h w φ' h' w' := by
  have up : ∀ id pl o, φ id = some pl → k id = some o → o.live = true → h id = some o := by
    intro id pl o hφ ho hl
    rcases hc id pl (st.le id pl hφ) with ⟨h1, _⟩ | ⟨h1, _, _⟩
    · rw [← h1 hφ]; exact ho
    · rw [ho] at h1; cases h1; cases hl
  have ml : ∀ o : MObj, o.mut = true → o.live = true := by intro o; cases o <;> simp [MObj.mut, MObj.live]
  have sep : ∀ i pi oi, k i = some .dead → φ i = some pi → h i = some oi → oi.live = true → ∀ id0 pl0 o0, φ id0 = some pl0 → k id0 = some o0 → o0.mut = true → pl0.block = pi.block → False := by
    intro i pi oi hki hi hoi hl id0 pl0 o0 h0 hk0 hm0 hb
    have := hr.sep id0 i pl0 pi o0 oi h0 hi (up id0 pl0 o0 h0 hk0 (ml _ hm0)) hoi hm0 hl hb
    subst this
    rw [hki] at hk0; cases hk0; cases hm0
  refine ⟨⟨fun id pl hφ => ?_, st.rel.lt, fun i j pi pj oi oj hi hj hoi hoj hmi hlj hb => ?_⟩, st.le, ⟨st.fr.os, st.fr.tape, st.fr.output, st.fr.size, fun b hb hn => ?_⟩, fun id pl o' hφ ho hm hlt => ?_, fun id pl h1 h2 h3 => ?_, st.dom⟩
  · rcases hc id pl hφ with ⟨_, h1⟩ | ⟨h1, h2, h3⟩
    · obtain ⟨o, ho, hO⟩ := st.rel.obj id pl hφ
      exact ⟨o, h1 ▸ ho, hO⟩
    · obtain ⟨o, ho, hO⟩ := hr.obj id pl h3
      refine ⟨o, h2.trans ho, ?_⟩
      cases hlive : o.live with
      | false => cases o <;> first | (cases hlive; done) | trivial
      | true =>
        exact hO.mono st.le (st.fr.block _ (hr.lt id pl h3) fun id0 pl0 o0 h0 hk0 hm0 hb => sep id pl o h1 h3 ho hlive id0 pl0 o0 h0 hk0 hm0 hb)
  · rcases hc i pi hi with ⟨_, h1⟩ | ⟨h1, h2, h3⟩
    · rcases hc j pj hj with ⟨_, g1⟩ | ⟨g1, g2, g3⟩
      · exact st.rel.sep i j pi pj oi oj hi hj (h1.trans hoi) (g1.trans hoj) hmi hlj hb
      · obtain ⟨id0, pl0, o0, e1, e2, e3, e4⟩ := st.new i pi oi hi (h1.trans hoi) hmi (by rw [hb]; exact hr.lt j pj g3)
        exact (sep j pj oj g1 g3 (g2.symm.trans hoj) hlj id0 pl0 o0 e1 e2 e3 (e4.trans hb)).elim
    · rcases hc j pj hj with ⟨g0, g1⟩ | ⟨g1, g2, g3⟩
      · cases hφj : φ j with
        | none =>
          obtain ⟨id0, pl0, o0, e1, e2, e3, e4⟩ := st.fresh j pj hj hφj (by rw [← hb]; exact hr.lt i pi h3)
          exact (sep i pi oi h1 h3 (h2.symm.trans hoi) (ml _ hmi) id0 pl0 o0 e1 e2 e3 (e4.trans hb.symm)).elim
        | some q =>
          have : q = pj := by have := st.le j q hφj; rw [hj] at this; exact (Option.some.inj this).symm
          subst this
          obtain ⟨oj', ho', _⟩ := hr.obj j q hφj
          have hkj : k j = some oj' := (g0 hφj).trans ho'
          have hl' : oj'.live = true := by
            cases oj' <;> first | rfl | skip
            have := hd j hkj
            rw [g1, hoj] at this; cases this; cases hlj
          exact hr.sep i j pi q oi oj' h3 hφj (h2.symm.trans hoi) ho' hmi hl' hb
      · exact hr.sep i j pi pj oi oj h3 g3 (h2.symm.trans hoi) (g2.symm.trans hoj) hmi hlj hb
  · exact st.fr.block b hb fun id pl o hφ ho hm => hn id pl o hφ (up id pl o hφ ho (ml _ hm)) hm
  · rcases hc id pl hφ with ⟨_, h1⟩ | ⟨h1, h2, h3⟩
    · obtain ⟨id0, pl0, o0, e1, e2, e3, e4⟩ := st.new id pl o' hφ (h1.trans ho) hm hlt
      exact ⟨id0, pl0, o0, e1, up id0 pl0 o0 e1 e2 (ml _ e3), e3, e4⟩
    · exact ⟨id, pl, o', h3, h2.symm.trans ho, hm, rfl⟩
  · obtain ⟨id0, pl0, o0, e1, e2, e3, e4⟩ := st.fresh id pl h1 h2 h3
    exact ⟨id0, pl0, o0, e1, up id0 pl0 o0 e1 e2 (ml _ e3), e3, e4⟩

/-- A new object at an id that led nowhere. -/
theorem Step.put {n b : Nat} {φ : Ren} {h h' : Nat → Option MObj} {w : World} {pl : Place} {ob : MObj} {blk : Obj} (hr : HRel φ h w) (hn : n ≤ b) (hb : φ b = none) (hpl : pl.block = w.heap.size)
    (he : ∀ id p, φ id = some p → h' id = h id) (hob : h' b = some ob) (ho : ORel φ (w.alloc blk) pl ob) : Step n φ h w (φ.set b pl) h' (w.alloc blk) := by
  have hle : φ.le (φ.set b pl) := Ren.le_set pl hb
  have hblk : ∀ k, k < w.heap.size → (w.alloc blk).heap[k]? = w.heap[k]? := fun k hk => by
    show (w.heap.push _)[k]? = _; rw [Array.getElem?_push_lt hk, Array.getElem?_eq_getElem hk]
  have hsz : (w.alloc blk).heap.size = w.heap.size + 1 := by show (w.heap.push _).size = _; simp
  have old : ∀ id p, φ.set b pl id = some p → id ≠ b → φ id = some p := fun id p hp hne => by rw [Ren.set_ne _ _ hne] at hp; exact hp
  have new : ∀ p, φ.set b pl b = some p → p = pl := fun p hp => by rw [Ren.set_self] at hp; exact (Option.some.inj hp).symm
  refine ⟨⟨fun id p hφ => ?_, fun id p hφ => ?_, fun i j pi pj oi oj hi hj hoi hoj hmi hlj hbb => ?_⟩, hle, ⟨rfl, rfl, rfl, by omega, fun k hk _ => hblk k hk⟩, fun id p o' hφ ho' hm hlt => ?_, fun id p hφ hno hlt => ?_, fun id p hφ => ?_⟩
  · by_cases e : id = b
    · subst e; have := new p hφ; subst this
      exact ⟨ob, hob, ho.mono hle rfl⟩
    · have hφ' := old id p hφ e
      obtain ⟨o, h1, h2⟩ := hr.obj id p hφ'
      exact ⟨o, (he id p hφ').trans h1, h2.mono hle (hblk _ (hr.lt id p hφ'))⟩
  · by_cases e : id = b
    · subst e; have := new p hφ; subst this; omega
    · have := hr.lt id p (old id p hφ e); omega
  · by_cases ei : i = b
    · by_cases ej : j = b
      · rw [ei, ej]
      · subst ei; have := new pi hi; subst this
        have := hr.lt j pj (old j pj hj ej); omega
    · by_cases ej : j = b
      · subst ej; have := new pj hj; subst this
        have := hr.lt i pi (old i pi hi ei); omega
      · have hi' := old i pi hi ei
        have hj' := old j pj hj ej
        exact hr.sep i j pi pj oi oj hi' hj' ((he i pi hi') ▸ hoi) ((he j pj hj') ▸ hoj) hmi hlj hbb
  · by_cases e : id = b
    · subst e; have := new p hφ; subst this; omega
    · have hφ' := old id p hφ e
      exact ⟨id, p, o', hφ', (he id p hφ') ▸ ho', hm, rfl⟩
  · by_cases e : id = b
    · subst e; have := new p hφ; subst this; omega
    · have := old id p hφ e; rw [hno] at this; cases this
  · by_cases e : id = b
    · subst e; exact .inr ⟨hb, hn⟩
    · exact .inl (old id p hφ e)

section
variable {P : Program} {call : CallF} {n : Nat} {ops : Array Oper} {all : List MOper} {base : Nat} {S : Nat → Reg × MH} {anc : Nat → List Nat} {H : MH} {φ0 : Ren} {w0 : World} {ds : List Deferred}
variable {φ : Ren} {p : Nat} {listed : Array Bool} {a : Act} {w : World}

theorem Ctx.anc_lt (C : Ctx P call n ops all base S anc H) : ∀ (k i : Nat), i < k → ∀ o, ops[i]? = some o → ∀ j ∈ anc i, j < i
  | 0, i, h, _, _, _, _ => by omega
  | k + 1, i, hik, o, ho, j, hj => by
    rcases C.ancs i o ho j hj with h | ⟨e, he, hje⟩
    · exact C.back i o ho j h
    · have hlt := C.back i o ho e he
      have hes : e < ops.size := by have := (Array.getElem?_eq_some_iff.1 ho).1; omega
      have := Ctx.anc_lt C k e (by omega) _ (Array.getElem?_eq_getElem hes) j hje
      omega
theorem Ctx.anc_lt' (C : Ctx P call n ops all base S anc H) {i j : Nat} (hi : i < ops.size) (hj : j ∈ anc i) : j < i := C.anc_lt (i + 1) i (by omega) _ (Array.getElem?_eq_getElem hi) j hj
theorem Inv.ready_anc (C : Ctx P call n ops all base S anc H) (I : Inv P call n ops all base S H φ0 w0 ds φ p listed a w) {i : Nat} (hR : Ready ops listed i) : ∀ j ∈ anc i, listed.getD j false = true :=
  I.ancs_listed C (i + 1) i (Nat.lt_succ_self i) (ops.getD i default) (by simp [Array.getD_eq_getD_getElem?, Array.getElem?_eq_getElem hR.lt]) hR.dir

theorem Ctx.len_le (C : Ctx P call n ops all base S anc H) {i : Nat} (hi : i ≤ all.length) : base + nalloc all ≤ (S i).2.length := by
  have h1 := C.run.grows C.tame 0 i (by omega)
  rw [Nat.zero_add] at h1
  have h2 : (S 0).2.length = base + nalloc all := by rw [C.start]; simp [C.base_eq]
  omega

theorem kind_of_eff {m : MOper} (h : isEff m = true) : m.op.kind ≠ .alloc := by
  intro e; unfold isEff at h; rw [e] at h; cases h

/-- What one operation more comes to. -/
theorem Inv.next (C : Ctx P call n ops all base S anc H) (I : Inv P call n ops all base S H φ0 w0 ds φ p listed a w) {i0 : Nat} (hR : Ready ops listed i0) {m : MOper} {o : Oper} (hm : all[i0]? = some m) (ho : ops[i0]? = some o)
    {φ' : Ren} {p' : Nat} {w' : World} {u v' : Value} (hle : φ.le φ') (hT : (S (i0 + 1)).1 = mdst (S i0).1 m u) (hv : VRel φ' u v')
    (hst : Step base φ0 (Mod.hp H) w0 φ' (virt all base S p' fun i => (listed.setIfInBounds i0 true).getD i false = true) w')
    (hun : ∀ (i : Nat) mi, all[i]? = some mi → mi.op.kind = .alloc → i ≠ i0 → φ (allocAt all base i) = none → φ' (allocAt all base i) = none)
    (hp' : (isEff m = false ∧ p' = p) ∨ (isEff m = true ∧ p' = i0 + 1)) :
    Inv P call n ops all base S H φ0 w0 ds φ' p' (listed.setIfInBounds i0 true) (a.put o.dst v') w' := by
  have hi0 : i0 < listed.size := by rw [I.lsz]; exact hR.lt
  have hg : ∀ j, (listed.setIfInBounds i0 true).getD j false = true ↔ (j = i0 ∨ listed.getD j false = true) := fun j => by
    rw [getD_set hi0]
    by_cases h : i0 = j
    · subst h; simp
    · rw [if_neg h]; constructor
      · exact .inr
      · rintro (e | e)
        · exact absurd e.symm h
        · exact e
  have hC := C.comp i0 o m ho hm
  refine ⟨by simp [I.lsz], ?_, ?_, ?_, ?_, hst, ?_, ?_, ?_, ?_⟩
  · rcases hp' with ⟨_, e⟩ | ⟨_, e⟩
    · rw [e]; exact I.hp
    · rw [e]; exact hR.lt
  · intro i hi oi hoi e he
    rw [hg] at hi ⊢
    rcases hi with rfl | hi
    · have : oi = ops.getD i default := by simp [Array.getD_eq_getD_getElem?, hoi]
      exact .inr (hR.dir e (this ▸ he))
    · exact .inr (I.closed i hi oi hoi e he)
  · rcases hp' with ⟨_, e⟩ | ⟨h, e⟩
    · rw [e]
      rcases I.pos with h | ⟨q, mq, h1, h2, h3, h4⟩
      · exact .inl h
      · exact .inr ⟨q, mq, h1, h2, h3, (hg q).2 (.inr h4)⟩
    · exact .inr ⟨i0, m, e, hm, h, (hg i0).2 (.inl rfl)⟩
  · intro e me hme hee
    rw [hg]
    rcases hp' with ⟨h, ep⟩ | ⟨h, ep⟩
    · rw [ep, ← I.eff e me hme hee]
      constructor
      · rintro (rfl | h')
        · rw [hm] at hme; cases hme; rw [h] at hee; cases hee
        · exact h'
      · exact .inr
    · rw [ep]
      constructor
      · rintro (rfl | h')
        · omega
        · rcases Nat.lt_or_ge e (i0 + 1) with hlt | hge
          · exact hlt
          · have := C.ok i0 e m me (by omega) hm hme (.inr ⟨h, hee⟩)
            have hes : e < ops.size := by rw [← C.len]; exact (List.getElem?_eq_some_iff.1 hme).1
            exact absurd (I.anc_of C h' hes i0 this) hR.not
      · intro hlt
        by_cases ei : e = i0
        · exact .inl ei
        · exact .inr (I.ready_anc C hR e (C.ok e i0 me m (by omega) hme hm (.inr ⟨hee, h⟩)))
  · intro i mi hmi hk hn
    have hne : i ≠ i0 := fun e => hn ((hg i).2 (.inl e))
    exact hun i mi hmi hk hne (I.unm i mi hmi hk fun h => hn ((hg i).2 (.inr h)))
  · rcases o.dst with _ | d
    · exact I.tsz
    · simpa [Act.put] using I.tsz
  · intro t i hi hbef haft v hvv
    by_cases ht : m.dst = some t
    · -- the operation's own register
      have hw0 : writer all t i0 := ⟨m, hm, ht⟩
      have hlt : i0 < i := by
        rcases Nat.lt_or_ge i0 i with h | h
        · exact h
        · exact absurd ((hg i0).2 (.inl rfl)) (haft i0 h hw0)
      have hreg := C.run.reg (t := t) (v := v) (i0 + 1) (i - (i0 + 1)) (by omega) (fun q h1 h2 hwq => by
        obtain ⟨mq, hmq, hdq⟩ := hwq
        have hL := (hg q).1 (hbef q (by omega) ⟨mq, hmq, hdq⟩)
        rcases hL with e | hL
        · omega
        · have := C.ok i0 q m mq (by omega) hm hmq (.inl (by unfold clash; rw [ht]; simp [uses, hdq]))
          have hqs : q < ops.size := by rw [← C.len]; exact (List.getElem?_eq_some_iff.1 hmq).1
          exact hR.not (I.anc_of C hL hqs i0 this)) (by rw [show i0 + 1 + (i - (i0 + 1)) = i by omega]; exact hvv)
      rw [hT] at hreg
      unfold mdst at hreg
      rw [ht] at hreg
      have hreg := rget_rkill hreg
      rw [rget_rput, if_pos rfl] at hreg
      cases hreg
      have hd : o.dst = some t := by rw [← hC.dst]; exact ht
      have hn := hC.dn
      rw [hd] at hn ⊢
      simp only [cDst, decide_eq_true_eq] at hn
      simp only [Act.put, Array.getD_eq_getD_getElem?]
      rw [Array.getElem?_setIfInBounds_self_of_lt (by have := I.tsz; omega)]
      exact hv
    · have hnw : ∀ q, writer all t q → ((listed.setIfInBounds i0 true).getD q false = true ↔ listed.getD q false = true) := by
        intro q ⟨mq, hmq, hdq⟩
        rw [hg]
        constructor
        · rintro (rfl | h)
          · rw [hm] at hmq; cases hmq; exact absurd hdq ht
          · exact h
        · exact .inr
      have := I.regs t i hi (fun q hq hw => (hnw q hw).1 (hbef q hq hw)) (fun q hq hw h => haft q hq hw ((hnw q hw).2 h)) v hvv
      have heq : (a.put o.dst v').tmps.getD t undef = a.tmps.getD t undef := by
        have hd := hC.dst
        cases hod : o.dst with
        | none => rfl
        | some d =>
          simp only [Act.put, Array.getD_eq_getD_getElem?]
          rw [Array.getElem?_setIfInBounds_ne (fun h => ht (by rw [hd, hod, h]))]
      rw [heq]
      exact this.mono hle
  · rw [put_defers]; exact I.dfs

theorem early_set {p i0 : Nat} {m : MOper} (hm : all[i0]? = some m) (hi0 : i0 < listed.size) {id : Nat} (hne : m.op.kind = .alloc → id ≠ allocAt all base i0) : ∀ i, Early all base p (fun i => (listed.setIfInBounds i0 true).getD i false = true) id i ↔ Early all base p (fun i => listed.getD i false = true) id i := by
  intro i
  unfold Early
  simp only [getD_set hi0]
  constructor
  · rintro ⟨⟨mi, hmi, hk⟩, h2, h3, h4⟩
    refine ⟨⟨mi, hmi, hk⟩, ?_, h3, h4⟩
    split at h2
    · rename_i e; subst e
      rw [hm] at hmi; cases hmi
      exact absurd h4.symm (hne hk)
    · exact h2
  · rintro ⟨h1, h2, h3, h4⟩
    refine ⟨h1, ?_, h3, h4⟩
    split
    · rfl
    · exact h2
theorem virt_congr {p : Nat} {L L' : Nat → Prop} {id : Nat} (h : ∀ i, Early all base p L id i ↔ Early all base p L' id i) : virt all base S p L id = virt all base S p L' id := by
  by_cases hx : ∃ i, Early all base p L id i
  · obtain ⟨i, hi⟩ := hx
    rw [virt_early hi, virt_early ((h i).1 hi)]
  · rw [virt_else hx, virt_else (fun ⟨i, hi⟩ => hx ⟨i, (h i).2 hi⟩)]

end
end Go.Mod

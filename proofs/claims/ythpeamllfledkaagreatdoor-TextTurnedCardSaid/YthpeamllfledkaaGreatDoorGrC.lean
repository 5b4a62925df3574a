/- A region whose order is drawn, V: every order comes to what the text's order comes to. -/
import Derived.Test.YthpeamllfledkaaGreatDoorGrB
import Derived.Scope
import Derived.Carry
import Derived.OpenShut
import Derived.ProofKit
import Derived.Deep.Slices
import Derived.ChangeArms
import Derived.Lib.Overlaps
set_option linter.unusedVariables false
set_option linter.unusedSimpArgs false
namespace Go.Mod
variable [Glob]
set_option linter.unusedSectionVars false

section
variable {P : Program} {call : CallF} {n : Nat} {ops : Array Oper} {all : List MOper} {base : Nat} {S : Nat → Reg × MH} {anc : Nat → List Nat} {H : MH} {φ0 : Ren} {w0 : World} {ds : List Deferred}
variable {φ : Ren} {p : Nat} {listed : Array Bool} {a : Act} {w : World}

theorem ready_of {j : Nat} (hl : listed.size = ops.size) (h : j ∈ Region.ready .any ops listed) : Ready ops listed j := by
  obtain ⟨h0, o, ho, hd⟩ := mem_ready.1 h
  have hlt : j < ops.size := (Array.getElem?_eq_some_iff.1 ho).1
  refine ⟨hlt, ?_, fun e he => ?_⟩
  · have : j < listed.size := by omega
    simp [Array.getD_eq_getD_getElem?, Array.getElem?_eq_getElem this] at h0 ⊢
    exact h0
  · have : ops.getD j default = o := by simp [Array.getD_eq_getD_getElem?, ho]
    rw [this] at he
    unfold direct at he
    obtain ⟨x, hx, rfl⟩ := List.mem_map.1 he
    obtain ⟨hx1, hx2⟩ := List.mem_filter.1 hx
    exact hd x (by simpa using hx1) hx2

/-- Where nothing is ready, all is done. -/
theorem Ctx.all_listed (C : Ctx P call n ops all base S anc H) (hl : listed.size = ops.size) (h : Region.ready .any ops listed = []) : ∀ (k i : Nat), i < k → i < ops.size → listed.getD i false = true
  | 0, i, hik, _ => by omega
  | k + 1, i, hik, hi => by
    cases hL : listed.getD i false with
    | true => rfl
    | false =>
      have : i ∈ Region.ready .any ops listed := by
        refine mem_ready.2 ⟨?_, ops[i], Array.getElem?_eq_getElem hi, fun e he hb => ?_⟩
        · simp [Array.getD_eq_getD_getElem?, Array.getElem?_eq_getElem (show i < listed.size by omega)] at hL ⊢
          exact hL
        · have hd : e.on ∈ direct ops[i] := by
            unfold direct
            exact List.mem_map.2 ⟨e, List.mem_filter.2 ⟨by simpa using he, hb⟩, rfl⟩
          have hlt := C.back i ops[i] (Array.getElem?_eq_getElem hi) e.on hd
          exact Ctx.all_listed C hl h k e.on (by omega) (by omega)
      rw [h] at this; cases this

theorem countP_lt {f g : Nat → Bool} {i : Nat} : ∀ {l : List Nat}, i ∈ l → f i = true → g i = false → (∀ j, g j = true → f j = true) → l.countP g < l.countP f
  | [], h, _, _, _ => by cases h
  | x :: l, h, hf, hg, hi => by
    have hle : l.countP g ≤ l.countP f := List.countP_mono_left fun j _ => hi j
    rw [List.countP_cons, List.countP_cons]
    rcases List.mem_cons.1 h with rfl | h
    · simp [hf, hg]; omega
    · have := countP_lt h hf hg hi
      by_cases hx : g x = true
      · simp [hx, hi x hx]; exact this
      · simp [hx]; omega

def left (ops : Array Oper) (listed : Array Bool) : Nat := (List.range ops.size).countP fun i => !listed.getD i false

theorem left_zero {i : Nat} (h : left ops listed = 0) (hi : i < ops.size) : listed.getD i false = true := by
  unfold left at h
  rw [List.countP_eq_zero] at h
  have := h i (List.mem_range.2 hi)
  simpa using this

theorem any_sim (C : Ctx P call n ops all base S anc H) : ∀ (fuel t : Nat) (listed : Array Bool) (a : Act) (w : World) (φ : Ren) (p : Nat), left ops listed ≤ fuel → Inv P call n ops all base S H φ0 w0 ds φ p listed a w →
    OpsJ P ops (Region.linearise.go .any ops fuel t listed []) a w fun a' w' => ∃ φ' p' l', Inv P call n ops all base S H φ0 w0 ds φ' p' l' a' w' ∧ ∀ i, i < ops.size → l'.getD i false = true
  | 0, t, listed, a, w, φ, p, hf, I => by
    simp only [Region.linearise.go, List.reverse_nil]
    exact OpsJ.nil ⟨φ, p, listed, I, fun i hi => left_zero (by omega) hi⟩
  | fuel + 1, t, listed, a, w, φ, p, hf, I => by
    simp only [Region.linearise.go]
    change OpsJ P ops (match (Region.ready .any ops listed)[t % (Region.ready .any ops listed).length]? with
      | some i => Region.linearise.go .any ops fuel (t / (Region.ready .any ops listed).length) (listed.setIfInBounds i true) [i]
      | none => [].reverse) a w _
    cases hi : (Region.ready .any ops listed)[t % (Region.ready .any ops listed).length]? with
    | none =>
      have hnil : Region.ready .any ops listed = [] := by
        cases hr : Region.ready .any ops listed with
        | nil => rfl
        | cons x xs =>
          rw [hr] at hi
          have hlt : t % (x :: xs).length < (x :: xs).length := Nat.mod_lt _ (by simp)
          simp at hi
          simp at hlt
          omega
      simp only [List.reverse_nil]
      exact OpsJ.nil ⟨φ, p, listed, I, fun i hi => C.all_listed I.lsz hnil (i + 1) i (by omega) hi⟩
    | some i =>
      simp only []
      rw [linearise_go_acc, List.reverse_singleton, List.singleton_append]
      have hR := ready_of I.lsz (List.mem_of_getElem? hi)
      refine OpsJ.cons ((I.step C hR).mono fun a' w' ⟨φ', p', I'⟩ => any_sim C fuel _ _ a' w' φ' p' ?_ I')
      have hi0 : i < listed.size := by rw [I.lsz]; exact hR.lt
      have : left ops (listed.setIfInBounds i true) < left ops listed := by
        refine countP_lt (i := i) (List.mem_range.2 hR.lt) ?_ ?_ fun j hj => ?_
        · have := hR.not; simpa using this
        · rw [getD_set hi0]; simp
        · rw [getD_set hi0] at hj
          split at hj
          · cases hj
          · exact hj
      omega

/-- All done: the end of the text's run. -/
theorem Inv.post (C : Ctx P call n ops all base S anc H) (I : Inv P call n ops all base S H φ0 w0 ds φ p listed a w) (hall : ∀ i, i < ops.size → listed.getD i false = true) :
    Post n φ0 H w0 (S all.length).1 (S all.length).2 ds a w := by
  have hlen := C.len
  refine ⟨I.dfs, φ, ?_, I.tsz, fun t v hv => ?_⟩
  · rw [C.base_eq]
    refine I.st.congr fun id pl hφ => ?_
    have hno : ∀ q m', p ≤ q → q < all.length → all[q]? = some m' → isEff m' = false := fun q m' h1 h2 hm' => by
      cases hq : isEff m' with
      | false => rfl
      | true => have := (I.eff q m' hm' hq).1 (hall q (by omega)); omega
    by_cases hE : ∃ i, Early all base p (fun i => listed.getD i false = true) id i
    · obtain ⟨i, hEi⟩ := hE
      have hEi0 := hEi
      obtain ⟨⟨mi, hmi, hki⟩, hLi, hpi', hid⟩ := hEi
      rw [virt_early hEi0]
      have hil : i < all.length := (List.getElem?_eq_some_iff.1 hmi).1
      have := (C.run.heap (id := id) (i + 1) (all.length - (i + 1)) (by omega) (fun q m' h1 h2 hm' => ⟨hno q m' (by omega) (by omega) hm', fun hk' e => by
        have := alloc_inj hmi hki hm' hk' (hid.trans e.symm); omega⟩)).1
      rw [show i + 1 + (all.length - (i + 1)) = all.length by omega] at this
      exact this
    · rw [virt_else hE]
      have hp := I.hp
      have := (C.run.heap (id := id) p (all.length - p) (by omega) (fun q m' h1 h2 hm' => ⟨hno q m' (by omega) (by omega) hm', fun hk' e =>
        hE ⟨q, ⟨m', hm', hk'⟩, hall q (by have := (List.getElem?_eq_some_iff.1 hm').1; omega), h1, e⟩⟩)).1
      rw [show p + (all.length - p) = all.length by omega] at this
      exact this
  · exact I.regs t all.length (Nat.le_refl _) (fun q hq _ => hall q (by omega)) (fun q hq ⟨m, hm, _⟩ => by have := (List.getElem?_eq_some_iff.1 hm).1; omega) v hv

theorem Inv.start (C : Ctx P call n ops all base S anc H) (hh : HRel φ0 (Mod.hp H) w0) (hT : TRel n φ0 (S 0).1 a.tmps) : Inv P call n ops all base S H φ0 w0 a.defers φ0 0 (Array.replicate ops.size false) a w0 := by
  have hf : ∀ i, ¬ (Array.replicate ops.size false).getD i false = true := fun i h => by
    simp [Array.getD_eq_getD_getElem?, Array.getElem?_replicate] at h
    split at h <;> simp at h
  have hlt : ∀ id pl, φ0 id = some pl → id < base := fun id pl h => by
    obtain ⟨o, h1, _⟩ := hh.obj id pl h
    have := (List.getElem?_eq_some_iff.1 h1).1
    rw [← C.base_eq]; exact this
  refine ⟨by simp, Nat.zero_le _, fun i h => absurd h (hf i), .inl rfl, fun e m _ _ => ⟨fun h => absurd h (hf e), fun h => by omega⟩, ?_, fun i m hm hk _ => ?_, hT.size, fun t i hi hb _ v hv => ?_, rfl⟩
  · refine (Step.refl hh).congr fun id pl hφ => ?_
    rw [virt_else]
    · show (S 0).2[id]? = H[id]?
      rw [C.start, List.getElem?_append_left (by rw [C.base_eq]; exact hlt id pl hφ)]
    · rintro ⟨i, _, h, _⟩; exact hf i h
  · cases h : φ0 (allocAt all base i) with
    | none => rfl
    | some pl => have := hlt _ pl h; have := allocAt_ge all base i; omega
  · have := C.run.reg (t := t) (v := v) 0 i (by omega) (fun q _ h hw => hf q (hb q (by omega) hw)) (by rw [Nat.zero_add]; exact hv)
    exact hT.get t v this
end

/-! ### what the compiler's and the model's own checks say -/
theorem bytes_eq {a b : ByteArray} (h : (a == b) = true) : a = b := by
  rw [beq_toListBytes, beq_iff_eq, ByteArray.toList_eq, ByteArray.toList_eq] at h
  exact ByteArray.ext (Array.ext' h)
theorem veq_eq {x y : Value} (h : veq x y = true) : x = y := by
  unfold veq at h
  split at h
  case h_3 => rw [bytes_eq h]
  all_goals (try simp only [Bool.and_eq_true, beq_iff_eq] at h)
  all_goals first
    | rfl
    | (cases h; done)
    | (obtain ⟨⟨rfl, rfl⟩, rfl⟩ := h; rfl)
    | (obtain ⟨rfl, rfl⟩ := h; rfl)
    | (subst h; rfl)
theorem veqs_eq : ∀ {x y : List Value}, veqs x y = true → x = y
  | [], [], _ => rfl
  | [], _ :: _, h => by simp [veqs] at h
  | _ :: _, [], h => by simp [veqs] at h
  | x :: xs, y :: ys, h => by
    simp only [veqs, Bool.and_eq_true] at h
    rw [veq_eq h.1, veqs_eq h.2]
theorem veq1_eq {x y : Value} (h : veq1 x y = true) : x = y := by
  unfold veq1 at h
  split at h
  · rw [Array.ext' (veqs_eq h)]
  · rw [Array.ext' (veqs_eq h)]
  · exact veq_eq h
theorem veqo_eq {x y : Option Value} (h : veqo x y = true) : x = y := by
  unfold veqo at h
  split at h
  · rw [veq1_eq h]
  · cases h
theorem oeq_eq {x y : Option MObj} (h : oeq x y = true) : x = y := by
  unfold oeq at h
  split at h <;> first | rfl | (cases h; done) | skip
  simp only [Bool.and_eq_true, beq_iff_eq] at h
  rw [h.1, veqs_eq h.2]

theorem addAll_mem {j : Nat} : ∀ {xs acc : List Nat}, j ∈ addAll xs acc → j ∈ xs ∨ j ∈ acc
  | [], acc, h => .inr h
  | x :: xs, acc, h => by
    simp only [addAll] at h
    rcases addAll_mem h with h | h
    · exact .inl (List.mem_cons_of_mem _ h)
    · split at h
      · exact .inr h
      · rcases List.mem_cons.1 h with rfl | h
        · exact .inl (by simp)
        · exact .inr h
theorem foldl_mem {acc : List (List Nat)} {j : Nat} : ∀ {es l : List Nat}, j ∈ es.foldl (fun l e => addAll (e :: acc.getD e []) l) l → j ∈ l ∨ ∃ e ∈ es, j = e ∨ j ∈ acc.getD e []
  | [], l, h => .inl h
  | e :: es, l, h => by
    simp only [List.foldl] at h
    rcases foldl_mem h with h | ⟨e', he', h⟩
    · rcases addAll_mem h with h | h
      · rcases List.mem_cons.1 h with h | h
        · exact .inr ⟨e, by simp, .inl h⟩
        · exact .inr ⟨e, by simp, .inr h⟩
      · exact .inl h
    · exact .inr ⟨e', List.mem_cons_of_mem _ he', h⟩
theorem ancOf_mem {acc : List (List Nat)} {o : Oper} {j : Nat} (h : j ∈ ancOf acc o) : ∃ e ∈ direct o, j = e ∨ j ∈ acc.getD e [] := by
  rcases foldl_mem h with h | h
  · cases h
  · exact h
theorem ancs_spec : ∀ (l : List Oper) (acc : List (List Nat)), (∀ i, i < acc.length → (ancs l acc)[i]? = acc[i]?) ∧
    ∀ i o, l[i]? = some o → ∃ acc', (ancs l acc)[acc.length + i]? = some (ancOf acc' o) ∧ (∀ e, e < acc.length + i → acc'[e]? = (ancs l acc)[e]?)
  | [], acc => ⟨fun i _ => rfl, fun i o h => by simp at h⟩
  | o :: l, acc => by
    obtain ⟨h1, h2⟩ := ancs_spec l (acc ++ [ancOf acc o])
    simp only [ancs]
    have hl : (acc ++ [ancOf acc o]).length = acc.length + 1 := by simp
    refine ⟨fun i hi => ?_, fun i o' ho => ?_⟩
    · rw [h1 i (by omega), List.getElem?_append_left hi]
    · cases i with
      | zero =>
        simp at ho; subst ho
        refine ⟨acc, ?_, fun e he => ?_⟩
        · rw [h1 _ (by omega)]; simp
        · rw [h1 e (by omega), List.getElem?_append_left (by omega)]
      | succ i =>
        obtain ⟨acc', g1, g2⟩ := h2 i o' (by simpa using ho)
        rw [hl] at g1 g2
        exact ⟨acc', by rw [show acc.length + (i + 1) = acc.length + 1 + i by omega]; exact g1, fun e he => g2 e (by omega)⟩

theorem edgesBack_get : ∀ {l : List Oper} {k : Nat}, edgesBack k l = true → ∀ (i : Nat) o, l[i]? = some o → ∀ e ∈ direct o, e < k + i
  | [], k, _, i, o, h => by simp at h
  | x :: l, k, h, i, o, ho => by
    simp only [edgesBack, Bool.and_eq_true] at h
    cases i with
    | zero => simp at ho; subst ho; intro e he; simpa using List.all_eq_true.1 h.1 e he
    | succ i => intro e he; have := edgesBack_get h.2 i o (by simpa using ho) e he; omega
theorem okLater_get {anc : List (List Nat)} {i : Nat} {a : MOper} : ∀ {l : List MOper} {k : Nat}, okLater anc i a k l = true → ∀ (j : Nat) b, l[j]? = some b → okPair anc i a (k + j) b = true
  | [], k, _, j, b, h => by simp at h
  | x :: l, k, h, j, b, hb => by
    simp only [okLater, Bool.and_eq_true] at h
    cases j with
    | zero => simp at hb; subst hb; exact h.1
    | succ j => have := okLater_get h.2 j b (by simpa using hb); rwa [show k + 1 + j = k + (j + 1) by omega] at this
theorem okAll_get {anc : List (List Nat)} : ∀ {l : List MOper} {k : Nat}, okAll anc k l = true → ∀ (i j : Nat) a b, i < j → l[i]? = some a → l[j]? = some b → okPair anc (k + i) a (k + j) b = true
  | [], k, _, i, j, a, b, _, h, _ => by simp at h
  | x :: l, k, h, i, j, a, b, hij, ha, hb => by
    simp only [okAll, Bool.and_eq_true] at h
    cases i with
    | zero =>
      simp at ha; subst ha
      cases j with
      | zero => omega
      | succ j =>
        have := okLater_get h.1 j b (by simpa using hb)
        rwa [show k + 1 + j = k + (j + 1) by omega] at this
    | succ i =>
      cases j with
      | zero => omega
      | succ j =>
        have := okAll_get h.2 i j a b (by omega) (by simpa using ha) (by simpa using hb)
        rwa [show k + 1 + i = k + (i + 1) by omega, show k + 1 + j = k + (j + 1) by omega] at this
theorem pairs1_mem {anc : List (List Nat)} {i : Nat} {a : MOper} : ∀ {l : List MOper} {k : Nat} (j : Nat) (b : MOper), l[j]? = some b → isRA a = true → isEff b = true → i ≠ k + j → i ∉ anc.getD (k + j) [] → (k + j) ∉ anc.getD i [] → (i, k + j) ∈ pairs1 anc i a k l
  | [], k, j, b, h, _, _, _, _, _ => by simp at h
  | x :: l, k, j, b, hb, h1, h2, h3, h4, h5 => by
    simp only [pairs1]
    cases j with
    | zero =>
      simp at hb; subst hb
      rw [if_pos]
      · simp
      · simp only [Nat.add_zero] at h3 h4 h5
        simp only [h1, h2, Bool.and_eq_true, Bool.not_eq_true', bne_iff_ne, ne_eq, List.elem_eq_mem, decide_eq_false_iff_not]
        exact ⟨⟨⟨⟨trivial, trivial⟩, h3⟩, h4⟩, h5⟩
    | succ j =>
      have := pairs1_mem (anc := anc) (i := i) (a := a) (l := l) (k := k + 1) j b (by simpa using hb) h1 h2 (by omega) (by rw [show k + 1 + j = k + (j + 1) by omega]; exact h4) (by rw [show k + 1 + j = k + (j + 1) by omega]; exact h5)
      rw [show k + 1 + j = k + (j + 1) by omega] at this
      split
      · exact List.mem_cons_of_mem _ this
      · exact this
theorem pairsAll_mem {anc : List (List Nat)} {all : List MOper} : ∀ {l : List MOper} {k : Nat} (i j : Nat) (a b : MOper), l[i]? = some a → all[j]? = some b → isRA a = true → isEff b = true → k + i ≠ j → k + i ∉ anc.getD j [] → j ∉ anc.getD (k + i) [] → (k + i, j) ∈ pairsAll anc all k l
  | [], k, i, j, a, b, h, _, _, _, _, _, _ => by simp at h
  | x :: l, k, i, j, a, b, ha, hb, h1, h2, h3, h4, h5 => by
    simp only [pairsAll]
    cases i with
    | zero =>
      simp at ha; subst ha
      have := pairs1_mem (anc := anc) (i := k) (a := x) (l := all) (k := 0) j b hb h1 h2 (by omega) (by simpa using h4) (by simpa using h5)
      rw [Nat.zero_add] at this
      exact List.mem_append_left _ this
    | succ i =>
      have := pairsAll_mem (anc := anc) (all := all) (l := l) (k := k + 1) i j a b (by simpa using ha) hb h1 h2 (by omega) (by rw [show k + 1 + i = k + (i + 1) by omega]; exact h4) (by rw [show k + 1 + i = k + (i + 1) by omega]; exact h5)
      rw [show k + 1 + i = k + (i + 1) by omega] at this
      exact List.mem_append_right _ this

section
variable {P : Program} {call : CallF} {n : Nat} {ops : Array Oper} {a : Act} {w : World} {φ : Ren} {T T' : Reg} {H H' : MH} {l : List MOper} {ps : List (Nat × Nat)}

theorem argHas_mem {t : Nat} : ∀ {l : List Arg}, argHas l t = true → t ∈ argRegs l
  | .r u :: l, h => by
    simp only [argHas, Bool.or_eq_true, beq_iff_eq] at h
    rcases h with rfl | h
    · exact List.mem_cons_self ..
    · exact List.mem_cons_of_mem _ (argHas_mem h)
  | .k _ :: l, h => argHas_mem (l := l) (by simpa only [argHas] using h)
  | [], h => by cases h

def stateAt (T : Reg) (H : MH) (tr : List (Reg × MH)) (i : Nat) : Reg × MH := (tr[i]?).getD (T, H)

theorem draw_ctx (hcall : CallOk P call) (ht : Tame call) (hd : cDraw P n ops = some (l.map MOper.bare, ps)) (hm : mdraw call l ps T H = some (T', H')) :
    ∃ S anc, Ctx P call n ops l H.length S anc H ∧ (S 0).1 = T ∧ S l.length = (T', H') := by
  unfold cDraw at hd
  split at hd <;> first | contradiction | skip
  rename_i l0 hl0
  simp only [] at hd
  split at hd <;> first | contradiction | skip
  rename_i hchk
  have hd := Option.some.inj hd
  have e1 : l0 = l.map MOper.bare := congrArg Prod.fst hd
  have e2 : pairsAll (ancs ops.toList []) l0 0 l0 = ps := congrArg Prod.snd hd
  subst e1
  simp only [Bool.and_eq_true] at hchk
  obtain ⟨hback, hok⟩ := hchk
  obtain ⟨hlen, hcomp⟩ := comps_of hl0
  unfold mdraw at hm
  split at hm <;> first | contradiction | skip
  rename_i tr htr
  split at hm <;> first | contradiction | skip
  rename_i hpairs
  obtain ⟨g1, g2, g3⟩ := mtrace_run _ _ _ _ _ htr
  generalize hB : H ++ List.replicate (nalloc l) MObj.dead = B at *
  have hS : ∀ i x, tr[i]? = some x → stateAt T B tr i = x := fun i x h => by unfold stateAt; rw [h]; rfl
  obtain ⟨hs1, hs2⟩ := ancs_spec ops.toList []
  have bget : ∀ {i : Nat} {m : MOper}, l[i]? = some m → (l.map MOper.bare)[i]? = some m.bare := fun h => by simp [h]
  have trget : ∀ i, i ≤ l.length → ∃ x, tr[i]? = some x ∧ stateAt T B tr i = x := fun i hi => by
    have : i < tr.length := by omega
    exact ⟨_, List.getElem?_eq_getElem this, hS i _ (List.getElem?_eq_getElem this)⟩
  have ancD : ∀ (i : Nat) o, ops[i]? = some o → ∀ j ∈ (ancs ops.toList []).getD i [], ∃ e ∈ direct o, j = e ∨ j ∈ (ancs ops.toList []).getD e [] := by
    intro i o ho j hj
    obtain ⟨acc', h1, h2⟩ := hs2 i o (by simpa using ho)
    simp only [List.length_nil, Nat.zero_add] at h1 h2
    rw [List.getD_eq_getElem?_getD, h1] at hj
    obtain ⟨e, he, h⟩ := ancOf_mem hj
    refine ⟨e, he, h.imp id fun h => ?_⟩
    have hlt := edgesBack_get hback i o (by simpa using ho) e he
    rw [List.getD_eq_getElem?_getD, h2 e (by omega)] at h
    rw [List.getD_eq_getElem?_getD]; exact h
  refine ⟨stateAt T B tr, fun i => (ancs ops.toList []).getD i [], ⟨hcall, ht, hlen, hcomp, ⟨fun i m hmi => ?_⟩, fun i o ho e he => ?_, fun i o ho j hj => ?_, fun i j x y hij hx hy hc => ?_, ?_, ?_, rfl, ?_⟩, ?_, ?_⟩
  · obtain ⟨T1, H1, T2, H2, e1, e2, e3⟩ := g3 i m hmi
    rw [hS _ _ e1, hS _ _ e2]; exact e3
  · have := edgesBack_get hback i o (by simpa using ho) e he
    omega
  · obtain ⟨e, he, h⟩ := ancD i o ho j hj
    rcases h with rfl | h
    · exact .inl he
    · exact .inr ⟨e, he, h⟩
  · have := okAll_get hok i j x.bare y.bare hij (bget hx) (bget hy)
    simp only [Nat.zero_add] at this
    unfold okPair at this
    have hcc : (clash x.bare y.bare || (isEff x.bare && isEff y.bare)) = true := by
      rcases hc with h | ⟨h1, h2⟩
      · have : clash x.bare y.bare = true := h
        rw [this]; rfl
      · have e1 : isEff x.bare = true := h1
        have e2 : isEff y.bare = true := h2
        rw [e1, e2]; simp
    rw [hcc] at this
    simpa using this
  · intro i j x y vs v hx hy hk he hni hnj hw hvs hv
    have hne : i ≠ j := by
      rintro rfl; rw [hx] at hy; cases hy
      unfold isEff at he; rw [hk] at he; cases he
    have hmem := pairsAll_mem (anc := ancs ops.toList []) (all := l.map MOper.bare) (k := 0) i j x.bare y.bare (bget hx) (bget hy) (by have : x.bare.op.kind = .read := hk; unfold isRA; rw [this]) (he : isEff y = true) (by omega) (by simpa using hni) (by simpa using hnj)
    rw [e2, Nat.zero_add] at hmem
    have hpk := List.all_eq_true.1 hpairs _ hmem
    have hil : i < l.length := (List.getElem?_eq_some_iff.1 hx).1
    have hjl : j < l.length := (List.getElem?_eq_some_iff.1 hy).1
    obtain ⟨⟨Ti, Hi⟩, t1, s1⟩ := trget i (by omega)
    obtain ⟨⟨Tj, Hj⟩, t2, s2⟩ := trget j (by omega)
    obtain ⟨⟨Tk, Hk⟩, t3, s3⟩ := trget (j + 1) (by omega)
    rw [s1] at hw hvs hv
    rw [s2, s3]
    unfold pairOk at hpk
    simp only [hx, t1, t2, t3, hk, hw, hvs, Bool.and_eq_true, Bool.or_eq_true] at hpk
    simp only [] at hv
    rcases hpk with hpk | hpk
    · exact .inl ⟨(veqo_eq hpk.1).trans hv, (veqo_eq hpk.2).trans hv⟩
    · right
      unfold earlyOk at hpk
      obtain ⟨k, hkr, hk2⟩ := List.any_eq_true.1 hpk
      have hki : k < i := List.mem_range.1 hkr
      simp only [Bool.and_eq_true, decide_eq_true_eq] at hk2
      obtain ⟨⟨hjk, hfd⟩, hk2⟩ := hk2
      unfold feeds at hfd
      have hlk : k < l.length := by omega
      have hmk := List.getElem?_eq_getElem hlk
      simp only [hmk, hx, Bool.and_eq_true, decide_eq_true_eq] at hfd
      obtain ⟨⟨Tk1, Hk1⟩, t4, s4⟩ := trget (k + 1) (by omega)
      simp only [t4] at hk2
      split at hk2 <;> first | contradiction | skip
      rename_i ob hob
      refine ⟨k, _, ob, hjk, hki, hmk, hfd.1, ?_, by rw [s4]; exact hob, (veqo_eq hk2).trans hv⟩
      have hf2 := hfd.2
      unfold clash
      split at hf2 <;> first | contradiction | skip
      rename_i t ht
      try rw [ht]
      simp only [Bool.or_eq_true]
      left
      simp only [uses, List.elem_eq_mem, List.mem_append, decide_eq_true_eq]
      exact .inl (.inl (argHas_mem hf2))
  · intro i j x y hx hy hk he hij hni hnj
    have hmem := pairsAll_mem (anc := ancs ops.toList []) (all := l.map MOper.bare) (k := 0) i j x.bare y.bare (bget hx) (bget hy) (by have : x.bare.op.kind = .alloc := hk; unfold isRA; rw [this]) (he : isEff y = true) (by omega) (by simpa using hni) (by simpa using hnj)
    rw [e2, Nat.zero_add] at hmem
    have hpk := List.all_eq_true.1 hpairs _ hmem
    have hil : i < l.length := (List.getElem?_eq_some_iff.1 hx).1
    have hjl : j < l.length := (List.getElem?_eq_some_iff.1 hy).1
    obtain ⟨⟨Ti, Hi⟩, t1, s1⟩ := trget i (by omega)
    obtain ⟨⟨Ti', Hi'⟩, t1', s1'⟩ := trget (i + 1) (by omega)
    obtain ⟨⟨Tj, Hj⟩, t2, s2⟩ := trget j (by omega)
    obtain ⟨⟨Tk, Hk⟩, t3, s3⟩ := trget (j + 1) (by omega)
    rw [s1', s3]
    unfold pairOk at hpk
    simp only [hx, t1, t1', t2, t3, hk, hij, if_true, Bool.and_eq_true] at hpk
    exact oeq_eq hpk.1
  · rw [hS 0 _ g2]; exact hB.symm
  · rw [hS 0 _ g2]
  · rw [List.getLast?_eq_getElem?, g1] at hm
    exact hS _ _ (by simpa using hm)

theorem draw_sim (hcall : CallOk P call) (ht : Tame call) (hd : cDraw P n ops = some (l.map MOper.bare, ps)) (hm : mdraw call l ps T H = some (T', H')) (hT : TRel n φ T a.tmps) (hh : HRel φ (hp H) w) (t : Nat) :
    OpsJ P ops (Region.linearise .any ops t) a w (Post n φ H w T' H' a.defers) := by
  obtain ⟨S, anc, C, h0, h1⟩ := draw_ctx hcall ht hd hm
  have I := Inv.start C hh (by rw [h0]; exact hT)
  refine (any_sim C ops.size t _ a w φ 0 ?_ I).mono fun a' w' ⟨φ', p', l', I', hall⟩ => ?_
  · unfold left
    have := List.countP_le_length (p := fun i => !(Array.replicate ops.size false).getD i false) (l := List.range ops.size)
    simpa using this
  · have := I'.post C hall
    rw [h1] at this
    exact this

theorem mdraw_tame (ht : Tame call) (hm : mdraw call l ps T H = some (T', H')) : H.length ≤ H'.length ∧ ∀ (id : Nat), H[id]? = some MObj.dead → H'[id]? = some MObj.dead := by
  unfold mdraw at hm
  split at hm <;> first | contradiction | skip
  rename_i tr htr
  split at hm <;> first | contradiction | skip
  obtain ⟨g1, g2, g3⟩ := mtrace_run _ _ _ _ _ htr
  have hS : ∀ i x, tr[i]? = some x → stateAt T H tr i = x := fun i x h => by unfold stateAt; rw [h]; rfl
  have R : TextRun call l H.length (stateAt T H tr) := ⟨fun i m hmi => by
    obtain ⟨T1, H1, T2, H2, e1, e2, e3⟩ := g3 i m hmi
    rw [hS _ _ e1, hS _ _ e2]; exact e3⟩
  rw [List.getLast?_eq_getElem?, g1] at hm
  have hlast := hS _ _ (by simpa using hm)
  have hfirst := hS 0 _ g2
  have h1 := R.grows ht 0 l.length (by omega)
  rw [Nat.zero_add, hlast, hfirst] at h1
  refine ⟨by simp at h1; omega, fun id hd => ?_⟩
  have hlt := (List.getElem?_eq_some_iff.1 hd).1
  have h2 := R.dead ht (id := id) 0 l.length (by omega) (fun q m _ _ _ _ e => by have := allocAt_ge l H.length q; omega) (by rw [hfirst]; exact app_dead hd)
  rw [Nat.zero_add, hlast] at h2
  exact h2
end
end Go.Mod
/- Code, functions, calls. -/
set_option linter.unusedVariables false
set_option linter.unusedSimpArgs false
namespace Go.Mod
variable [Glob]
set_option linter.unusedSectionVars false

section
variable {P : Program} {call : CallF} {n : Nat} {a : Act} {w : World} {φ : Ren} {T T' : Reg} {H H' : MH}

def Ex : MExit → Exit
  | .normal => .normal
  | .exit id => .exit id
  | .ret => .ret

/-- How a piece of code ends. -/
def Ends (n : Nat) (φ : Ren) (H : MH) (w : World) (e : MExit) (T' : Reg) (H' : MH) (ds : List Deferred) : Exit → Act → World → Prop :=
  fun e' a' w' => e' = Ex e ∧ Post n φ H w T' H' ds a' w'

/-! ### the heap grows, what is dead stays so -/
def Keeps (H H' : MH) : Prop := H.length ≤ H'.length ∧ ∀ (id : Nat), H[id]? = some MObj.dead → H'[id]? = some MObj.dead
theorem Keeps.refl (H : MH) : Keeps H H := ⟨Nat.le_refl _, fun _ h => h⟩
theorem Keeps.trans {H H1 H2 : MH} (h : Keeps H H1) (g : Keeps H1 H2) : Keeps H H2 := ⟨Nat.le_trans h.1 g.1, fun id hd => g.2 id (h.2 id hd)⟩

theorem mstep_keeps (ht : Tame call) {m : MOper} (h : mstep call m T H none = some (T', H')) : Keeps H H' := by
  rcases stepIs h with ⟨_, _, hH⟩ | ⟨vs, v, _, _, ho, _⟩
  · rw [hH]; exact Keeps.refl _
  · exact mop_none ht ho
theorem mops_keeps (ht : Tame call) : ∀ {l : List MOper} {T : Reg} {H : MH}, mops call l T H = some (T', H') → Keeps H H'
  | [], T, H, h => by simp only [mops] at h; cases h; exact Keeps.refl _
  | m :: l, T, H, h => by
    simp only [mops] at h
    split at h <;> first | contradiction | skip
    rename_i T1 H1 h1
    exact (mstep_keeps ht h1).trans (mops_keeps ht h)
theorem mloop_keeps {f : Reg → MH → Option (MExit × Reg × MH)} (hf : ∀ T H e T' H', f T H = some (e, T', H') → Keeps H H') : ∀ (k : Nat) (T : Reg) (H : MH) {e : MExit}, mloop f k T H = some (e, T', H') → Keeps H H'
  | 0, T, H, e, h => by simp [mloop] at h
  | k + 1, T, H, e, h => by
    simp only [mloop] at h
    split at h
    · rename_i T1 H1 h1
      exact (hf _ _ _ _ _ h1).trans (mloop_keeps hf k T1 H1 h)
    · exact hf _ _ _ _ _ h
theorem mcode_keeps (ht : Tame call) (k : Nat) : ∀ (c : MCode) {e : MExit} {T T' : Reg} {H H' : MH}, mcode call k c T H = some (e, T', H') → Keeps H H'
  | .skip, e, T, T', H, H', h => by simp only [mcode] at h; cases h; exact Keeps.refl _
  | .exit id, e, T, T', H, H', h => by simp only [mcode] at h; cases h; exact Keeps.refl _
  | .ret, e, T, T', H, H', h => by simp only [mcode] at h; cases h; exact Keeps.refl _
  | .ops l, e, T, T', H, H', h => by
    simp only [mcode] at h
    split at h <;> first | contradiction | skip
    rename_i h1
    cases h
    exact mops_keeps ht h1
  | .draw l ps, e, T, T', H, H', h => by
    simp only [mcode] at h
    split at h <;> first | contradiction | skip
    rename_i h1
    cases h
    exact mdraw_tame ht h1
  | .seq x y, e, T, T', H, H', h => by
    simp only [mcode] at h
    split at h
    · rename_i h1
      exact (mcode_keeps ht k x h1).trans (mcode_keeps ht k y h)
    · exact mcode_keeps ht k x h
  | .cond c x y, e, T, T', H, H', h => by
    simp only [mcode] at h
    split at h <;> first | contradiction | skip
    · exact mcode_keeps ht k x h
    · exact mcode_keeps ht k y h
  | .block id c, e, T, T', H, H', h => by
    simp only [mcode] at h
    split at h
    · rename_i h1
      split at h <;> cases h <;> exact mcode_keeps ht k c h1
    · exact mcode_keeps ht k c h
  | .loop c, e, T, T', H, H', h => by
    simp only [mcode] at h
    exact mloop_keeps (fun T H e T' H' h => mcode_keeps ht k c h) k T H h

theorem Ends.trans {φ₁ : Ren} {H₁ H₂ : MH} {w₁ : World} {e : MExit} {T₂ : Reg} {ds : List Deferred} {e' : Exit} {a : Act} {w₂ : World} (st : Step H.length φ (hp H) w φ₁ (hp H₁) w₁) (hl : H.length ≤ H₁.length) (h : Ends n φ₁ H₁ w₁ e T₂ H₂ ds e' a w₂) :
    Ends n φ H w e T₂ H₂ ds e' a w₂ := ⟨h.1, h.2.trans st hl⟩

theorem wp_of_ops {ops : Array Oper} {l : List Nat} {Q : Act → World → Prop} {c : Code} {w0 : World} (h : OpsJ P ops l a w Q) (hs : ∀ (b : Frame) (k : List Item) (cs : List Frame), step P (lone (b.at a (.code c :: k)) cs w0) = .next (lone (b.at a (.inRegion ops l :: k)) cs w)) :
    c.wp P (fun e a w => e = .normal ∧ Q a w) a w0 := fun b k cs => by
  obtain ⟨a', w', hq, s⟩ := h b k cs
  exact ⟨.normal, a', w', ⟨rfl, hq⟩, .head (hs b k cs) (s.trans (.one step_region_end))⟩

theorem Step.drew {m : Nat} {w' : World} {φ' : Ren} {h' : Nat → Option MObj} (st : Step m φ (hp H) { w with drawn := w.drawn + 1 } φ' h' w') : Step m φ (hp H) w φ' h' w' :=
  ⟨st.rel, st.le, ⟨st.fr.os, st.fr.tape, st.fr.output, st.fr.size, st.fr.block⟩, st.new, st.fresh, st.dom⟩

theorem region_sim (hcall : CallOk P call) (ht : Tame call) {id : Nat} {ops : Array Oper} {l : List MOper} (hc : cOpers P n ops ops.toList = some (l.map MOper.bare)) (hm : mops call l T H = some (T', H')) (hT : TRel n φ T a.tmps) (hh : HRel φ (hp H) w) :
    (Code.region id ops false).wp P (Ends n φ H w .normal T' H' a.defers) a w := by
  obtain ⟨hlen, hcomp⟩ := comps_of hc
  have := mops_sim hcall (fun f vs H r H' h => ht.grows f vs H r H' h) hlen hcomp l 0 T H a w φ (by simp) hT hh hm
  rw [hlen] at this
  refine wp_mono (wp_of_ops this fun b k cs => ?_) fun e a' w' ⟨h1, h2⟩ => ⟨h1, h2⟩
  rw [← List.range_eq_range']; exact step_region
theorem region_draw_sim (hmix : P.follows .mixedOrders = true) (hcall : CallOk P call) (ht : Tame call) {id : Nat} {ops : Array Oper} {l : List MOper} {ps : List (Nat × Nat)} (hc : cDraw P n ops = some (l.map MOper.bare, ps)) (hm : mdraw call l ps T H = some (T', H')) (hT : TRel n φ T a.tmps) (hh : HRel φ (hp H) w) :
    (Code.region id ops true).wp P (Ends n φ H w .normal T' H' a.defers) a w := fun b k cs => by
  have := draw_sim (w := { w with drawn := w.drawn + 1 }) hcall ht hc hm hT hh.drew (w.tape w.drawn (.order b.fn id))
  obtain ⟨a', w', ⟨h1, φ', h2, h3⟩, s⟩ := this b k cs
  refine ⟨.normal, a', w', ⟨rfl, h1, φ', h2.drew, h3⟩, .head ?_ (s.trans (.one step_region_end))⟩
  have := step_region_draw (P := P) (b := b) (a := a) (k := k) (cs := cs) (w := w) (ops := ops) (id := id)
  rw [show Region.schedule (P.follows .mixedOrders) ops (w.tape w.drawn (.order b.fn id)) = Region.linearise .any ops (w.tape w.drawn (.order b.fn id)) by unfold Region.schedule; rw [hmix]; rfl] at this
  exact this

theorem code_sim (hmix : P.follows .mixedOrders = true) (hcall : CallOk P call) (ht : Tame call) (k : Nat) : ∀ (c : Code) (mc : MCode), cCode P n c = some mc.bare → ∀ (a : Act) (w : World) (φ : Ren) (T T' : Reg) (H H' : MH) (e : MExit), TRel n φ T a.tmps → HRel φ (hp H) w → mcode call k mc T H = some (e, T', H') →
    c.wp P (Ends n φ H w e T' H' a.defers) a w := by
  intro c
  induction c with
  | skip =>
    intro mc hc a w φ T T' H H' e hT hh hm
    simp only [cCode] at hc
    cases mc <;> simp [MCode.bare] at hc
    simp only [mcode] at hm; cases hm
    exact wp_skip ⟨rfl, rfl, φ, Step.refl hh, hT⟩
  | label l =>
    intro mc hc a w φ T T' H H' e hT hh hm
    simp only [cCode] at hc
    cases mc <;> simp [MCode.bare] at hc
    simp only [mcode] at hm; cases hm
    exact wp_label ⟨rfl, rfl, φ, Step.refl hh, hT⟩
  | region id ops draw =>
    intro mc hc a w φ T T' H H' e hT hh hm
    cases draw with
    | false =>
      simp only [cCode] at hc
      obtain ⟨l0, h1, h2⟩ := Option.map_eq_some_iff.1 hc
      cases mc <;> simp [MCode.bare] at h2
      subst h2
      simp only [mcode] at hm
      split at hm <;> first | contradiction | skip
      rename_i hm1
      cases hm
      exact region_sim hcall ht h1 hm1 hT hh
    | true =>
      simp only [cCode] at hc
      obtain ⟨l0, h1, h2⟩ := Option.map_eq_some_iff.1 hc
      cases mc <;> simp [MCode.bare] at h2
      obtain ⟨e1, e2⟩ := h2
      simp only [mcode] at hm
      split at hm <;> first | contradiction | skip
      rename_i hm1
      cases hm
      refine region_draw_sim hmix hcall ht ?_ hm1 hT hh
      rw [h1, ← e1, ← e2]
  | seq x y ihx ihy =>
    intro mc hc a w φ T T' H H' e hT hh hm
    simp only [cCode] at hc
    split at hc <;> first | contradiction | skip
    rename_i mx my hx hy
    cases mc <;> simp [MCode.bare] at hc
    rename_i m1 m2
    obtain ⟨e1, e2⟩ := hc
    subst e1; subst e2
    simp only [mcode] at hm
    split at hm
    · rename_i T1 H1 h1
      refine wp_seq (wp_mono (ihx m1 hx a w φ T T1 H H1 .normal hT hh h1) fun e' a1 w1 ⟨he, hd, φ1, st, hT1⟩ => ?_)
      subst he
      show y.wp P _ a1 w1
      refine wp_mono (ihy m2 hy a1 w1 φ1 T1 T' H1 H' e hT1 st.rel hm) fun e2 a2 w2 h2 => ?_
      rw [hd] at h2
      exact h2.trans st (mcode_keeps ht k m1 h1).1
    · rename_i hne
      refine wp_seq (wp_mono (ihx m1 hx a w φ T T' H H' e hT hh hm) fun e' a1 w1 h => ?_)
      have he := h.1
      cases e with
      | normal => exact absurd hm (hne T' H')
      | exit id => subst he; exact h
      | ret => subst he; exact h
  | cond c x y ihx ihy =>
    intro mc hc a w φ T T' H H' e hT hh hm
    simp only [cCode] at hc
    split at hc <;> first | contradiction | skip
    rename_i mcnd mx my hcnd hx hy
    cases mc <;> simp [MCode.bare] at hc
    rename_i m0 m1 m2
    obtain ⟨e0, e1, e2⟩ := hc
    subst e0; subst e1; subst e2
    simp only [mcode] at hm
    split at hm <;> first | contradiction | skip
    · rename_i hev
      have hv := arg_sim (a := a) hT hcnd hev
      generalize hX : a.eval c = x' at hv
      cases hv
      exact wp_cond_true hX (ihx m1 hx a w φ T T' H H' e hT hh hm)
    · rename_i hev
      have hv := arg_sim (a := a) hT hcnd hev
      generalize hX : a.eval c = x' at hv
      cases hv
      exact wp_cond_false hX (ihy m2 hy a w φ T T' H H' e hT hh hm)
  | block id c ih =>
    intro mc hc a w φ T T' H H' e hT hh hm
    simp only [cCode] at hc
    obtain ⟨m0, h1, h2⟩ := Option.map_eq_some_iff.1 hc
    cases mc <;> simp [MCode.bare] at h2
    rename_i id' m1
    obtain ⟨e1, e2⟩ := h2
    subst e1; subst e2
    simp only [mcode] at hm
    split at hm
    · rename_i idx T1 H1 h1'
      split at hm
      · rename_i heq
        cases hm
        refine wp_block (wp_mono (ih m1 h1 a w φ T T' H H' _ hT hh h1') fun e' a1 w1 h => ?_)
        have he := h.1
        subst he
        show Exit.inBlock id _ (.exit idx) a1 w1
        simp only [Exit.inBlock, if_pos heq]
        exact ⟨rfl, h.2⟩
      · rename_i hne
        cases hm
        refine wp_block (wp_mono (ih m1 h1 a w φ T T' H H' _ hT hh h1') fun e' a1 w1 h => ?_)
        have he := h.1
        subst he
        show Exit.inBlock id _ (.exit idx) a1 w1
        simp only [Exit.inBlock, if_neg hne]
        exact ⟨rfl, h.2⟩
    · rename_i hne
      refine wp_block (wp_mono (ih m1 h1 a w φ T T' H H' e hT hh hm) fun e' a1 w1 h => ?_)
      have he := h.1
      cases e with
      | normal => subst he; exact h
      | exit id' => exact absurd hm (hne id' T' H')
      | ret => subst he; exact h
  | loop c ih =>
    intro mc hc a w φ T T' H H' e hT hh hm
    simp only [cCode] at hc
    obtain ⟨m0, h1, h2⟩ := Option.map_eq_some_iff.1 hc
    cases mc <;> simp [MCode.bare] at h2
    rename_i m1
    subst h2
    simp only [mcode] at hm
    intro b kk cs
    have key : ∀ (j : Nat) (T : Reg) (H : MH) (a : Act) (w : World) (φ : Ren), TRel n φ T a.tmps → HRel φ (hp H) w → mloop (mcode call k m1) j T H = some (e, T', H') →
        ∃ e' a' w', Ends n φ H w e T' H' a.defers e' a' w' ∧ Arrives P (lone (b.at a (.code c :: .inLoop c :: kk)) cs w) b kk cs e' a' w' := by
      intro j
      induction j with
      | zero => intro T H a w φ _ _ h; simp [mloop] at h
      | succ j ihj =>
        intro T H a w φ hT hh h
        simp only [mloop] at h
        split at h
        · rename_i T1 H1 h1'
          obtain ⟨e1, a1, w1, ⟨he, hd, φ1, st, hT1⟩, harr⟩ := ih m1 h1 a w φ T T1 H H1 .normal hT hh h1' b (.inLoop c :: kk) cs
          subst he
          obtain ⟨e2, a2, w2, hq2, harr2⟩ := ihj T1 H1 a1 w1 φ1 hT1 st.rel h
          rw [hd] at hq2
          exact ⟨e2, a2, w2, hq2.trans st (mcode_keeps ht k m1 h1').1, .of_steps (Steps.trans harr (.one step_inLoop)) harr2⟩
        · rename_i hne
          obtain ⟨e1, a1, w1, hq, harr⟩ := ih m1 h1 a w φ T T' H H' e hT hh h b (.inLoop c :: kk) cs
          have he := hq.1
          cases e with
          | normal => exact absurd h (hne T' H')
          | exit id => subst he; exact ⟨_, a1, w1, hq, .pass (x := .inLoop c) rfl (fun _ _ => .inl (by simp [Ex])) harr⟩
          | ret => subst he; exact ⟨_, a1, w1, hq, .pass (x := .inLoop c) rfl (fun _ _ => .inl (by simp [Ex])) harr⟩
    obtain ⟨e', a', w', hq, harr⟩ := key k T H a w φ hT hh hm
    exact ⟨e', a', w', hq, .of_steps (.one step_loop) harr⟩
  | scope c ih =>
    intro mc hc a w φ T T' H H' e hT hh hm
    simp only [cCode] at hc
    refine wp_scope_straight (wp_mono (ih mc hc a w φ T T' H H' e hT hh hm) fun e' a1 w1 h => ?_)
    have he := h.1
    subst he
    cases e <;> exact h
  | exit id =>
    intro mc hc a w φ T T' H H' e hT hh hm
    simp only [cCode] at hc
    cases mc <;> simp [MCode.bare] at hc
    subst hc
    simp only [mcode] at hm; cases hm
    exact wp_exit ⟨rfl, rfl, φ, Step.refl hh, hT⟩
  | ret =>
    intro mc hc a w φ T T' H H' e hT hh hm
    simp only [cCode] at hc
    cases mc <;> simp [MCode.bare] at hc
    simp only [mcode] at hm; cases hm
    exact wp_ret ⟨rfl, rfl, φ, Step.refl hh, hT⟩
  | _ =>
    intro mc hc
    simp [cCode] at hc

/-! ### functions -/
theorem rget_init {vs : List Value} : ∀ {k t : Nat} {v : Value}, rget (initRegs k vs) t = some v → k ≤ t ∧ vs[t - k]? = some v := by
  induction vs with
  | nil => intro k t v h; simp [initRegs, rget] at h
  | cons x vs ih =>
    intro k t v h
    simp only [initRegs, rget] at h
    split at h
    · rename_i e; subst e; cases h; simp
    · obtain ⟨h1, h2⟩ := ih h
      refine ⟨by omega, ?_⟩
      rw [show t - k = (t - (k + 1)) + 1 by omega]
      simpa using h2

theorem TRel.init {vs args : List Value} (h : Rels (VRel φ) vs args) : TRel n φ (initRegs 0 vs) (args.toArray ++ Array.replicate (n - args.toArray.size) undef) := by
  refine ⟨by simp; omega, fun t v hv => ?_⟩
  obtain ⟨_, h2⟩ := rget_init hv
  obtain ⟨y, hy, hr⟩ := h.get _ _ h2
  have hlt : t < args.length := (List.getElem?_eq_some_iff.1 (by simpa using hy)).1
  rw [Array.getD_eq_getD_getElem?, Array.getElem?_append_left (by simpa using hlt)]
  have : args[t]? = some y := by simpa using hy
  simp [this]
  exact hr

theorem res_load {t : TypeId} {l : Option Nat} {x x' v : Value} (hl : ldOf P t = some l) (hh : HRel φ (hp H) w) (hx : VRel φ x x') (hm : mread (.ld l) [x] H = some v) :
    ∃ u, (do loadVar t (← asAddr x')).run P w = .ok u w ∧ VRel φ v u := by
  unfold mread at hm
  split at hm <;> first | contradiction | skip
  · rename_i heq hv; cases heq; cases hv
    split at hm <;> first | contradiction | skip
    rename_i i c hH
    split at hm <;> first | contradiction | skip
    rename_i y hy
    split at hm <;> first | contradiction | skip
    rename_i hu
    cases hm
    cases hx with
    | ptr hφ =>
    obtain ⟨y', hy', hrel⟩ := (hh.cells hφ hH).cell hy
    rcases ldOf_cases hl with ⟨_, ha⟩ | ⟨n, h, _⟩
    · refine ⟨y', ?_, hrel.resolve_left hu⟩
      simp [asAddr, loadVar, aggOf_sim ha, hy']
    · cases h
  · rename_i heq hv; cases heq; cases hv
    split at hm <;> first | contradiction | skip
    rename_i i c hH
    split at hm <;> first | contradiction | skip
    rename_i hc
    cases hm
    cases hx with
    | ptr hφ =>
    rcases ldOf_cases hl with ⟨h, _⟩ | ⟨m, h, ha, hs⟩
    · cases h
    · cases h
      obtain ⟨ys, hrun, hrel⟩ := (hh.cells hφ hH).row (P := P) _ _ hc.1
      refine ⟨.agg ys.toArray, ?_, VRel.agg_of (hrel.toV hc.2)⟩
      simp [asAddr, loadVar, aggOf_sim ha, szOf_sim hs, hrun]

theorem resVs_sim (hh : HRel φ (hp H) w) {tmps : Array Value} (hT : TRel n φ T tmps) (g : ResultVar → Sem Value) (g1 : ∀ t, g (.tmp t) = pure (tmps.getD t undef)) (g2 : ∀ a t, g (.cell a t) = do loadVar t (← asAddr (tmps.getD a undef))) :
    ∀ {l : List ResultVar} {rs : List MRes} {vs : List Value}, cRes P l = some rs → resVs T H rs = some vs → ∃ ys, (l.mapM g).run P w = .ok ys w ∧ Rels (VRel φ) vs ys
  | [], rs, vs, h, hv => by
    simp only [cRes] at h; cases h
    simp only [resVs] at hv; cases hv
    exact ⟨[], by simp, .nil⟩
  | .tmp t :: l, rs, vs, h, hv => by
    simp only [cRes] at h
    obtain ⟨rs', h1, h2⟩ := Option.map_eq_some_iff.1 h
    subst h2
    simp only [resVs] at hv
    split at hv <;> first | contradiction | skip
    rename_i v1 vs1 e1 e2
    cases hv
    obtain ⟨ys, h3, h4⟩ := resVs_sim hh hT g g1 g2 h1 e2
    refine ⟨tmps.getD t undef :: ys, ?_, .cons (hT.get t v1 e1) h4⟩
    simp only [List.mapM_cons, g1, Sem.run_bind, Sem.run_pure, Result.andThen_ok, h3]
  | .cell t ty :: l, rs, vs, h, hv => by
    simp only [cRes] at h
    split at h <;> first | contradiction | skip
    rename_i z rs' hz h1
    cases h
    simp only [resVs] at hv
    split at hv <;> first | contradiction | skip
    rename_i v1 vs1 e1 e2
    cases hv
    obtain ⟨ys, h3, h4⟩ := resVs_sim hh hT g g1 g2 h1 e2
    simp only [resV] at e1
    split at e1 <;> first | contradiction | skip
    rename_i x hx
    obtain ⟨u, h5, h6⟩ := res_load (P := P) hz hh (hT.get t x hx) e1
    refine ⟨u :: ys, ?_, .cons h6 h4⟩
    rw [← g2] at h5
    simp only [List.mapM_cons, Sem.run_bind, Sem.run_pure, Result.andThen_ok, h3, h5]

theorem results_sim {fn : Func} {rs : List MRes} {v : Value} (h : cRes P fn.results.toList = some rs) (hh : HRel φ (hp H) w) {tmps : Array Value} (hT : TRel n φ T tmps) (hr : resOf T H rs = some v) :
    ∃ u, (results fn tmps).run P w = .ok u w ∧ VRel φ v u := by
  have he : fn.results = fn.results.toList.toArray := by simp
  unfold resOf at hr
  have main : ∀ vs, resVs T H rs = some vs → ∃ ys : List Value, (results fn tmps).run P w = .ok (if h : ys.toArray.size = 1 then ys.toArray[0] else .tuple ys.toArray) w ∧ Rels (VRel φ) vs ys := by
    intro vs hv
    unfold results
    rw [he, List.mapM_toArray]
    generalize hg : (fun (x : ResultVar) => (match x with | .tmp t => pure (tmps.getD t undef) | .cell a t => do loadVar t (← asAddr (tmps.getD a undef)) : Sem Value)) = g
    obtain ⟨ys, h1, h2⟩ := resVs_sim (P := P) hh hT g (fun t => by rw [← hg]) (fun a t => by rw [← hg]) h hv
    refine ⟨ys, ?_, h2⟩
    simp only [Sem.run_bind, Sem.run_map, h1, Result.andThen_ok, Sem.run_pure]
  split at hr <;> first | contradiction | skip
  · rename_i v0 h
    cases hr
    obtain ⟨ys, h1, h2⟩ := main _ h
    obtain ⟨y, hy, hx⟩ := rels1' h2
    subst hy
    exact ⟨y, h1, hx⟩
  · rename_i vs hne h
    cases hr
    obtain ⟨ys, h1, h2⟩ := main _ h
    have hlen := h2.length
    rw [dif_neg] at h1
    · exact ⟨_, h1, VRel.tuple_of h2⟩
    · intro h1
      simp at h1
      have : vs.length = 1 := by omega
      match vs, this with
      | [x], _ => exact hne x rfl

theorem cFn_sim (hmix : P.follows .mixedOrders = true) (hcall : CallOk P call) (ht : Tame call) (k : Nat) {f : FuncId} {fn : MFn} (hc : cFn P f = some fn.bare) {vs : List Value} {v : Value} (hm : mfn call k fn vs H = some (v, H')) {args : List Value} (hh : HRel φ (hp H) w) (hr : Rels (VRel φ) vs args) :
    Invokes P f args.toArray w fun u w' => ∃ φ', VRel φ' v u ∧ Step H.length φ (hp H) w φ' (hp H') w' := by
  unfold cFn at hc
  split at hc <;> first | contradiction | skip
  rename_i gf hf
  split at hc <;> first | contradiction | skip
  rename_i c hb
  split at hc
  · contradiction
  rename_i hname
  split at hc <;> first | contradiction | skip
  rename_i rs b hrs hcc
  have hc := Option.some.inj hc
  have e1 : rs = fn.results := congrArg MFn.results hc
  have e2 : b = fn.body.bare := congrArg MFn.body hc
  subst e1; subst e2
  unfold mfn at hm
  have main : ∀ (e : MExit) (T1 : Reg), mcode call k fn.body (initRegs 0 vs) H = some (e, T1, H') → resOf T1 H' fn.results = some v → (e = .normal ∨ e = .ret) → Invokes P f args.toArray w fun u w' => ∃ φ', VRel φ' v u ∧ Step H.length φ (hp H) w φ' (hp H') w' := by
    intro e T1 hm1 hres he
    refine .inl ⟨⟨gf, hf, by rw [hb]; rfl, by simpa using hname⟩, ?_⟩
    refine calls_of_wp hf hb (wp_mono (code_sim hmix hcall ht k c fn.body hcc { tmps := args.toArray ++ Array.replicate (gf.ntmps - args.toArray.size) undef, defers := [] } w φ _ _ _ _ _ (TRel.init hr) hh hm1) fun e' a' w' ⟨h1, h2, φ', h3, h4⟩ => ?_)
    subst h1
    obtain ⟨u, hrun, hv⟩ := results_sim (P := P) hrs h3.rel h4 hres
    rcases he with rfl | rfl
    · exact ⟨h2, _, hrun, _, rfl, φ', hv, h3⟩
    · exact ⟨h2, _, hrun, _, rfl, φ', hv, h3⟩
  split at hm
  · contradiction
  · rename_i e T1 H1 hne hm1
    split at hm <;> first | contradiction | skip
    rename_i v0 hres
    cases hm
    refine main e T1 hm1 hres ?_
    cases e with
    | normal => exact .inl rfl
    | ret => exact .inr rfl
    | exit id => exact absurd rfl (hne id)
  · contradiction

/-- A function's own model, given by hand. -/
structure IntrOk (P : Program) (f : FuncId) (s : List Value → MH → Option (Value × MH)) : Prop where
  sim : ∀ vs H r H', s vs H = some (r, H') → ∀ (φ : Ren) (w : World) (args : List Value), HRel φ (hp H) w → Rels (VRel φ) vs args → Invokes P f args.toArray w fun v w' => ∃ φ', VRel φ' r v ∧ Step H.length φ (hp H) w φ' (hp H') w'
  keeps : ∀ vs H r H', s vs H = some (r, H') → Keeps H H'

/-- The model's functions are the program's. -/
structure MapOk (P : Program) (mp : FuncId → Option MDef) : Prop where
  mixed : P.follows .mixedOrders = true
  code : ∀ f fn, mp f = some (.code fn) → cFn P f = some fn.bare
  intr : ∀ f s, mp f = some (.intr s) → IntrOk P f s

theorem mcall_ok {mp : FuncId → Option MDef} (h : MapOk P mp) : ∀ k, CallOk P (mcall mp k) ∧ Tame (mcall mp k)
  | 0 => ⟨fun f vs H r H' hm => by simp [mcall] at hm, ⟨fun f vs H r H' hm => by simp [mcall] at hm, fun f vs H r H' hm => by simp [mcall] at hm⟩⟩
  | k + 1 => by
    obtain ⟨hcall, ht⟩ := mcall_ok h k
    have keeps : ∀ f vs H r H', mcall mp (k + 1) f vs H = some (r, H') → Keeps H H' := by
      intro f vs H r H' hm
      simp only [mcall] at hm
      split at hm
      · rename_i fn hf
        unfold mfn at hm
        split at hm <;> first | contradiction | skip
        rename_i hm1
        split at hm <;> first | contradiction | skip
        cases hm
        exact mcode_keeps ht k _ hm1
      · rename_i s hf
        exact (h.intr f s hf).keeps _ _ _ _ hm
      · contradiction
    refine ⟨fun f vs H r H' hm φ w args hh hr => ?_, ⟨fun f vs H r H' hm => (keeps f vs H r H' hm).1, fun f vs H r H' hm => (keeps f vs H r H' hm).2⟩⟩
    simp only [mcall] at hm
    split at hm
    · rename_i fn hf
      exact cFn_sim h.mixed hcall ht k (h.code f fn hf) hm hh hr
    · rename_i s hf
      exact (h.intr f s hf).sim _ _ _ _ hm φ w args hh hr
    · contradiction
end
end Go.Mod
/- Without fuel: what the model's functions come to, by equations. -/
set_option linter.unusedVariables false
set_option linter.unusedSimpArgs false
namespace Go.Mod

/-! ### limits -/
section
variable {α β : Type}
def Mono (f : Nat → Option α) : Prop := ∀ k k' x, k ≤ k' → f k = some x → f k' = some x
open Classical in
noncomputable def lim (f : Nat → Option α) : Option α := if h : ∃ k, (f k).isSome = true then f h.choose else none

theorem lim_iff {f : Nat → Option α} (hm : Mono f) {x : α} : lim f = some x ↔ ∃ k, f k = some x := by
  constructor
  · intro h
    unfold lim at h
    split at h
    · rename_i hx; exact ⟨_, h⟩
    · cases h
  · rintro ⟨k, hk⟩
    have hx : ∃ k, (f k).isSome = true := ⟨k, by rw [hk]; rfl⟩
    unfold lim
    rw [dif_pos hx]
    obtain ⟨y, hy⟩ := Option.isSome_iff_exists.1 hx.choose_spec
    have h1 := hm _ _ y (Nat.le_max_left hx.choose k) hy
    have h2 := hm _ _ x (Nat.le_max_right hx.choose k) hk
    rw [h1] at h2
    rw [hy, h2]
theorem opt_ext {a b : Option α} (h : ∀ x, a = some x ↔ b = some x) : a = b := by
  cases a with
  | none => cases b with
    | none => rfl
    | some y => have := (h y).2 rfl; cases this
  | some x => exact ((h x).1 rfl).symm
theorem mono_const (x : Option α) : Mono (fun _ => x) := fun _ _ _ _ h => h
theorem lim_const {x : Option α} : lim (fun _ => x) = x := opt_ext fun y => by rw [lim_iff (mono_const x)]; simp
theorem lim_bind {f : Nat → Option α} {g : Nat → α → Option β} (hf : Mono f) (hg : ∀ x, Mono fun k => g k x) : lim (fun k => (f k).bind (g k)) = (lim f).bind fun x => lim fun k => g k x := by
  have hm : Mono fun k => (f k).bind (g k) := fun k k' x hk h => by
    obtain ⟨y, h1, h2⟩ := Option.bind_eq_some_iff.1 h
    exact Option.bind_eq_some_iff.2 ⟨y, hf k k' y hk h1, hg y k k' x hk h2⟩
  refine opt_ext fun x => ?_
  rw [lim_iff hm, Option.bind_eq_some_iff]
  constructor
  · rintro ⟨k, h⟩
    obtain ⟨y, h1, h2⟩ := Option.bind_eq_some_iff.1 h
    exact ⟨y, (lim_iff hf).2 ⟨k, h1⟩, (lim_iff (hg y)).2 ⟨k, h2⟩⟩
  · rintro ⟨y, h1, h2⟩
    obtain ⟨k1, h1⟩ := (lim_iff hf).1 h1
    obtain ⟨k2, h2⟩ := (lim_iff (hg y)).1 h2
    exact ⟨max k1 k2, Option.bind_eq_some_iff.2 ⟨y, hf k1 _ y (Nat.le_max_left ..) h1, hg y k2 _ x (Nat.le_max_right ..) h2⟩⟩
theorem lim_map {f : Nat → Option α} {g : α → Option β} (hf : Mono f) : lim (fun k => (f k).bind g) = (lim f).bind g := by
  have := lim_bind (g := fun _ x => g x) hf (fun x => mono_const (g x))
  simp only [lim_const] at this
  exact this
theorem lim_succ {f : Nat → Option α} (hf : Mono f) : lim (fun k => f (k + 1)) = lim f := opt_ext fun x => by
  rw [lim_iff (fun k k' x hk h => hf _ _ x (by omega) h), lim_iff hf]
  exact ⟨fun ⟨k, h⟩ => ⟨k + 1, h⟩, fun ⟨k, h⟩ => ⟨k, hf _ _ x (by omega) h⟩⟩
end

/-! ### more fuel, same answer -/
def CallF.le (c d : CallF) : Prop := ∀ f vs H x, c f vs H = some x → d f vs H = some x

section
variable {c d : CallF}
theorem mop_mono (hcd : c.le d) {op : MOp} {vs : List Value} {H : MH} {b : Option Nat} {x : Value × MH} (h : mop c op vs H b = some x) : mop d op vs H b = some x := by
  unfold mop at h ⊢
  split <;> rename_i hk <;> simp only [hk] at h ⊢ <;> first | exact h | skip
  · split <;> first | exact hcd _ _ _ _ h | (simp at h)
  · split <;> first | exact hcd _ _ _ _ h | (simp at h)
theorem mstep_mono (hcd : c.le d) {m : MOper} {T : Reg} {H : MH} {b : Option Nat} {x : Reg × MH} (h : mstep c m T H b = some x) : mstep d m T H b = some x := by
  unfold mstep at h ⊢
  split at h <;> first | contradiction | exact h | skip
  split at h <;> first | contradiction | skip
  split at h <;> first | contradiction | skip
  rename_i h1
  rw [mop_mono hcd h1]; exact h
theorem mops_mono (hcd : c.le d) : ∀ {l : List MOper} {T : Reg} {H : MH} {x : Reg × MH}, mops c l T H = some x → mops d l T H = some x
  | [], T, H, x, h => h
  | m :: l, T, H, x, h => by
    simp only [mops] at h ⊢
    split at h <;> first | contradiction | skip
    rename_i h1
    rw [mstep_mono hcd h1]; exact mops_mono hcd h
theorem mtrace_mono (hcd : c.le d) : ∀ {l : List MOper} {b : Nat} {T : Reg} {H : MH} {x : List (Reg × MH)}, mtrace c l b T H = some x → mtrace d l b T H = some x
  | [], b, T, H, x, h => h
  | m :: l, b, T, H, x, h => by
    simp only [mtrace] at h ⊢
    split at h <;> first | contradiction | skip
    rename_i h1
    rw [mstep_mono hcd h1]
    simp only []
    split at h <;> first | contradiction | skip
    rename_i h2
    rw [mtrace_mono hcd h2]; exact h
theorem mdraw_mono (hcd : c.le d) {l : List MOper} {ps : List (Nat × Nat)} {T : Reg} {H : MH} {x : Reg × MH} (h : mdraw c l ps T H = some x) : mdraw d l ps T H = some x := by
  unfold mdraw at h ⊢
  split at h <;> first | contradiction | skip
  rename_i h1
  rw [mtrace_mono hcd h1]; exact h
theorem mloop_mono {f g : Reg → MH → Option (MExit × Reg × MH)} (hfg : ∀ T H x, f T H = some x → g T H = some x) : ∀ {k k' : Nat} {T : Reg} {H : MH} {x : MExit × Reg × MH}, k ≤ k' → mloop f k T H = some x → mloop g k' T H = some x
  | 0, k', T, H, x, _, h => by simp [mloop] at h
  | k + 1, 0, T, H, x, hk, h => by omega
  | k + 1, k' + 1, T, H, x, hk, h => by
    simp only [mloop] at h ⊢
    split at h
    · rename_i h1
      rw [hfg _ _ _ h1]
      exact mloop_mono hfg (by omega) h
    · rename_i hne
      rw [hfg _ _ _ h]
      obtain ⟨e, T1, H1⟩ := x
      cases e <;> first | rfl | (exact absurd h (hne _ _))
theorem mcode_mono (hcd : c.le d) {k k' : Nat} (hk : k ≤ k') : ∀ {m : MCode} {T : Reg} {H : MH} {x : MExit × Reg × MH}, mcode c k m T H = some x → mcode d k' m T H = some x
  | .skip, T, H, x, h => h
  | .exit id, T, H, x, h => h
  | .ret, T, H, x, h => h
  | .ops l, T, H, x, h => by
    simp only [mcode] at h ⊢
    split at h <;> first | contradiction | skip
    rename_i h1
    rw [mops_mono hcd h1]; exact h
  | .draw l ps, T, H, x, h => by
    simp only [mcode] at h ⊢
    split at h <;> first | contradiction | skip
    rename_i h1
    rw [mdraw_mono hcd h1]; exact h
  | .seq a b, T, H, x, h => by
    simp only [mcode] at h ⊢
    split at h
    · rename_i h1
      rw [mcode_mono hcd hk h1]; exact mcode_mono hcd hk h
    · rename_i hne
      rw [mcode_mono hcd hk h]
      obtain ⟨e, T1, H1⟩ := x
      cases e <;> first | rfl | (exact absurd h (hne _ _))
  | .cond b y z, T, H, x, h => by
    simp only [mcode] at h ⊢
    split at h <;> first | contradiction | exact mcode_mono hcd hk h
  | .block id a, T, H, x, h => by
    simp only [mcode] at h ⊢
    split at h
    · rename_i h1
      rw [mcode_mono hcd hk h1]; exact h
    · rename_i hne
      rw [mcode_mono hcd hk h]
      obtain ⟨e, T1, H1⟩ := x
      cases e <;> first | rfl | (exact absurd h (hne _ _ _))
  | .loop a, T, H, x, h => by
    simp only [mcode] at h ⊢
    exact mloop_mono (fun T H x h => mcode_mono hcd hk h) hk h
theorem mfn_mono (hcd : c.le d) {k k' : Nat} (hk : k ≤ k') {f : MFn} {vs : List Value} {H : MH} {x : Value × MH} (h : mfn c k f vs H = some x) : mfn d k' f vs H = some x := by
  unfold mfn at h ⊢
  split at h <;> first | contradiction | skip
  · rename_i e T1 H1 hne h1
    rw [mcode_mono hcd hk h1]
    revert h
    generalize hy : (some (_, _, _) : Option (MExit × Reg × MH)) = y
    intro h
    cases e <;> first | exact absurd rfl (hne _) | (subst hy; exact h)
end

theorem mcall_le (mp : FuncId → Option MDef) : ∀ k, (mcall mp k).le (mcall mp (k + 1))
  | 0 => fun f vs H x h => by simp [mcall] at h
  | k + 1 => fun f vs H x h => by
    rw [mcall] at h ⊢
    split
    · rename_i fn hf
      simp only [hf] at h
      exact mfn_mono (mcall_le mp k) (Nat.le_succ k) h
    · rename_i s hf
      simp only [hf] at h
      exact h
    · rename_i hf
      simp [hf] at h
theorem mcall_mono (mp : FuncId → Option MDef) {k k' : Nat} (hk : k ≤ k') : (mcall mp k).le (mcall mp k') := by
  induction hk with
  | refl => exact fun _ _ _ _ h => h
  | step _ ih => exact fun f vs H x h => mcall_le mp _ f vs H x (ih f vs H x h)

/-! ### the limits -/
section
variable (mp : FuncId → Option MDef)
noncomputable def R : CallF := fun f vs H => lim fun k => mcall mp k f vs H
noncomputable def Rc (c : MCode) (T : Reg) (H : MH) : Option (MExit × Reg × MH) := lim fun k => mcode (mcall mp k) k c T H

variable {mp}
theorem mono_call (f : FuncId) (vs : List Value) (H : MH) : Mono fun k => mcall mp k f vs H := fun _ _ x hk h => mcall_mono mp hk _ _ _ _ h
theorem mono_code (c : MCode) (T : Reg) (H : MH) : Mono fun k => mcode (mcall mp k) k c T H := fun _ _ x hk h => mcode_mono (mcall_mono mp hk) hk h
theorem mono_step (m : MOper) (T : Reg) (H : MH) (b : Option Nat) : Mono fun k => mstep (mcall mp k) m T H b := fun _ _ x hk h => mstep_mono (mcall_mono mp hk) h
theorem mono_ops (l : List MOper) (T : Reg) (H : MH) : Mono fun k => mops (mcall mp k) l T H := fun _ _ x hk h => mops_mono (mcall_mono mp hk) h
theorem mono_trace (l : List MOper) (b : Nat) (T : Reg) (H : MH) : Mono fun k => mtrace (mcall mp k) l b T H := fun _ _ x hk h => mtrace_mono (mcall_mono mp hk) h

theorem lim_step (m : MOper) (T : Reg) (H : MH) (b : Option Nat) : lim (fun k => mstep (mcall mp k) m T H b) = mstep (R mp) m T H b := by
  refine opt_ext fun x => ?_
  rw [lim_iff (mono_step m T H b)]
  constructor
  · rintro ⟨k, h⟩
    exact mstep_mono (fun f vs H x h => (lim_iff (mono_call f vs H)).2 ⟨k, h⟩) h
  · intro h
    unfold mstep at h
    split at h
    · rename_i hw
      split at h <;> first | contradiction | skip
      rename_i vs he
      split at h <;> first | contradiction | skip
      rename_i v H' ho
      have : ∃ k, mop (mcall mp k) m.op vs H b = some (v, H') := by
        unfold mop at ho ⊢
        cases hk : m.op.kind <;> simp only [hk] at ho ⊢ <;> first | exact ⟨0, ho⟩ | skip
        · split at ho <;> first | contradiction | skip
          exact (lim_iff (mono_call _ _ _)).1 ho
        · split at ho <;> first | contradiction | skip
          exact (lim_iff (mono_call _ _ _)).1 ho
      obtain ⟨k, hk⟩ := this
      refine ⟨k, ?_⟩
      unfold mstep
      simp only [hw, he, hk]
      exact h
    · rename_i hw
      refine ⟨0, ?_⟩
      unfold mstep
      simp only [hw]
      exact h
    · contradiction

theorem lim_ops : ∀ (l : List MOper) (T : Reg) (H : MH), lim (fun k => mops (mcall mp k) l T H) = mops (R mp) l T H
  | [], T, H => lim_const
  | m :: l, T, H => by
    have h1 : (fun k => mops (mcall mp k) (m :: l) T H) = fun k => (mstep (mcall mp k) m T H none).bind fun x => mops (mcall mp k) l x.1 x.2 := by
      funext k; simp only [mops]; cases mstep (mcall mp k) m T H none <;> rfl
    rw [h1, lim_bind (mono_step m T H none) (fun x => mono_ops l x.1 x.2), lim_step]
    simp only [mops]
    cases mstep (R mp) m T H none with
    | none => rfl
    | some x => exact lim_ops l x.1 x.2
theorem lim_trace : ∀ (l : List MOper) (b : Nat) (T : Reg) (H : MH), lim (fun k => mtrace (mcall mp k) l b T H) = mtrace (R mp) l b T H
  | [], b, T, H => lim_const
  | m :: l, b, T, H => by
    have h1 : (fun k => mtrace (mcall mp k) (m :: l) b T H) = fun k => (mstep (mcall mp k) m T H (if m.op.kind = .alloc then some b else none)).bind fun x => (mtrace (mcall mp k) l (if m.op.kind = .alloc then b + 1 else b) x.1 x.2).bind fun tr => some ((T, H) :: tr) := by
      funext k
      simp only [mtrace]
      cases mstep (mcall mp k) m T H (if m.op.kind = .alloc then some b else none) with
      | none => rfl
      | some x =>
        show (match mtrace (mcall mp k) l (if m.op.kind = .alloc then b + 1 else b) x.1 x.2 with | some tr => some ((T, H) :: tr) | none => none) = _
        simp only [Option.bind_some]
        cases mtrace (mcall mp k) l (if m.op.kind = .alloc then b + 1 else b) x.1 x.2 <;> rfl
    rw [h1, lim_bind (mono_step m T H _) (fun x k k' y hk h => by
      obtain ⟨tr, g1, g2⟩ := Option.bind_eq_some_iff.1 h
      exact Option.bind_eq_some_iff.2 ⟨tr, mono_trace l _ x.1 x.2 k k' tr hk g1, g2⟩), lim_step]
    simp only [mtrace]
    cases mstep (R mp) m T H (if m.op.kind = .alloc then some b else none) with
    | none => rfl
    | some x =>
      show lim (fun k => (mtrace (mcall mp k) l (if m.op.kind = .alloc then b + 1 else b) x.1 x.2).bind fun tr => some ((T, H) :: tr)) = match mtrace (R mp) l (if m.op.kind = .alloc then b + 1 else b) x.1 x.2 with | some tr => some ((T, H) :: tr) | none => none
      rw [lim_map (mono_trace l _ x.1 x.2), lim_trace]
      cases mtrace (R mp) l (if m.op.kind = .alloc then b + 1 else b) x.1 x.2 with
      | none => rfl
      | some tr => rfl
theorem lim_draw (l : List MOper) (ps : List (Nat × Nat)) (T : Reg) (H : MH) : lim (fun k => mdraw (mcall mp k) l ps T H) = mdraw (R mp) l ps T H := by
  have h1 : (fun k => mdraw (mcall mp k) l ps T H) = fun k => (mtrace (mcall mp k) l H.length T (H ++ List.replicate (nalloc l) .dead)).bind fun tr => if ps.all (pairOk l H.length tr) then tr.getLast? else none := by
    funext k; unfold mdraw
    cases mtrace (mcall mp k) l H.length T (H ++ List.replicate (nalloc l) .dead) <;> rfl
  rw [h1, lim_map (mono_trace l _ _ _), lim_trace]
  unfold mdraw
  cases mtrace (R mp) l H.length T (H ++ List.replicate (nalloc l) .dead) with
  | none => rfl
  | some tr => rfl

variable {T : Reg} {H : MH}
theorem Rc_skip : Rc mp .skip T H = some (.normal, T, H) := lim_const
theorem Rc_exit {id : Nat} : Rc mp (.exit id) T H = some (.exit id, T, H) := lim_const
theorem Rc_ret : Rc mp .ret T H = some (.ret, T, H) := lim_const
/-- How a row of operations ends. -/
def thenN (x : Option (Reg × MH)) : Option (MExit × Reg × MH) := match x with
  | some (T', H') => some (.normal, T', H')
  | none => none
theorem Rc_ops {l : List MOper} : Rc mp (.ops l) T H = thenN (mops (R mp) l T H) := by
  unfold Rc
  have h1 : (fun k => mcode (mcall mp k) k (.ops l) T H) = fun k => (mops (mcall mp k) l T H).bind fun x => some (.normal, x.1, x.2) := by
    funext k; simp only [mcode]; cases mops (mcall mp k) l T H <;> rfl
  rw [h1, lim_map (mono_ops l T H), lim_ops]
  cases mops (R mp) l T H with
  | none => rfl
  | some x => rfl
theorem Rc_draw {l : List MOper} {ps : List (Nat × Nat)} : Rc mp (.draw l ps) T H = thenN (mdraw (R mp) l ps T H) := by
  unfold Rc
  have h1 : (fun k => mcode (mcall mp k) k (.draw l ps) T H) = fun k => (mdraw (mcall mp k) l ps T H).bind fun x => some (.normal, x.1, x.2) := by
    funext k; simp only [mcode]; cases mdraw (mcall mp k) l ps T H <;> rfl
  rw [h1, lim_map (fun k k' x hk h => mdraw_mono (mcall_mono mp hk) h), lim_draw]
  cases mdraw (R mp) l ps T H with
  | none => rfl
  | some x => rfl
/-- One piece behind another. -/
def andThen (x : Option (MExit × Reg × MH)) (g : Reg → MH → Option (MExit × Reg × MH)) : Option (MExit × Reg × MH) := match x with
  | some (.normal, T', H') => g T' H'
  | r => r
theorem lim_then {f : Nat → Option (MExit × Reg × MH)} {g : Nat → Reg → MH → Option (MExit × Reg × MH)} (hf : Mono f) (hg : ∀ T H, Mono fun k => g k T H) : lim (fun k => andThen (f k) (g k)) = andThen (lim f) fun T H => lim fun k => g k T H := by
  have h1 : ∀ (x : Option (MExit × Reg × MH)) g, andThen x g = x.bind fun y => match y with | (.normal, T', H') => g T' H' | r => some r := by
    intro x g; cases x with
    | none => rfl
    | some y => obtain ⟨e, T', H'⟩ := y; cases e <;> rfl
  simp only [h1]
  rw [lim_bind hf (fun x k k' y hk h => by obtain ⟨e, T', H'⟩ := x; cases e <;> first | exact hg T' H' k k' y hk h | exact h)]
  congr 1
  funext x
  obtain ⟨e, T', H'⟩ := x
  cases e <;> first | rfl | exact lim_const
theorem then_mono {x x' : Option (MExit × Reg × MH)} {g g' : Reg → MH → Option (MExit × Reg × MH)} {y : MExit × Reg × MH} (h : andThen x g = some y) (hx : ∀ z, x = some z → x' = some z) (hg : ∀ T H z, g T H = some z → g' T H = some z) : andThen x' g' = some y := by
  cases x with
  | none => cases h
  | some z =>
    rw [hx z rfl]
    obtain ⟨e, T1, H1⟩ := z
    cases e <;> first | exact hg _ _ _ h | exact h
theorem Rc_seq {a b : MCode} : Rc mp (.seq a b) T H = andThen (Rc mp a T H) (Rc mp b) := by
  unfold Rc
  exact lim_then (mono_code a T H) (fun T H => mono_code b T H)
theorem Rc_true {c : Arg} {a b : MCode} (h : c.ev T = some (.bool true)) : Rc mp (.cond c a b) T H = Rc mp a T H := by
  unfold Rc; simp only [mcode, h]
theorem Rc_false {c : Arg} {a b : MCode} (h : c.ev T = some (.bool false)) : Rc mp (.cond c a b) T H = Rc mp b T H := by
  unfold Rc; simp only [mcode, h]
theorem Rc_cond {c : Arg} {a b : MCode} {x : Bool} (h : c.ev T = some (.bool x)) : Rc mp (.cond c a b) T H = if x = true then Rc mp a T H else Rc mp b T H := by
  cases x
  · exact Rc_false h
  · exact Rc_true h
/-- At a block's end. -/
def blockEnd (id : Nat) (x : Option (MExit × Reg × MH)) : Option (MExit × Reg × MH) := match x with
  | some (.exit id', T', H') => if id' = id then some (.normal, T', H') else some (.exit id', T', H')
  | r => r
theorem Rc_block {id : Nat} {c : MCode} : Rc mp (.block id c) T H = blockEnd id (Rc mp c T H) := by
  unfold Rc
  have h1 : (fun k => mcode (mcall mp k) k (.block id c) T H) = fun k => (mcode (mcall mp k) k c T H).bind fun y => blockEnd id (some y) := by
    funext k; simp only [mcode]
    generalize mcode (mcall mp k) k c T H = x
    cases x with
    | none => rfl
    | some y => obtain ⟨e, T', H'⟩ := y; cases e <;> rfl
  rw [h1, lim_map (mono_code c T H)]
  generalize lim (fun k => mcode (mcall mp k) k c T H) = x
  cases x with
  | none => rfl
  | some y => rfl
theorem Rc_loop {c : MCode} : Rc mp (.loop c) T H = andThen (Rc mp c T H) (Rc mp (.loop c)) := by
  have key : ∀ x, Rc mp (.loop c) T H = some x ↔ andThen (Rc mp c T H) (Rc mp (.loop c)) = some x := by
    intro x
    unfold Rc
    rw [← lim_then (mono_code c T H) (fun T H => mono_code (.loop c) T H), lim_iff (mono_code _ _ _)]
    have hm : Mono fun k => andThen (mcode (mcall mp k) k c T H) fun T H => mcode (mcall mp k) k (.loop c) T H := by
      intro k k' y hk h
      exact then_mono h (fun z hz => mcode_mono (mcall_mono mp hk) hk hz) fun T H z hz => mcode_mono (mcall_mono mp hk) hk hz
    rw [lim_iff hm]
    constructor
    · rintro ⟨k, h⟩
      refine ⟨k, ?_⟩
      simp only [mcode] at h ⊢
      cases k with
      | zero => simp [mloop] at h
      | succ k =>
        simp only [mloop] at h
        unfold andThen
        split at h
        · rename_i h1
          rw [h1]
          exact mloop_mono (fun _ _ _ h => h) (Nat.le_succ k) h
        · rename_i hne
          rw [h]
          obtain ⟨e, T1, H1⟩ := x
          cases e <;> first | rfl | exact absurd h (hne _ _)
    · rintro ⟨k, h⟩
      refine ⟨k + 1, ?_⟩
      have h2 := then_mono (g' := mloop (mcode (mcall mp (k + 1)) (k + 1) c) k) h (fun z hz => mcode_mono (mcall_mono mp (Nat.le_succ k)) (Nat.le_succ k) hz) fun T H z hz => mloop_mono (fun _ _ _ h => mcode_mono (mcall_mono mp (Nat.le_succ k)) (Nat.le_succ k) h) (Nat.le_refl k) hz
      simp only [mcode, mloop]
      generalize mcode (mcall mp (k + 1)) (k + 1) c T H = z at h2
      cases z with
      | none => cases h2
      | some z => obtain ⟨e, T1, H1⟩ := z; cases e <;> exact h2
  exact opt_ext key

/-- At a function's end. -/
def fnEnd (rs : List MRes) (x : Option (MExit × Reg × MH)) : Option (Value × MH) := match x with
  | some (.exit _, _, _) => none
  | some (_, T, H') => match resOf T H' rs with
    | some v => some (v, H')
    | none => none
  | none => none
theorem R_code {f : FuncId} {fn : MFn} {vs : List Value} (hf : mp f = some (.code fn)) : R mp f vs H = fnEnd fn.results (Rc mp fn.body (initRegs 0 vs) H) := by
  unfold R Rc
  rw [← lim_succ (mono_call f vs H)]
  have h1 : (fun k => mcall mp (k + 1) f vs H) = fun k => (mcode (mcall mp k) k fn.body (initRegs 0 vs) H).bind fun y => fnEnd fn.results (some y) := by
    funext k
    rw [mcall]
    simp only [hf, mfn]
    generalize mcode (mcall mp k) k fn.body (initRegs 0 vs) H = x
    cases x with
    | none => rfl
    | some y => obtain ⟨e, T', H'⟩ := y; cases e <;> rfl
  rw [h1, lim_map (mono_code _ _ _)]
  generalize lim (fun k => mcode (mcall mp k) k fn.body (initRegs 0 vs) H) = x
  cases x with
  | none => rfl
  | some y => rfl
theorem R_intr {f : FuncId} {s : List Value → MH → Option (Value × MH)} {vs : List Value} (hf : mp f = some (.intr s)) : R mp f vs H = s vs H := by
  unfold R
  rw [← lim_succ (mono_call f vs H)]
  have h1 : (fun k => mcall mp (k + 1) f vs H) = fun _ => s vs H := by
    funext k; rw [mcall]; simp only [hf]
  rw [h1]; exact lim_const

theorem R_of_mcall {k : Nat} {f : FuncId} {vs : List Value} {x : Value × MH} (h : mcall mp k f vs H = some x) : R mp f vs H = some x := (lim_iff (mono_call f vs H)).2 ⟨k, h⟩

variable {P : Program}
theorem R_ok [Glob] (h : MapOk P mp) : CallOk P (R mp) := fun f vs H r H' hr φ w args hh hv => by
  obtain ⟨k, hk⟩ := (lim_iff (mono_call f vs H)).1 hr
  exact (mcall_ok h k).1 f vs H r H' hk φ w args hh hv
theorem R_tame [Glob] (h : MapOk P mp) : Tame (R mp) := ⟨fun f vs H r H' hr => by
  obtain ⟨k, hk⟩ := (lim_iff (mono_call f vs H)).1 hr
  exact (mcall_ok h k).2.grows f vs H r H' hk, fun f vs H r H' hr => by
  obtain ⟨k, hk⟩ := (lim_iff (mono_call f vs H)).1 hr
  exact (mcall_ok h k).2.dead f vs H r H' hk⟩
end
end Go.Mod
/- Evaluation of the model's code by rewriting; rows of cells. Printed by wip/tool/genx.py. -/
set_option linter.unusedVariables false
set_option linter.unusedSimpArgs false
namespace Go.Mod

@[simp] theorem ev_mov {v : Value} : mpure .mov [v] = some v := Eq.trans rfl rfl
@[simp] theorem ev_pick {t : Bool} {x y : Value} : mpure .pick [.bool t, x, y] = some (if t then x else y) := Eq.trans rfl rfl
@[simp] theorem ev_nilck {a : Addr} : mpure .nilck [.pointer (some a)] = some (.pointer (some a)) := Eq.trans rfl rfl
@[simp] theorem ev_nilckf {f : FuncId} {x y : Array Value} : mpure .nilck [.func (.func f) x y] = some (.func (.func f) x y) := Eq.trans rfl rfl
@[simp] theorem ev_bin {op : BinOp} {x y : Value} : mpure (.bin op) [x, y] = mbin op x y := Eq.trans rfl rfl
@[simp] theorem ev_not {x : Bool} : mpure (.un .not) [.bool x] = some (.bool !x) := Eq.trans rfl rfl
@[simp] theorem ev_neg {k : IntKind} {n : Int} : mpure (.un .neg) [.int k n] = some (.int k (k.wrap (0 - n))) := Eq.trans rfl rfl
@[simp] theorem ev_conv {k j : IntKind} {n : Int} : mpure (.conv k) [.int j n] = some (.int k (k.wrap n)) := Eq.trans rfl rfl
@[simp] theorem ev_fa {f b o : Nat} : mpure (.fa f) [.pointer (some ⟨b, o, none⟩)] = some (.pointer (some ⟨b, o + f, none⟩)) := Eq.trans rfl rfl
@[simp] theorem ev_fld0 {f : Nat} {cs : Array Value} : mpure (.fld f none) [.agg cs] = cs[f]? := Eq.trans rfl rfl
@[simp] theorem ev_fldn {f n : Nat} {cs : Array Value} : mpure (.fld f (some n)) [.agg cs] = if f + n ≤ cs.size then some (.agg (cs.extract f (f + n))) else none := Eq.trans rfl rfl
@[simp] theorem ev_ia {es b o n c : Nat} {k : IntKind} {i : Int} : mpure (.ia es) [.slice (some ⟨b, o, none⟩) n c, .int k i] = if 0 ≤ i ∧ i < (n : Int) then some (.pointer (some ⟨b, o + i.toNat * es, none⟩)) else none := Eq.trans rfl rfl
@[simp] theorem ev_iarr {m es b o : Nat} {k : IntKind} {i : Int} : mpure (.iarr m es) [.pointer (some ⟨b, o, none⟩), .int k i] = if 0 ≤ i ∧ i < (m : Int) then some (.pointer (some ⟨b, o + i.toNat * es, none⟩)) else none := Eq.trans rfl rfl
@[simp] theorem ev_idxs {s : ByteArray} {k : IntKind} {i : Int} : mpure .idxs [.string s, .int k i] = if 0 ≤ i then (s[i.toNat]?).map fun b => .int .u8 b.toNat else none := Eq.trans rfl rfl
@[simp] theorem ev_extract {i : Nat} {ts : Array Value} : mpure (.extract i) [.tuple ts] = ts[i]? := Eq.trans rfl rfl
@[simp] theorem ev_len {a : Option Addr} {n c : Nat} : mpure .len [.slice a n c] = some (.int .i64 n) := Eq.trans rfl rfl
@[simp] theorem ev_lens {s : ByteArray} : mpure .lens [.string s] = some (.int .i64 s.size) := Eq.trans rfl rfl
@[simp] theorem ev_minmax {m : Bool} {vs : List Value} : mpure (.minmax m) vs = mmin m vs := Eq.trans rfl rfl
@[simp] theorem ev_mkfunc {f : FuncId} {vs : List Value} : mpure (.mkfunc f) vs = some (.func (.func f) #[] vs.toArray) := Eq.trans rfl rfl
@[simp] theorem ev_build {z : List Value} {ps : List (Nat × Nat)} {vs : List Value} : mpure (.build z ps) vs = (fillAll z ps vs).map fun c => .agg c.toArray := Eq.trans rfl rfl
@[simp] theorem ev_eqv {n : Bool} {e : EqK} {x y : Value} : mpure (.eqv n e) [x, y] = (meq e x y).map fun b => .bool (if n then !b else b) := Eq.trans rfl rfl
@[simp] theorem ev_slstr_tt {s : ByteArray} {k j : IntKind} {l h : Int} : mpure (.slstr true true) [.string s, .int k l, .int j h] = if 0 ≤ l ∧ l ≤ h ∧ h ≤ (s.size : Int) then some (.string (s.extract l.toNat h.toNat)) else none := Eq.trans rfl rfl
@[simp] theorem ev_slstr_tf {s : ByteArray} {k : IntKind} {l : Int} : mpure (.slstr true false) [.string s, .int k l] = if 0 ≤ l ∧ l ≤ (s.size : Int) then some (.string (s.extract l.toNat s.size)) else none := Eq.trans rfl rfl
@[simp] theorem ev_slstr_ft {s : ByteArray} {k : IntKind} {h : Int} : mpure (.slstr false true) [.string s, .int k h] = if 0 ≤ h ∧ h ≤ (s.size : Int) then some (.string (s.extract 0 h.toNat)) else none := Eq.trans rfl rfl
@[simp] theorem ev_i_eql {k : IntKind} {a b : Int} : mbin .eql (.int k a) (.int k b) = some (.bool (a == b)) := by cases k <;> rfl
@[simp] theorem ev_i_neq {k : IntKind} {a b : Int} : mbin .neq (.int k a) (.int k b) = some (.bool (a != b)) := by cases k <;> rfl
@[simp] theorem ev_i_lss {k : IntKind} {a b : Int} : mbin .lss (.int k a) (.int k b) = some (.bool (decide (a < b))) := by cases k <;> rfl
@[simp] theorem ev_i_leq {k : IntKind} {a b : Int} : mbin .leq (.int k a) (.int k b) = some (.bool (decide (a ≤ b))) := by cases k <;> rfl
@[simp] theorem ev_i_gtr {k : IntKind} {a b : Int} : mbin .gtr (.int k a) (.int k b) = some (.bool (decide (b < a))) := by cases k <;> rfl
@[simp] theorem ev_i_geq {k : IntKind} {a b : Int} : mbin .geq (.int k a) (.int k b) = some (.bool (decide (b ≤ a))) := by cases k <;> rfl
@[simp] theorem ev_i_add {k : IntKind} {a b : Int} : mbin .add (.int k a) (.int k b) = some (.int k (k.wrap (a + b))) := by cases k <;> rfl
@[simp] theorem ev_i_sub {k : IntKind} {a b : Int} : mbin .sub (.int k a) (.int k b) = some (.int k (k.wrap (a - b))) := by cases k <;> rfl
@[simp] theorem ev_i_mul {k : IntKind} {a b : Int} : mbin .mul (.int k a) (.int k b) = some (.int k (k.wrap (a * b))) := by cases k <;> rfl
@[simp] theorem ev_i_quo {k : IntKind} {a b : Int} : mbin .quo (.int k a) (.int k b) = if b = 0 then none else some (.int k (k.wrap (a.tdiv b))) := by cases k <;> rfl
@[simp] theorem ev_i_rem {k : IntKind} {a b : Int} : mbin .rem (.int k a) (.int k b) = if b = 0 then none else some (.int k (a.tmod b)) := by cases k <;> rfl
@[simp] theorem ev_i_and {k : IntKind} {a b : Int} : mbin .and (.int k a) (.int k b) = some (.int k (k.wrap (BitVec.ofInt k.bits a &&& BitVec.ofInt k.bits b).toNat)) := by cases k <;> rfl
@[simp] theorem ev_i_or {k : IntKind} {a b : Int} : mbin .or (.int k a) (.int k b) = some (.int k (k.wrap (BitVec.ofInt k.bits a ||| BitVec.ofInt k.bits b).toNat)) := by cases k <;> rfl
@[simp] theorem ev_i_shl {k j : IntKind} {a b : Int} : mbin .shl (.int k a) (.int j b) = if b < 0 then none else some (.int k (k.wrap (a * 2 ^ (min b.toNat k.bits)))) := Eq.trans rfl rfl
@[simp] theorem ev_i_shr {k j : IntKind} {a b : Int} : mbin .shr (.int k a) (.int j b) = if b < 0 then none else some (.int k (a.fdiv (2 ^ (min b.toNat k.bits)))) := Eq.trans rfl rfl
@[simp] theorem ev_s_add {a b : ByteArray} : mbin .add (.string a) (.string b) = if a.size + b.size ≤ 9223372036854775807 then some (.string (a ++ b)) else none := Eq.trans rfl rfl
@[simp] theorem ev_s_eql {a b : ByteArray} : mbin .eql (.string a) (.string b) = some (.bool (a.toList == b.toList)) := Eq.trans rfl rfl
@[simp] theorem ev_s_neq {a b : ByteArray} : mbin .neq (.string a) (.string b) = some (.bool !(a.toList == b.toList)) := Eq.trans rfl rfl
@[simp] theorem ev_q_bool {a b : Bool} : meq .bool (.bool a) (.bool b) = some (a == b) := Eq.trans rfl rfl
@[simp] theorem ev_q_ptr0 {b : Option Addr} : meq .ptr (.pointer none) (.pointer b) = some b.isNone := Eq.trans rfl rfl
@[simp] theorem ev_q_ptr1 {a : Addr} : meq .ptr (.pointer (some a)) (.pointer none) = some false := Eq.trans rfl rfl
@[simp] theorem ev_q_sl1 {a : Addr} {l c l' c' : Nat} : meq .slice (.slice (some a) l c) (.slice none l' c') = some false := Eq.trans rfl rfl
@[simp] theorem ev_q_sl0 {b : Option Addr} {l c l' c' : Nat} : meq .slice (.slice none l c) (.slice b l' c') = some b.isNone := Eq.trans rfl rfl
@[simp] theorem ev_q_if0 {t : TypeId} {v : Value} : meq .iface .nilIface (.iface t v) = some false := Eq.trans rfl rfl
@[simp] theorem ev_q_if1 {t : TypeId} {v : Value} : meq .iface (.iface t v) .nilIface = some false := Eq.trans rfl rfl
@[simp] theorem ev_q_ic0  : meq .ifc .nilIface .nilIface = some true := Eq.trans rfl rfl
@[simp] theorem ev_q_ic1 {t : TypeId} {v : Value} : meq .ifc .nilIface (.iface t v) = some false := Eq.trans rfl rfl
@[simp] theorem ev_q_ic2 {t : TypeId} {v : Value} : meq .ifc (.iface t v) .nilIface = some false := Eq.trans rfl rfl
@[simp] theorem ev_q_agg {ks : List CK} {xs ys : Array Value} : meq (.agg ks) (.agg xs) (.agg ys) = ceqs ks xs.toList ys.toList := Eq.trans rfl rfl

/-! ### one operation behind another: what is not known stays small -/
section
variable {call : CallF} {T : Reg} {H : MH} {l : List MOper} {d : Option Nat} {op : MOp} {as : List Arg} {ks : List Nat} {vs : List Value} {v : Value}

/-- What is put where, and what is forgotten. -/
def putK (d : Option Nat) (ks : List Nat) (T : Reg) (v : Value) : Reg := match d with
  | some d => rkill (rput T d v) ks
  | none => rkill T ks
@[simp] theorem putK_some {d : Nat} : putK (some d) ks T v = rkill (rput T d v) ks := Eq.trans rfl rfl
@[simp] theorem putK_none : putK none ks T v = rkill T ks := Eq.trans rfl rfl
def kO (d : Option Nat) (ks : List Nat) (T : Reg) : Option (Value × MH) → Option (Reg × MH)
  | some (v, H) => some (putK d ks T v, H)
  | none => none
@[simp] theorem kO_some : kO d ks T (some (v, H)) = some (putK d ks T v, H) := Eq.trans rfl rfl
def kM (call : CallF) (op : MOp) (H : MH) (b : Option Nat) : Option (List Value) → Option (Value × MH)
  | some vs => mop call op vs H b
  | none => none
@[simp] theorem kM_some {b : Option Nat} : kM call op H b (some vs) = mop call op vs H b := Eq.trans rfl rfl
def kW (call : CallF) (d : Option Nat) (op : MOp) (as : List Arg) (ks : List Nat) (T : Reg) (H : MH) (b : Option Nat) : Option Value → Bool → Option (Reg × MH)
  | some (.bool x), y => if x = y then kO d ks T (kM call op H b (evs T as)) else some (putK d ks T (.tuple #[]), H)
  | some (.tuple _), _ => some (putK d ks T (.tuple #[]), H)
  | _, _ => none
@[simp] theorem kW_bool {b : Option Nat} {x y : Bool} : kW call d op as ks T H b (some (.bool x)) y = if x = y then kO d ks T (kM call op H b (evs T as)) else some (putK d ks T (.tuple #[]), H) := Eq.trans rfl rfl
@[simp] theorem kW_tuple {b : Option Nat} {xs : Array Value} {y : Bool} : kW call d op as ks T H b (some (.tuple xs)) y = some (putK d ks T (.tuple #[]), H) := Eq.trans rfl rfl
def kL (call : CallF) (l : List MOper) : Option (Reg × MH) → Option (Reg × MH)
  | some (T, H) => mops call l T H
  | none => none
@[simp] theorem kL_some : kL call l (some (T, H)) = mops call l T H := Eq.trans rfl rfl

theorem mstep_plain {b : Option Nat} : mstep call ⟨d, op, as, none, ks⟩ T H b = kO d ks T (kM call op H b (evs T as)) := by
  unfold mstep
  simp only [mwant]
  cases evs T as with
  | none => rfl
  | some vs =>
    simp only [kM]
    cases mop call op vs H b with
    | none => rfl
    | some x => rfl
theorem mstep_guard {b : Option Nat} {r : Nat} {y : Bool} : mstep call ⟨d, op, as, some (r, y), ks⟩ T H b = kW call d op as ks T H b (rget T r) y := by
  unfold mstep
  simp only [mwant]
  cases rget T r with
  | none => rfl
  | some v =>
    cases v <;> try rfl
    rename_i x
    simp only [kW]
    by_cases h : x = y
    · subst h
      simp only [beq_self_eq_true, if_true]
      cases evs T as with
      | none => rfl
      | some vs =>
        simp only [kM]
        cases mop call op vs H b with
        | none => rfl
        | some x => rfl
    · have : (x == y) = false := by simpa using h
      simp only [this, if_neg h]
      rfl
@[simp] theorem mops_nil : mops call [] T H = some (T, H) := Eq.trans rfl rfl
@[simp] theorem mops_plain : mops call (⟨d, op, as, none, ks⟩ :: l) T H = kL call l (kO d ks T (kM call op H none (evs T as))) := by
  simp only [mops, mstep_plain]
  cases kO d ks T (kM call op H none (evs T as)) <;> rfl
@[simp] theorem mops_guard {r : Nat} {y : Bool} : mops call (⟨d, op, as, some (r, y), ks⟩ :: l) T H = kL call l (kW call d op as ks T H none (rget T r) y) := by
  simp only [mops, mstep_guard]
  cases kW call d op as ks T H none (rget T r) y <;> rfl

def consO : Option Value → Option (List Value) → Option (List Value)
  | some v, some vs => some (v :: vs)
  | _, _ => none
@[simp] theorem consO_some : consO (some v) (some vs) = some (v :: vs) := Eq.trans rfl rfl
@[simp] theorem evs_nil : evs T [] = some [] := Eq.trans rfl rfl
@[simp] theorem evs_r {t : Nat} {as : List Arg} : evs T (.r t :: as) = consO (rget T t) (evs T as) := by
  simp only [evs, Arg.ev]; cases rget T t <;> cases evs T as <;> rfl
@[simp] theorem evs_k {as : List Arg} : evs T (.k v :: as) = consO (some v) (evs T as) := by
  simp only [evs, Arg.ev]; cases evs T as <;> rfl
@[simp] theorem ev_r {t : Nat} : Arg.ev T (.r t) = rget T t := Eq.trans rfl rfl
@[simp] theorem ev_k : Arg.ev T (.k v) = some v := Eq.trans rfl rfl

/-! operations by their kind -/
def pairO (H : MH) : Option Value → Option (Value × MH)
  | some v => some (v, H)
  | none => none
@[simp] theorem pairO_some : pairO H (some v) = some (v, H) := Eq.trans rfl rfl
theorem mop_pure {b : Option Nat} (h : op.kind = .pure) : mop call op vs H b = pairO H (mpure op vs) := by
  unfold mop; simp only [h]; cases mpure op vs <;> rfl
theorem mop_read {b : Option Nat} (h : op.kind = .read) : mop call op vs H b = pairO H (mread op vs H) := by
  unfold mop; simp only [h]; cases mread op vs H <;> rfl
theorem mop_eff {b : Option Nat} (h : op.kind = .eff) : mop call op vs H b = meff op vs H := by
  unfold mop; simp only [h]
def newO (H : MH) : Option (MObj × Value) → Option (Value × MH)
  | some (o, v) => some (v, H ++ [o])
  | none => none
@[simp] theorem newO_some {o : MObj} : newO H (some (o, v)) = some (v, H ++ [o]) := Eq.trans rfl rfl
theorem mop_alloc (h : op.kind = .alloc) : mop call op vs H none = newO H (malloc op vs H.length) := by
  unfold mop; simp only [h]; cases malloc op vs H.length <;> rfl
def putO (H : MH) (b : Nat) : Option (MObj × Value) → Option (Value × MH)
  | some (o, v) => some (v, H.set b o)
  | none => none
@[simp] theorem putO_some {b : Nat} {o : MObj} : putO H b (some (o, v)) = some (v, H.set b o) := Eq.trans rfl rfl
theorem mop_alloc' {b : Nat} (h : op.kind = .alloc) : mop call op vs H (some b) = putO H b (malloc op vs b) := by
  unfold mop; simp only [h]; cases malloc op vs b <;> rfl
section
variable {b : Option Nat} {n m : Nat} {x y z : Bool} {c : List Value} {ps : List (Nat × Nat)} {k : IntKind} {bop : BinOp} {uop : UnOp} {e : EqK} {s : Option Nat} {f : FuncId} {u : Value}
@[simp] theorem mop_mov : mop call .mov vs H b = pairO H (mpure .mov vs) := mop_pure rfl
@[simp] theorem mop_pick : mop call .pick vs H b = pairO H (mpure .pick vs) := mop_pure rfl
@[simp] theorem mop_build : mop call (.build c ps) vs H b = pairO H (mpure (.build c ps) vs) := mop_pure rfl
@[simp] theorem mop_nilck : mop call .nilck vs H b = pairO H (mpure .nilck vs) := mop_pure rfl
@[simp] theorem mop_bin : mop call (.bin bop) vs H b = pairO H (mpure (.bin bop) vs) := mop_pure rfl
@[simp] theorem mop_eqv : mop call (.eqv x e) vs H b = pairO H (mpure (.eqv x e) vs) := mop_pure rfl
@[simp] theorem mop_un : mop call (.un uop) vs H b = pairO H (mpure (.un uop) vs) := mop_pure rfl
@[simp] theorem mop_conv : mop call (.conv k) vs H b = pairO H (mpure (.conv k) vs) := mop_pure rfl
@[simp] theorem mop_fa : mop call (.fa n) vs H b = pairO H (mpure (.fa n) vs) := mop_pure rfl
@[simp] theorem mop_fld : mop call (.fld n s) vs H b = pairO H (mpure (.fld n s) vs) := mop_pure rfl
@[simp] theorem mop_ia : mop call (.ia n) vs H b = pairO H (mpure (.ia n) vs) := mop_pure rfl
@[simp] theorem mop_iarr : mop call (.iarr n m) vs H b = pairO H (mpure (.iarr n m) vs) := mop_pure rfl
@[simp] theorem mop_idxs : mop call .idxs vs H b = pairO H (mpure .idxs vs) := mop_pure rfl
@[simp] theorem mop_idxa : mop call (.idxa n m s) vs H b = pairO H (mpure (.idxa n m s) vs) := mop_pure rfl
@[simp] theorem mop_slstr : mop call (.slstr x y) vs H b = pairO H (mpure (.slstr x y) vs) := mop_pure rfl
@[simp] theorem mop_extract : mop call (.extract n) vs H b = pairO H (mpure (.extract n) vs) := mop_pure rfl
@[simp] theorem mop_len : mop call .len vs H b = pairO H (mpure .len vs) := mop_pure rfl
@[simp] theorem mop_lens : mop call .lens vs H b = pairO H (mpure .lens vs) := mop_pure rfl
@[simp] theorem mop_minmax : mop call (.minmax x) vs H b = pairO H (mpure (.minmax x) vs) := mop_pure rfl
@[simp] theorem mop_mkfunc : mop call (.mkfunc f) vs H b = pairO H (mpure (.mkfunc f) vs) := mop_pure rfl
@[simp] theorem mop_ld : mop call (.ld s) vs H b = pairO H (mread (.ld s) vs H) := mop_read rfl
@[simp] theorem mop_sl : mop call (.sl n x y z) vs H b = pairO H (mread (.sl n x y z) vs H) := mop_read rfl
@[simp] theorem mop_look : mop call (.look u x) vs H b = pairO H (mread (.look u x) vs H) := mop_read rfl
@[simp] theorem mop_cap : mop call .cap vs H b = pairO H (mread .cap vs H) := mop_read rfl
@[simp] theorem mop_strb : mop call .strb vs H b = pairO H (mread .strb vs H) := mop_read rfl
@[simp] theorem mop_lenm : mop call .lenm vs H b = pairO H (mread .lenm vs H) := mop_read rfl
@[simp] theorem mop_st : mop call (.st n) vs H b = meff (.st n) vs H := mop_eff rfl
@[simp] theorem mop_app : mop call (.app n m) vs H b = meff (.app n m) vs H := mop_eff rfl
@[simp] theorem mop_s2b : mop call .s2b vs H b = meff .s2b vs H := mop_eff rfl
@[simp] theorem mop_appb : mop call (.appb n m) vs H b = meff (.appb n m) vs H := mop_eff rfl
@[simp] theorem mop_appz : mop call (.appz n m c) vs H b = meff (.appz n m c) vs H := mop_eff rfl
@[simp] theorem mop_copy : mop call (.copy n) vs H b = meff (.copy n) vs H := mop_eff rfl
@[simp] theorem mop_clear : mop call (.clear n c) vs H b = meff (.clear n c) vs H := mop_eff rfl
@[simp] theorem mop_mset : mop call .mset vs H b = meff .mset vs H := mop_eff rfl
@[simp] theorem mop_mdel : mop call .mdel vs H b = meff .mdel vs H := mop_eff rfl
@[simp] theorem mop_new : mop call (.new n c) vs H none = newO H (malloc (.new n c) vs H.length) := mop_alloc rfl
@[simp] theorem mop_newt : mop call (.newt n c) vs H none = newO H (malloc (.newt n c) vs H.length) := mop_alloc rfl
@[simp] theorem mop_box : mop call .box vs H none = newO H (malloc .box vs H.length) := mop_alloc rfl
@[simp] theorem mop_bslice : mop call (.bslice n m c ps) vs H none = newO H (malloc (.bslice n m c ps) vs H.length) := mop_alloc rfl
@[simp] theorem mop_mslice : mop call (.mslice n m c) vs H none = newO H (malloc (.mslice n m c) vs H.length) := mop_alloc rfl
@[simp] theorem mop_mkmap : mop call .mkmap vs H none = newO H (malloc .mkmap vs H.length) := mop_alloc rfl
section
variable {b : Nat}
@[simp] theorem mop_new' : mop call (.new n c) vs H (some b) = putO H b (malloc (.new n c) vs b) := mop_alloc' rfl
@[simp] theorem mop_newt' : mop call (.newt n c) vs H (some b) = putO H b (malloc (.newt n c) vs b) := mop_alloc' rfl
@[simp] theorem mop_box' : mop call .box vs H (some b) = putO H b (malloc .box vs b) := mop_alloc' rfl
@[simp] theorem mop_bslice' : mop call (.bslice n m c ps) vs H (some b) = putO H b (malloc (.bslice n m c ps) vs b) := mop_alloc' rfl
@[simp] theorem mop_mslice' : mop call (.mslice n m c) vs H (some b) = putO H b (malloc (.mslice n m c) vs b) := mop_alloc' rfl
@[simp] theorem mop_mkmap' : mop call .mkmap vs H (some b) = putO H b (malloc .mkmap vs b) := mop_alloc' rfl
end
@[simp] theorem mop_call : mop call (.call f) vs H b = call f vs H := Eq.trans rfl rfl
@[simp] theorem mop_callv {a c : Array Value} {args : List Value} : mop call .callv (.func (.func f) a c :: args) H b = call f (a.toList ++ args ++ c.toList) H := Eq.trans rfl rfl
end
end

/-! ### values that are known -/
section
variable {k : IntKind} {n : Int} {b : Bool} {s : ByteArray} {a : Option Addr} {l c : Nat} {r : Option Nat} {f : Fn} {x y : Array Value} {t : TypeId} {v : Value}
@[simp] theorem isUnk_bool : isUnk (.bool b) = false := Eq.trans rfl rfl
@[simp] theorem isUnk_int : isUnk (.int k n) = false := Eq.trans rfl rfl
@[simp] theorem isUnk_string : isUnk (.string s) = false := Eq.trans rfl rfl
@[simp] theorem isUnk_pointer : isUnk (.pointer a) = false := Eq.trans rfl rfl
@[simp] theorem isUnk_slice : isUnk (.slice a l c) = false := Eq.trans rfl rfl
@[simp] theorem isUnk_map : isUnk (.map r) = false := Eq.trans rfl rfl
@[simp] theorem isUnk_chan : isUnk (.chan r) = false := Eq.trans rfl rfl
@[simp] theorem isUnk_func : isUnk (.func f x y) = false := Eq.trans rfl rfl
@[simp] theorem isUnk_nilFunc : isUnk .nilFunc = false := Eq.trans rfl rfl
@[simp] theorem isUnk_nilIface : isUnk .nilIface = false := Eq.trans rfl rfl
@[simp] theorem isUnk_iface : isUnk (.iface t v) = false := Eq.trans rfl rfl
@[simp] theorem isUnk_agg : isUnk (.agg x) = false := Eq.trans rfl rfl
@[simp] theorem isUnk_tuple : isUnk (.tuple x) = false := Eq.trans rfl rfl

/-- A value of one cell, known. -/
def one : Value → Bool
  | .agg _ | .tuple _ | .complex .. => false
  | _ => true
@[simp] theorem one_bool : one (.bool b) = true := Eq.trans rfl rfl
@[simp] theorem one_int : one (.int k n) = true := Eq.trans rfl rfl
@[simp] theorem one_string : one (.string s) = true := Eq.trans rfl rfl
@[simp] theorem one_pointer : one (.pointer a) = true := Eq.trans rfl rfl
@[simp] theorem one_slice : one (.slice a l c) = true := Eq.trans rfl rfl
@[simp] theorem one_map : one (.map r) = true := Eq.trans rfl rfl
@[simp] theorem one_chan : one (.chan r) = true := Eq.trans rfl rfl
@[simp] theorem one_func : one (.func f x y) = true := Eq.trans rfl rfl
@[simp] theorem one_nilFunc : one .nilFunc = true := Eq.trans rfl rfl
@[simp] theorem one_nilIface : one .nilIface = true := Eq.trans rfl rfl
@[simp] theorem one_iface : one (.iface t v) = true := Eq.trans rfl rfl
@[simp] theorem one_agg : one (.agg x) = false := Eq.trans rfl rfl
@[simp] theorem one_tuple : one (.tuple x) = false := Eq.trans rfl rfl

@[simp] theorem cells_bool : (Value.bool b).cells = #[.bool b] := Eq.trans rfl rfl
@[simp] theorem cells_int : (Value.int k n).cells = #[.int k n] := Eq.trans rfl rfl
@[simp] theorem cells_string : (Value.string s).cells = #[.string s] := Eq.trans rfl rfl
@[simp] theorem cells_pointer : (Value.pointer a).cells = #[.pointer a] := Eq.trans rfl rfl
@[simp] theorem cells_slice : (Value.slice a l c).cells = #[.slice a l c] := Eq.trans rfl rfl
@[simp] theorem cells_map : (Value.map r).cells = #[.map r] := Eq.trans rfl rfl
@[simp] theorem cells_chan : (Value.chan r).cells = #[.chan r] := Eq.trans rfl rfl
@[simp] theorem cells_func : (Value.func f x y).cells = #[.func f x y] := Eq.trans rfl rfl
@[simp] theorem cells_nilFunc : Value.nilFunc.cells = #[.nilFunc] := Eq.trans rfl rfl
@[simp] theorem cells_nilIface : Value.nilIface.cells = #[.nilIface] := Eq.trans rfl rfl
@[simp] theorem cells_iface : (Value.iface t v).cells = #[.iface t v] := Eq.trans rfl rfl
@[simp] theorem cells_agg : (Value.agg x).cells = x := Eq.trans rfl rfl

theorem one_cells (h : one v = true) : v.cells = #[v] := by cases v <;> first | rfl | (cases h)
theorem one_unk (h : one v = true) : isUnk v = false := by cases v <;> first | rfl | (cases h)
theorem one_okc (h : one v = true) : okc [v] = true := by cases v <;> first | rfl | (cases h)
theorem okc_one {l : List Value} : okc l = l.all one := by
  induction l with
  | nil => rfl
  | cons v l ih =>
    simp only [okc, List.all_cons] at ih ⊢
    rw [ih]
    cases v <;> rfl
theorem all_unk {l : List Value} (h : l.all one = true) : l.all (fun v => !isUnk v) = true := by
  rw [List.all_eq_true] at h ⊢
  intro x hx; rw [one_unk (h x hx)]; rfl
end

section
variable {T : Reg} {t u n : Nat} {v x : Value} {vs : List Value} {ks : List Nat}
@[simp] theorem rget_nil : rget [] t = none := Eq.trans rfl rfl
@[simp] theorem rget_cons : rget ((u, v) :: T) t = if t = u then some v else rget T t := Eq.trans rfl rfl
@[simp] theorem rput_nil : rput [] t v = [(t, v)] := Eq.trans rfl rfl
@[simp] theorem rput_cons : rput ((u, x) :: T) t v = if t = u then (t, v) :: T else if t < u then (t, v) :: (u, x) :: T else (u, x) :: rput T t v := Eq.trans rfl rfl
@[simp] theorem rkill_nil : rkill [] ks = [] := Eq.trans rfl rfl
@[simp] theorem rkill_cons : rkill ((u, x) :: T) ks = if ks.elem u = true then rkill T ks else (u, x) :: rkill T ks := Eq.trans rfl rfl
@[simp] theorem init_nil : initRegs n [] = [] := Eq.trans rfl rfl
@[simp] theorem init_cons : initRegs n (v :: vs) = (n, v) :: initRegs (n + 1) vs := Eq.trans rfl rfl
end
attribute [simp] fillAll fillAt
@[simp] theorem ev_min2 {k : IntKind} {a b : Int} : mmin false [.int k a, .int k b] = some (.int k (min a b)) := by
  simp only [mmin, mmin1, if_true, Bool.false_eq_true, if_false]; congr 2; split <;> omega
@[simp] theorem ev_max2 {k : IntKind} {a b : Int} : mmin true [.int k a, .int k b] = some (.int k (max a b)) := by
  simp only [mmin, mmin1, if_true]; congr 2; split <;> omega
@[simp] theorem ev_min3 {k : IntKind} {a b c : Int} : mmin false [.int k a, .int k b, .int k c] = some (.int k (min (min a b) c)) := by
  simp only [mmin, mmin1, if_true, Bool.false_eq_true, if_false]; congr 2; split <;> split <;> omega
@[simp] theorem ev_max3 {k : IntKind} {a b c : Int} : mmin true [.int k a, .int k b, .int k c] = some (.int k (max (max a b) c)) := by
  simp only [mmin, mmin1, if_true]; congr 2; split <;> split <;> omega

/-! ### reading, writing, new objects -/
section
variable {H : MH} {b o : Nat} {i : Info} {c : List Value} {v : Value} {vs : List Value}
def knownO : Option Value → Option Value
  | some v => if isUnk v then none else some v
  | none => none
@[simp] theorem knownO_some : knownO (some v) = if isUnk v then none else some v := Eq.trans rfl rfl
theorem ld_at (h : H[b]? = some (.cells i c)) (o : Nat) : mread (.ld none) [.pointer (some ⟨b, o, none⟩)] H = knownO c[o]? := by
  simp only [mread, h]; cases c[o]? <;> rfl
theorem ldn_at (h : H[b]? = some (.cells i c)) (o n : Nat) (hn : o + n ≤ c.length) (hu : ((c.drop o).take n).all one = true) : mread (.ld (some n)) [.pointer (some ⟨b, o, none⟩)] H = some (.agg ((c.drop o).take n).toArray) := by
  simp only [mread, h]
  rw [if_pos ⟨hn, all_unk hu⟩]
theorem fillAt_one : ∀ (c : List Value) (o : Nat), o < c.length → fillAt c o [v] = c.set o v
  | [], o, h => by simp at h
  | x :: c, 0, h => by simp [fillAt]
  | x :: c, o + 1, h => by
    have := fillAt_one c o (by simpa using h)
    simp only [fillAt, List.set_cons_succ] at this ⊢
    rw [← this]
    simp
/-- A one-cell value is stored. -/
theorem st_at (h : H[b]? = some (.cells i c)) (hrw : i.rw = true) (o : Nat) (v : Value) (hv : one v = true) (ho : o < c.length) : meff (.st 1) [.pointer (some ⟨b, o, none⟩), v] H = some (.tuple #[], H.set b (.cells i (c.set o v))) := by
  simp only [meff, h, hrw, one_cells hv, one_okc hv]
  rw [if_pos ⟨trivial, rfl, by omega, trivial⟩, fillAt_one c o ho]
/-! Reading and writing by what stands at a place. -/
def ldO1 (o : Nat) : Option MObj → Option Value
  | some (.cells _ c) => knownO c[o]?
  | _ => none
@[simp] theorem ldO1_cells : ldO1 o (some (.cells i c)) = knownO c[o]? := Eq.trans rfl rfl
theorem ldx : mread (.ld none) [.pointer (some ⟨b, o, none⟩)] H = ldO1 o H[b]? := by
  simp only [mread]
  cases H[b]? with
  | none => rfl
  | some x => cases x <;> first | rfl | (rename_i i c; simp only [ldO1]; cases c[o]? <;> rfl)
@[simp] theorem cap_none : mread .cap [.slice none 0 0] H = some (.int .i64 0) := Eq.trans rfl rfl
theorem cap_at (h : H[b]? = some (.cells i c)) (hx : i.ex = true) (o n m : Nat) : mread .cap [.slice (some ⟨b, o, none⟩) n m] H = some (.int .i64 m) := by
  simp only [mread, h]; rw [if_pos hx]
theorem strb_at (h : H[b]? = some (.cells i c)) {o n : Nat} (hl : o + n ≤ c.length) (m : Nat) : mread .strb [.slice (some ⟨b, o, none⟩) n m] H = (strOf .empty ((c.drop o).take n)).map .string := by
  simp only [mread, bytesAt, h]; rw [if_pos hl]
def ldOn (o n : Nat) : Option MObj → Option Value
  | some (.cells _ c) => if o + n ≤ c.length ∧ ((c.drop o).take n).all (fun v => !isUnk v) = true then some (.agg ((c.drop o).take n).toArray) else none
  | _ => none
@[simp] theorem ldOn_cells {n : Nat} : ldOn o n (some (.cells i c)) = if o + n ≤ c.length ∧ ((c.drop o).take n).all (fun v => !isUnk v) = true then some (.agg ((c.drop o).take n).toArray) else none := Eq.trans rfl rfl
theorem ldnx {n : Nat} : mread (.ld (some n)) [.pointer (some ⟨b, o, none⟩)] H = ldOn o n H[b]? := by
  simp only [mread]
  cases H[b]? with
  | none => rfl
  | some x => cases x <;> rfl
def stO (H : MH) (b sz o : Nat) (v : Value) : Option MObj → Option (Value × MH)
  | some (.cells i c) => if i.rw = true ∧ v.cells.toList.length = sz ∧ o + sz ≤ c.length ∧ okc v.cells.toList = true then some (.tuple #[], H.set b (.cells i (fillAt c o v.cells.toList))) else none
  | _ => none
@[simp] theorem stO_cells {sz : Nat} : stO H b sz o v (some (.cells i c)) = if i.rw = true ∧ v.cells.toList.length = sz ∧ o + sz ≤ c.length ∧ okc v.cells.toList = true then some (.tuple #[], H.set b (.cells i (fillAt c o v.cells.toList))) else none := Eq.trans rfl rfl
theorem stx {sz : Nat} : meff (.st sz) [.pointer (some ⟨b, o, none⟩), v] H = stO H b sz o v H[b]? := by
  simp only [meff]
  cases H[b]? with
  | none => rfl
  | some x => cases x <;> rfl
@[simp] theorem okc_nil : okc [] = true := Eq.trans rfl rfl
@[simp] theorem okc_cons {l : List Value} : okc (v :: l) = (one v && okc l) := by
  simp only [okc_one, List.all_cons]
/-- A row of cells is stored. -/
theorem stn_at (h : H[b]? = some (.cells i c)) (hrw : i.rw = true) (xs : Array Value) (n o : Nat) (hn : xs.toList.length = n) (hv : xs.toList.all one = true) (ho : o + n ≤ c.length) : meff (.st n) [.pointer (some ⟨b, o, none⟩), .agg xs] H = some (.tuple #[], H.set b (.cells i (c.take o ++ xs.toList ++ c.drop (o + n)))) := by
  simp only [meff, h, hrw, cells_agg, okc_one, hv]
  rw [if_pos ⟨trivial, hn, ho, trivial⟩]
  simp only [fillAt, hn]
@[simp] theorem box_one : malloc .box [v] b = if isUnk v then none else some (.cells ⟨0, true, false⟩ v.cells.toList, .pointer (some ⟨b, 0, none⟩)) := Eq.trans rfl rfl
@[simp] theorem newt_one {es : Nat} : malloc (.newt es c) [] b = some (.cells ⟨0, true, ⟨false, some es⟩⟩ c, .pointer (some ⟨b, 0, none⟩)) := Eq.trans rfl rfl
@[simp] theorem new_one {es : Nat} : malloc (.new es c) [] b = some (.cells ⟨es, true, false⟩ c, .pointer (some ⟨b, 0, none⟩)) := Eq.trans rfl rfl
@[simp] theorem mkmap_one : malloc .mkmap [] b = some (.map [], .map (some b)) := Eq.trans rfl rfl
end

/-! ### code -/
section
variable {mp : FuncId → Option MDef} {T : Reg} {H : MH} {g : Reg → MH → Option (MExit × Reg × MH)} {id : Nat}
@[simp] theorem thenN_some : thenN (some (T, H)) = some (.normal, T, H) := Eq.trans rfl rfl
@[simp] theorem andThen_normal : andThen (some (.normal, T, H)) g = g T H := Eq.trans rfl rfl
@[simp] theorem andThen_exit : andThen (some (.exit id, T, H)) g = some (.exit id, T, H) := Eq.trans rfl rfl
@[simp] theorem andThen_ret : andThen (some (.ret, T, H)) g = some (.ret, T, H) := Eq.trans rfl rfl
@[simp] theorem blockEnd_normal : blockEnd id (some (.normal, T, H)) = some (.normal, T, H) := Eq.trans rfl rfl
@[simp] theorem blockEnd_ret : blockEnd id (some (.ret, T, H)) = some (.ret, T, H) := Eq.trans rfl rfl
@[simp] theorem blockEnd_exit {id' : Nat} : blockEnd id (some (.exit id', T, H)) = if id' = id then some (.normal, T, H) else some (.exit id', T, H) := Eq.trans rfl rfl
def valO (H : MH) : Option Value → Option (Value × MH)
  | some v => some (v, H)
  | none => none
@[simp] theorem valO_some {v : Value} : valO H (some v) = some (v, H) := Eq.trans rfl rfl
@[simp] theorem fnEnd_normal {rs : List MRes} : fnEnd rs (some (.normal, T, H)) = valO H (resOf T H rs) := by simp only [fnEnd]; cases h : resOf T H rs <;> simp only [h] <;> rfl
@[simp] theorem fnEnd_ret {rs : List MRes} : fnEnd rs (some (.ret, T, H)) = valO H (resOf T H rs) := by simp only [fnEnd]; cases h : resOf T H rs <;> simp only [h] <;> rfl
@[simp] theorem resV_tmp {t : Nat} : resV T H (.tmp t) = rget T t := Eq.trans rfl rfl
def ldV (H : MH) (l : Option Nat) : Option Value → Option Value
  | some v => mread (.ld l) [v] H
  | none => none
@[simp] theorem ldV_some {l : Option Nat} {v : Value} : ldV H l (some v) = mread (.ld l) [v] H := Eq.trans rfl rfl
@[simp] theorem resV_cell {t : Nat} {l : Option Nat} : resV T H (.cell t l) = ldV H l (rget T t) := by simp only [resV]; cases rget T t <;> rfl
@[simp] theorem resVs_nil : resVs T H [] = some [] := Eq.trans rfl rfl
@[simp] theorem resVs_cons {a : MRes} {l : List MRes} : resVs T H (a :: l) = consO (resV T H a) (resVs T H l) := by
  simp only [resVs]; cases resV T H a <;> cases resVs T H l <;> rfl
def resO : Option (List Value) → Option Value
  | some [v] => some v
  | some vs => some (.tuple vs.toArray)
  | none => none
@[simp] theorem resO_0 : resO (some []) = some (.tuple #[]) := Eq.trans rfl rfl
@[simp] theorem resO_1 {v : Value} : resO (some [v]) = some v := Eq.trans rfl rfl
@[simp] theorem resO_2 {u v : Value} {l : List Value} : resO (some (u :: v :: l)) = some (.tuple (u :: v :: l).toArray) := Eq.trans rfl rfl
@[simp] theorem resOf_eq {l : List MRes} : resOf T H l = resO (resVs T H l) := by
  unfold resOf
  cases resVs T H l with
  | none => rfl
  | some vs => match vs with
    | [] => rfl
    | [_] => rfl
    | _ :: _ :: _ => rfl
def condO (x y : Option (MExit × Reg × MH)) : Option Value → Option (MExit × Reg × MH)
  | some (.bool true) => x
  | some (.bool false) => y
  | _ => none
attribute [simp] Rc_seq Rc_ops Rc_draw Rc_skip Rc_exit Rc_ret Rc_block Rc_true Rc_false

theorem mtrace_mops {call : CallF} : ∀ {l : List MOper} {b : Nat} {T : Reg} {H : MH}, nalloc l = 0 → mops call l T H = (mtrace call l b T H).bind fun tr => tr.getLast?
  | [], b, T, H, _ => rfl
  | m :: l, b, T, H, h => by
    simp only [nalloc] at h
    have hk : ¬ m.op.kind = .alloc := by intro e; rw [if_pos e] at h; omega
    rw [if_neg hk] at h
    simp only [mops, mtrace, if_neg hk]
    cases mstep call m T H none with
    | none => rfl
    | some x =>
      simp only []
      rw [mtrace_mops (b := b) (by omega)]
      cases hx : mtrace call l b x.1 x.2 with
      | none => rfl
      | some tr =>
        simp only [Option.bind_some]
        cases tr with
        | nil => cases l <;> simp [mtrace] at hx <;> (repeat' split at hx) <;> simp at hx
        | cons y ys => simp [List.getLast?_cons_cons]
/-- A drawn region without new objects and without pairs to look at. -/
theorem mdraw_plain {call : CallF} {l : List MOper} (h : nalloc l = 0) : mdraw call l [] T H = mops call l T H := by
  unfold mdraw
  rw [h, mtrace_mops (b := H.length) h]
  simp only [List.replicate_zero, List.append_nil, List.all_nil, if_true]
  cases mtrace call l H.length T H <;> rfl
end

/-! ### drawn regions, in full -/
section
variable {call : CallF} {T : Reg} {H : MH} {l : List MOper} {d : Option Nat} {op : MOp} {as : List Arg} {ks : List Nat}
def consT (s : Reg × MH) : Option (List (Reg × MH)) → Option (List (Reg × MH))
  | some tr => some (s :: tr)
  | none => none
@[simp] theorem consT_some {s : Reg × MH} {tr : List (Reg × MH)} : consT s (some tr) = some (s :: tr) := Eq.trans rfl rfl
def kT (call : CallF) (l : List MOper) (b : Nat) (s : Reg × MH) : Option (Reg × MH) → Option (List (Reg × MH))
  | some (T, H) => consT s (mtrace call l b T H)
  | none => none
@[simp] theorem kT_some {b : Nat} {s : Reg × MH} : kT call l b s (some (T, H)) = consT s (mtrace call l b T H) := Eq.trans rfl rfl
@[simp] theorem mtrace_nil {b : Nat} : mtrace call [] b T H = some [(T, H)] := Eq.trans rfl rfl
theorem mtrace_cons {b : Nat} {m : MOper} : mtrace call (m :: l) b T H = kT call l (if m.op.kind = .alloc then b + 1 else b) (T, H) (mstep call m T H (if m.op.kind = .alloc then some b else none)) := by
  simp only [mtrace]
  cases mstep call m T H (if m.op.kind = .alloc then some b else none) with
  | none => rfl
  | some x =>
    show (match mtrace call l (if m.op.kind = .alloc then b + 1 else b) x.1 x.2 with | some tr => some ((T, H) :: tr) | none => none) = consT (T, H) (mtrace call l _ x.1 x.2)
    cases mtrace call l (if m.op.kind = .alloc then b + 1 else b) x.1 x.2 <;> rfl
@[simp] theorem mtrace_plain {b : Nat} : mtrace call (⟨d, op, as, none, ks⟩ :: l) b T H = kT call l (if op.kind = .alloc then b + 1 else b) (T, H) (kO d ks T (kM call op H (if op.kind = .alloc then some b else none) (evs T as))) := by
  rw [mtrace_cons, mstep_plain]
@[simp] theorem mtrace_guard {b r : Nat} {y : Bool} : mtrace call (⟨d, op, as, some (r, y), ks⟩ :: l) b T H = kT call l (if op.kind = .alloc then b + 1 else b) (T, H) (kW call d op as ks T H (if op.kind = .alloc then some b else none) (rget T r) y) := by
  rw [mtrace_cons, mstep_guard]
def drawO (l : List MOper) (b : Nat) (ps : List (Nat × Nat)) : Option (List (Reg × MH)) → Option (Reg × MH)
  | some tr => if ps.all (pairOk l b tr) = true then tr.getLast? else none
  | none => none
@[simp] theorem drawO_some {b : Nat} {ps : List (Nat × Nat)} {tr : List (Reg × MH)} : drawO l b ps (some tr) = if ps.all (pairOk l b tr) = true then tr.getLast? else none := Eq.trans rfl rfl
theorem mdraw_full {ps : List (Nat × Nat)} : mdraw call l ps T H = drawO l H.length ps (mtrace call l H.length T (H ++ List.replicate (nalloc l) .dead)) := by
  unfold mdraw
  cases mtrace call l H.length T (H ++ List.replicate (nalloc l) .dead) <;> rfl
end
section
variable {T : Reg} {r : Nat} {b x : Bool} {xs : Array Value}
def wantO (b : Bool) : Option Value → Option Bool
  | some (.bool x) => some (x == b)
  | some (.tuple _) => some false
  | _ => none
@[simp] theorem wantO_bool : wantO b (some (.bool x)) = some (x == b) := Eq.trans rfl rfl
@[simp] theorem wantO_tuple : wantO b (some (.tuple xs)) = some false := Eq.trans rfl rfl
@[simp] theorem mwant_none : mwant T none = some true := Eq.trans rfl rfl
@[simp] theorem mwant_some : mwant T (some (r, b)) = wantO b (rget T r) := by
  simp only [mwant]; cases rget T r with
  | none => rfl
  | some v => cases v <;> rfl
end
attribute [simp] nalloc MOp.kind pairOk veqo veq1 veq veqs oeq allocAt

theorem wrap_i64 {n : Int} (h0 : -9223372036854775808 ≤ n) (h1 : n < 9223372036854775808) : IntKind.i64.wrap n = n := by
  unfold IntKind.wrap
  simp only [IntKind.signed, IntKind.bits]
  simp
  omega

/-- A slice's cells. -/
def Row (es : Nat) (H : MH) (v : Value) (l : List Value) : Prop :=
  (v = .slice none 0 0 ∧ l = []) ∨ ∃ b o n c i cs, v = .slice (some ⟨b, o, none⟩) n c ∧ n ≤ c ∧ H[b]? = some (.cells i cs) ∧ i.es = es ∧ o + n * es ≤ cs.length ∧ (cs.drop o).take (n * es) = l

theorem Row.keep {es : Nat} {H H' : MH} {v : Value} {l : List Value} (h : Row es H v l) (hk : ∀ (b : Nat) i cs, H[b]? = some (.cells i cs) → i.es = es → H'[b]? = some (.cells i cs)) : Row es H' v l := by
  rcases h with h | ⟨b, o, n, c, i, cs, h1, h2, h3, h4, h5, h6⟩
  · exact .inl h
  · exact .inr ⟨b, o, n, c, i, cs, h1, h2, hk b i cs h3 h4, h4, h5, h6⟩
def Ext (H H' : MH) : Prop := ∃ X, H' = H ++ X
theorem Ext.refl (H : MH) : Ext H H := ⟨[], by simp⟩
theorem Ext.trans {H H1 H2 : MH} (h : Ext H H1) (g : Ext H1 H2) : Ext H H2 := by
  obtain ⟨X, rfl⟩ := h; obtain ⟨Y, rfl⟩ := g; exact ⟨X ++ Y, by simp⟩
theorem get_app {H X : MH} {b : Nat} {o : MObj} (h : H[b]? = some o) : (H ++ X)[b]? = some o := by
  rw [List.getElem?_append_left (List.getElem?_eq_some_iff.1 h).1]; exact h
theorem Row.app {es : Nat} {H X : MH} {v : Value} {l : List Value} (h : Row es H v l) : Row es (H ++ X) v l := h.keep fun b i cs h _ => get_app h
theorem Ext.get {H H' : MH} (h : Ext H H') {b : Nat} {o : MObj} (hb : H[b]? = some o) : H'[b]? = some o := by
  obtain ⟨X, rfl⟩ := h; exact get_app hb
theorem Ext.row {H H' : MH} (h : Ext H H') {es : Nat} {v : Value} {l : List Value} (hr : Row es H v l) : Row es H' v l := by
  obtain ⟨X, rfl⟩ := h; exact hr.app
theorem Ext.len {H H' : MH} (h : Ext H H') : H.length ≤ H'.length := by obtain ⟨X, rfl⟩ := h; simp

theorem Row.slice {es : Nat} {H : MH} {v : Value} {l : List Value} (h : Row es H v l) : ∃ a n c, v = .slice a n c ∧ n * es = l.length := by
  rcases h with ⟨h1, h2⟩ | ⟨b, o, n, c, i, cs, h1, h2, h3, h4, h5, h6⟩
  · exact ⟨none, 0, 0, h1, by simp [h2]⟩
  · refine ⟨_, n, c, h1, ?_⟩
    rw [← h6]; simp; omega

theorem Row.src {es : Nat} {H : MH} {a : Option Addr} {n c : Nat} {l : List Value} (h : Row es H (.slice a n c) l) : srcCells es H (.slice a n c) = some (n, l) := by
  rcases h with ⟨h1, h2⟩ | ⟨b, o, m, d, i, cs, h1, h2, h3, h4, h5, h6⟩
  · cases h1; subst h2; rfl
  · cases h1
    simp only [srcCells, h3]
    rw [if_pos h5, h6]

section
variable {H : MH} {b o es bytes n len cap : Nat} {i : Info} {c ys : List Value} {v y : Value} {vs : List Value}
def bsO (es len : Nat) (z : List Value) (b : Nat) : Option (List Value) → Option (MObj × Value)
  | some c => if z.length = es ∧ len * es ≤ 16777216 then some (.cells ⟨es, true, true⟩ c, .slice (some ⟨b, 0, none⟩) len len) else none
  | none => none
@[simp] theorem bsO_some {z : List Value} : bsO es len z b (some c) = if z.length = es ∧ len * es ≤ 16777216 then some (.cells ⟨es, true, true⟩ c, .slice (some ⟨b, 0, none⟩) len len) else none := Eq.trans rfl rfl
@[simp] theorem malloc_bs {z : List Value} {ps : List (Nat × Nat)} : malloc (.bslice es len z ps) vs b = bsO es len z b (fillAll (List.replicate len z).flatten ps vs) := by
  simp only [malloc]; cases fillAll (List.replicate len z).flatten ps vs <;> rfl
theorem sl_at (h : H[b]? = some (.cells i c)) (he : i.es = es) (lo hi mx : Bool) (o len cap : Nat) (bs : List Value) :
    mread (.sl es lo hi mx) (.slice (some ⟨b, o, none⟩) len cap :: bs) H = (slBound lo hi mx len cap bs).map fun p => .slice (some ⟨b, o + p.1 * es, none⟩) (p.2.1 - p.1) (p.2.2 - p.1) := by
  simp only [mread, h, he]
  cases slBound lo hi mx len cap bs with
  | none => rfl
  | some p => rfl
@[simp] theorem sl_nil {lo hi mx : Bool} {bs : List Value} : mread (.sl es lo hi mx) (.slice none 0 0 :: bs) H = (slBound lo hi mx 0 0 bs).map fun _ => .slice none 0 0 := by
  simp only [mread]
  cases slBound lo hi mx 0 0 bs <;> rfl
section
variable {j k l : IntKind} {x y z : Int}
@[simp] theorem slb_ttt : slBound true true true len cap [.int j x, .int k y, .int l z] = if 0 ≤ x ∧ x ≤ y ∧ y ≤ z ∧ z ≤ (cap : Int) then some (x.toNat, y.toNat, z.toNat) else none := Eq.trans rfl rfl
@[simp] theorem slb_ttf : slBound true true false len cap [.int j x, .int k y] = if 0 ≤ x ∧ x ≤ y ∧ y ≤ (cap : Int) then some (x.toNat, y.toNat, cap) else none := Eq.trans rfl rfl
@[simp] theorem slb_tff : slBound true false false len cap [.int j x] = if 0 ≤ x ∧ x ≤ (len : Int) then some (x.toNat, len, cap) else none := Eq.trans rfl rfl
@[simp] theorem slb_ftf : slBound false true false len cap [.int j x] = if 0 ≤ x ∧ x ≤ (cap : Int) then some (0, x.toNat, cap) else none := Eq.trans rfl rfl
@[simp] theorem slb_fff : slBound false false false len cap [] = some (0, len, cap) := Eq.trans rfl rfl
end
theorem clear_at {z : List Value} (h : H[b]? = some (.cells i c)) (hrw : i.rw = true) (hz : z.length = es) (hz1 : z.all one = true) (o n cap : Nat) (hn : n ≠ 0) (ho : o + n * es ≤ c.length) :
    meff (.clear es z) [.slice (some ⟨b, o, none⟩) n cap] H = some (.tuple #[], H.set b (.cells i (fillAt c o (List.replicate n z).flatten))) := by
  simp only [meff, h, if_neg hn]
  rw [if_pos ⟨hrw, hz, ho, by rw [okc_one]; exact hz1⟩]
theorem clear_none {z : List Value} (a : Option Addr) (cap : Nat) : meff (.clear es z) [.slice a 0 cap] H = some (.tuple #[], H) := by
  simp only [meff, if_true]
/-- Append of nothing. -/
theorem app_zero {a : Option Addr} (h : a = none → len = 0 ∧ cap = 0) (ha : ∀ x, a = some x → ∃ i c, x.spot = none ∧ H[x.block]? = some (.cells i c)) (hs : srcCells es H y = some (0, ys)) : meff (.app es bytes) [.slice a len cap, y] H = some (.slice a len cap, H) := by
  cases a with
  | none => obtain ⟨rfl, rfl⟩ := h rfl; simp only [meff, mapp, hs]; rfl
  | some x =>
    obtain ⟨i, c, h1, h2⟩ := ha x rfl
    obtain ⟨xb, xo, xs⟩ := x
    simp only [] at h1 h2
    subst h1
    simp only [meff, mapp, hs, h2]; rfl
/-- Append to no slice. -/
theorem app_nil (hs : srcCells es H y = some (n, ys)) (hn : n ≠ 0) (h1 : n ≤ 4294967296) (h2 : bytes ≤ 4096) : meff (.app es bytes) [.slice none 0 0, y] H = some (.slice (some ⟨H.length, 0, none⟩) n n, H ++ [.cells ⟨es, true, false⟩ ys]) := by
  simp only [meff, mapp, hs, if_neg hn]; rw [if_pos ⟨h1, h2⟩]
/-- Append where there is room. -/
theorem app_in (hb : H[b]? = some (.cells i c)) (hs : srcCells es H y = some (n, ys)) (hn : n ≠ 0) (he : i.es = es) (hl : len + n ≤ cap) (hrw : i.rw = true) (hc : o + (len + n) * es ≤ c.length) (hy : ys.all one = true) :
    meff (.app es bytes) [.slice (some ⟨b, o, none⟩) len cap, y] H = some (.slice (some ⟨b, o, none⟩) (len + n) cap, H.set b (.cells i (fillAt c (o + len * es) ys))) := by
  simp only [meff, mapp, hs, hb, if_neg hn]
  rw [if_pos ⟨he, by omega⟩, if_pos hl, if_pos ⟨hrw, hc, by rw [okc_one]; exact hy⟩]
/-- Append where there is none: the slice moves. -/
theorem app_mv (hb : H[b]? = some (.cells i c)) (hs : srcCells es H y = some (n, ys)) (hn : n ≠ 0) (he : i.es = es) (hlc : len ≤ cap) (hl : ¬ len + n ≤ cap) (h1 : len + n ≤ 4294967296) (h2 : bytes ≤ 4096) (hex : i.ex = false) (hrw : i.rw = true) (hc : o + cap * es = c.length) (hy : ys.all one = true) :
    meff (.app es bytes) [.slice (some ⟨b, o, none⟩) len cap, y] H = some (.slice (some ⟨H.length, 0, none⟩) (len + n) (len + n), H.set b .dead ++ [.cells ⟨es, true, false⟩ ((c.drop o).take (len * es) ++ ys)]) := by
  have : len * es ≤ cap * es := Nat.mul_le_mul_right es hlc
  simp only [meff, mapp, hs, hb, if_neg hn]
  rw [if_pos ⟨he, hlc⟩, if_neg hl, if_pos ⟨h1, h2, by omega, by rw [okc_one]; exact hy⟩, hex]
  rw [if_neg (by decide), if_pos ⟨hrw, hc, by simp⟩]
theorem app_ex (hb : H[b]? = some (.cells i c)) (hs : srcCells es H y = some (n, ys)) (hn : n ≠ 0) (he : i.es = es) (hlc : len ≤ cap) (hl : ¬ len + n ≤ cap) (h1 : len + n ≤ 4294967296) (h2 : bytes ≤ 4096) (hex : i.ex = true) (hc : o + len * es ≤ c.length) (hy : ys.all one = true) :
    meff (.app es bytes) [.slice (some ⟨b, o, none⟩) len cap, y] H = some (.slice (some ⟨H.length, 0, none⟩) (len + n) (len + n), H ++ [.cells ⟨es, true, false⟩ ((c.drop o).take (len * es) ++ ys)]) := by
  simp only [meff, mapp, hs, hb, if_neg hn]
  rw [if_pos ⟨he, hlc⟩, if_neg hl, if_pos ⟨h1, h2, hc, by rw [okc_one]; exact hy⟩, hex]
  rfl
end

/-! ### a closed run, done once by the kernel -/
def constS (v : Value) : List Value → MH → Option (Value × MH) := fun vs H => if vs.isEmpty = true then some (v, H) else none
@[simp] theorem constS_nil {v : Value} {H : MH} : constS v [] H = some (v, H) := Eq.trans rfl rfl
def isTrue : Option (Value × MH) → Bool
  | some (.bool b, _) => b
  | _ => false
@[simp] theorem isTrue_some {b : Bool} {H : MH} : isTrue (some (.bool b, H)) = b := Eq.trans rfl rfl
theorem isTrue_ex {x : Option (Value × MH)} (h : isTrue x = true) : ∃ H', x = some (.bool true, H') := by
  unfold isTrue at h
  split at h
  · subst h; exact ⟨_, rfl⟩
  · cases h
theorem known_of {mp : FuncId → Option MDef} {k : Nat} {f : FuncId} (h : isTrue (mcall mp k f [] []) = true) : ∃ H0, R mp f [] [] = some (.bool true, H0) := by
  unfold isTrue at h
  split at h
  · rename_i b H0 hm
    subst h
    exact ⟨H0, R_of_mcall hm⟩
  · cases h
theorem scalar_eq {φ : Ren} {v u : Value} (hv : scalarV v = true) (h : VRel φ v u) : u = v := by
  cases h <;> first | rfl | (cases hv; done)
theorem plain_eq {φ : Ren} {v u : Value} (hv : plainV v = true) (h : VRel φ v u) : u = v := by
  cases h with
  | agg ha h =>
    rename_i a a'
    have : a' = a := by
      apply Array.ext (by omega)
      intro i h1 h2
      have hx := h i a[i] a'[i] (Array.getElem?_eq_getElem h2) (Array.getElem?_eq_getElem h1)
      refine scalar_eq ?_ hx
      simp only [plainV] at hv
      exact List.all_eq_true.1 hv _ (by simp)
    rw [this]
  | _ => first | rfl | (exact scalar_eq hv ‹_›) | (cases hv; done)
theorem closed_intr [Glob] {P : Program} {mp : FuncId → Option MDef} (hm : MapOk P mp) {f : FuncId} {v : Value} {H0 : MH} (hr : R mp f [] [] = some (v, H0)) (hv : plainV v = true) :
    IntrOk P f (constS v) := by
  refine ⟨fun vs H r H' h φ w args hh hrel => ?_, fun vs H r H' h => ?_⟩
  · unfold constS at h
    split at h <;> first | contradiction | skip
    rename_i he
    cases h
    have : vs = [] := by simpa using he
    subst this
    cases hrel
    have := R_ok hm f [] [] v H0 hr (fun _ => none) w [] ⟨fun id pl h => (by cases h), fun id pl h => (by cases h), fun i j pi pj oi oj h => (by cases h), fun b o hG => ⟨(hh.glob b o hG).1, fun id pl ob h => (by cases h)⟩⟩ .nil
    have key : ∀ u w', (∃ φ', VRel φ' v u ∧ Step (List.length ([] : MH)) (fun _ => none) (hp []) w φ' (hp H0) w') → ∃ φ', VRel φ' v u ∧ Step H.length φ (hp H) w φ' (hp H) w' := by
      rintro u w' ⟨φ', h1, h2⟩
      have hb : ∀ b, b < w.heap.size → w'.heap[b]? = w.heap[b]? := fun b hb => h2.fr.block b hb fun id pl o h => by cases h
      refine ⟨φ, ?_, hh.world h2.fr.size (fun id pl hφ => hb _ (hh.lt id pl hφ)) (fun b o hG => hb _ (Array.getElem?_eq_some_iff.1 (hh.glob b o hG).1).1), Ren.le.refl φ, ⟨h2.fr.os, h2.fr.tape, h2.fr.output, h2.fr.size, fun b hb' _ => hb b hb'⟩, fun id pl o h1 h2 h3 _ => ⟨id, pl, o, h1, h2, h3, rfl⟩, fun id pl h1 h2 => (by rw [h2] at h1; cases h1), fun id pl h => .inl h⟩
      have : u = v := by
        have hx := VRel.plain (φ := φ') hv
        exact plain_eq hv h1
      subst this
      exact VRel.plain hv
    rcases this with ⟨hc, hcall⟩ | ⟨u, w', h1, h2⟩
    · exact .inl ⟨hc, hcall.mono fun e w' ⟨u, he, hR⟩ => ⟨u, he, key u w' hR⟩⟩
    · exact .inr ⟨u, w', h1, key u w' h2⟩
  · unfold constS at h
    split at h <;> first | contradiction | skip
    cases h; exact Keeps.refl _
end Go.Mod
/- From the model's answer to the statement: the arguments read into a model's heap; what the row's 'post' asks. -/
set_option linter.unusedVariables false
set_option linter.unusedSectionVars false
set_option linter.unusedSimpArgs false
namespace Go.Mod
open Go.ChangeShapes Go.WideShapes Go.ChangeAt Go.RowKit
section
variable [Glob]

/-- A model's heap that is read alone. -/
structure Init (φ : Ren) (H : MH) (w : World) : Prop where
  rel : HRel φ (hp H) w
  ro : ∀ (id : Nat) o, H[id]? = some o → o.mut = false
  dom : ∀ id pl, φ id = some pl → id < H.length

theorem Init.start {w : World} (hg : ∀ b o, Glob.G b = some o → w.heap[b]? = some o) : Init (fun _ => none) [] w := ⟨⟨fun id pl h => (by cases h), fun id pl h => (by cases h), fun i j pi pj oi oj h => (by cases h), fun b o hG => ⟨hg b o hG, fun id pl ob h => (by cases h)⟩⟩, fun id o h => (by simp at h), fun id pl h => (by cases h)⟩

end
theorem Init.empty (w : World) : Init (fun _ => none) [] w := Init.start fun b o h => (by cases h)
section
variable [Glob]
theorem Init.none {φ : Ren} {H : MH} {w : World} (I : Init φ H w) : φ H.length = none := by
  cases h : φ H.length with
  | none => rfl
  | some pl => have := I.dom _ pl h; omega

theorem Init.row {φ : Ren} {H : MH} {w : World} (I : Init φ H w) {b off room es : Nat} {rc : Array Value} {elem : TypeId} {fr : Nat × Nat} (hb : w.heap[b]? = some (.cells rc elem fr)) (ms : List Value) (hl : ms.length ≤ room) (hr : off + room ≤ rc.size)
    (hrel : ∀ (j : Nat) x, ms[j]? = some x → ∃ y, rc[off + j]? = some y ∧ CRel φ x y) :
    Init (φ.set H.length ⟨b, off, room, es, false⟩) (H ++ [.cells ⟨es, false, false⟩ ms]) w ∧ φ.le (φ.set H.length ⟨b, off, room, es, false⟩) := by
  obtain ⟨lo, hi⟩ := fr
  have hle := Ren.le_set (φ := φ) ⟨b, off, room, es, false⟩ I.none
  have hlt : b < w.heap.size := (Array.getElem?_eq_some_iff.1 hb).1
  have hro : ∀ (id : Nat) o, (H ++ [MObj.cells ⟨es, false, false⟩ ms])[id]? = some o → o.mut = false := by
    intro id o h
    rcases Nat.lt_or_ge id H.length with hi | hi
    · rw [List.getElem?_append_left hi] at h; exact I.ro id o h
    · rw [List.getElem?_append_right hi] at h
      cases hd : id - H.length with
      | zero => rw [hd] at h; simp at h; subst h; rfl
      | succ n => rw [hd] at h; simp at h
  refine ⟨⟨⟨fun id pl h => ?_, fun id pl h => ?_, fun i j pi pj oi oj hi hj hoi hoj hm => ?_, fun g o hG => ⟨(I.rel.glob g o hG).1, fun id pl ob _ hob hm => by rw [hro id ob hob] at hm; cases hm⟩⟩, hro, fun id pl h => ?_⟩, hle⟩
  · by_cases e : id = H.length
    · subst e
      rw [Ren.set_self] at h; cases h
      refine ⟨.cells ⟨es, false, false⟩ ms, by simp [hp], rfl, rfl, rc, elem, lo, hi, hb, hl, hr, fun j x hx => ?_, fun h => (by cases h), fun t h => by cases h⟩
      obtain ⟨y, h1, h2⟩ := hrel j x hx
      exact ⟨y, h1, h2.mono hle⟩
    · rw [Ren.set_ne _ _ e] at h
      obtain ⟨o, h1, h2⟩ := I.rel.obj id pl h
      refine ⟨o, ?_, h2.mono hle rfl⟩
      have := I.dom id pl h
      unfold hp at h1 ⊢
      rw [List.getElem?_append_left this]; exact h1
  · by_cases e : id = H.length
    · subst e; rw [Ren.set_self] at h; cases h; exact hlt
    · rw [Ren.set_ne _ _ e] at h; exact I.rel.lt id pl h
  · have := hro i oi hoi
    rw [this] at hm; cases hm
  · by_cases e : id = H.length
    · subst e; simp
    · rw [Ren.set_ne _ _ e] at h
      have := I.dom id pl h
      simp; omega

section
variable {P : Program} {A : Type} {enc : TypeId × Value → A} {φ : Ren} {H : MH} {W : World} {base : Nat}

theorem cell_add {b o : Nat} {rc : Array Value} {elem : TypeId} {fr : Nat × Nat} (hb : W.heap[b]? = some (.cells rc elem fr)) {i : Nat} : W.cell? ((⟨b, o, none⟩ : Addr).add i) = rc[o + i]? := by
  unfold Addr.add
  by_cases h : i = 0
  · subst h; simp [World.cell?, hb]
  · simp [World.cell?, hb, h]

/-- A slice of whole numbers. -/
theorem arg_ints (I : Init φ H W) {t e : TypeId} {k : IntKind} {v : Value} {d : DataW A} {ps : List MemPlace} (ht : P.underlying t = some (.slice e)) (he : P.underlying e = some (.int k)) (hc : P.cellsOf e = 1)
    (hok : Value.okWide P W .any base t v) (hd : DataW.Trod enc P W 0 (fun _ => true) true t v d ps) :
    ∃ φ' H' vm, ∃ xs : List Int, Init φ' H' W ∧ φ.le φ' ∧ Ext H H' ∧ VRel φ' vm v ∧ Row 1 H' vm (xs.map fun n => .int k n) ∧ ∀ x ∈ xs, (Lit.int k x).wf = true := by
  have hcell : Cell.ok P W .any base t v := by
    unfold Value.okWide at hok; rw [ht] at hok; simp only [] at hok
    unfold Cell.okWide at hok; rw [ht] at hok; exact hok
  unfold Cell.ok at hcell
  rw [ht] at hcell
  obtain ⟨fuel, hd⟩ := hd
  split at hcell <;> first | contradiction | skip
  · rename_i h; cases h
  · rename_i h; cases h
  · rename_i h; cases h
  · rename_i h; cases h
  · rename_i h; cases h
  · rename_i h; cases h
  · exact ⟨φ, H, .slice none 0 0, [], I, Ren.le.refl φ, Ext.refl H, .slice0, .inl ⟨rfl, rfl⟩, fun x hx => by cases hx⟩
  · rename_i h; cases h
  · rename_i e' a len cap h
    cases h
    obtain ⟨hlc, _, hhas⟩ := hcell
    obtain ⟨_, hspot, row, cells, hshape, _⟩ := hhas
    have hb : ∃ rc elem fr, W.heap[a.block]? = some (.cells rc elem fr) := by
      unfold World.shape? at hshape
      split at hshape <;> first | contradiction | skip
      rename_i c el fr hx
      exact ⟨c, el, fr, hx⟩
    obtain ⟨rc, elem, fr, hb⟩ := hb
    rcases Deep.open_slice1 ht hc hd with ⟨h0, _⟩ | ⟨a', len', cap', m, n, V, D, Pl, hcs, _, hl, _, hm, _, hV⟩
    · simp [Value.cells] at h0
    · simp only [Value.cells] at hcs
      simp at hcs
      obtain ⟨rfl, rfl, rfl⟩ := hcs
      simp only [if_true] at hm
      subst hm
      obtain ⟨ab, ao, asp⟩ := a
      simp only [] at hspot hb
      subst hspot
      have hcell : ∀ i, i < m → rc[ao + i]? = some (V i) := fun i hi => by
        have h1 := (hV i hi).1
        rw [cell_add hb] at h1
        exact h1
      have hint : ∀ i, i < m → ∃ x, V i = .int k x ∧ (Lit.int k x).wf = true := fun i hi => by
        obtain ⟨x, hx, _, hw⟩ := DataW.trod_int he (hV i hi).2
        exact ⟨x, by simpa using hx, hw⟩
      have hroom : m = 0 ∨ ao + m ≤ rc.size := by
        cases m with
        | zero => exact .inl rfl
        | succ j =>
          have := (Array.getElem?_eq_some_iff.1 (hcell j (by omega))).1
          exact .inr (by omega)
      obtain ⟨X, hX⟩ := Deep.choose_lt (α := Int) (p := fun i x => V i = .int k x ∧ (Lit.int k x).wf = true) hint
      obtain ⟨I', hle⟩ := I.row (b := ab) (off := if m = 0 then 0 else ao) (room := m) (es := 1) hb ((List.range len).map fun i => .int k (X i)) (by simpa using hl) (by split <;> omega) (fun j x hx => by
        have hj : j < len := by have := (List.getElem?_eq_some_iff.1 hx).1; simpa using this
        have hx' : x = .int k (X j) := by
          rw [List.getElem?_map, List.getElem?_range hj] at hx
          simpa using hx.symm
        rw [if_neg (by omega)]
        refine ⟨V j, hcell j (by omega), ?_⟩
        rw [hx', (hX j (by omega)).1]
        exact .inr (.int k _))
      refine ⟨_, _, .slice (some ⟨H.length, 0, none⟩) len len, (List.range len).map X, I', hle, ⟨_, rfl⟩, .slice (Ren.set_self _ _ _) (Nat.le_refl _) hl (fun h => by cases h) (by simp) (fun h => by simp only []; rw [if_neg (by omega)]; simp), .inr ⟨H.length, 0, len, len, ⟨1, false, false⟩, (List.range len).map (fun i => .int k (X i)), rfl, Nat.le_refl _, by simp, rfl, by simp, ?_⟩, ?_⟩
      · simp [Function.comp_def]
        rw [List.take_of_length_le (by simp)]
      · intro x hx
        obtain ⟨i, hi, rfl⟩ := List.mem_map.1 hx
        have := List.mem_range.1 hi
        exact (hX i (by omega)).2

/-- A whole number, a bool: read as they are. -/
theorem arg_int {t : TypeId} {k : IntKind} {v : Value} {d : DataW A} {ps : List MemPlace} (ht : P.underlying t = some (.int k)) (hok : Value.okWide P W .any base t v) (hd : DataW.Trod enc P W 0 (fun _ => true) true t v d ps) :
    ∃ n, v = .int k n ∧ (Lit.int k n).wf = true := by
  obtain ⟨n, h1, _, _, h2⟩ := ChangeShapes.open_int ht hok hd
  exact ⟨n, h1, h2⟩
theorem arg_bool {t : TypeId} {v : Value} {d : DataW A} {ps : List MemPlace} (ht : P.underlying t = some .bool) (hok : Value.okWide P W .any base t v) (hd : DataW.Trod enc P W 0 (fun _ => true) true t v d ps) :
    ∃ b, v = .bool b := by
  obtain ⟨b, h1, _⟩ := RowKit.open_bool ht hok hd
  exact ⟨b, h1⟩

/-! ### behind the call -/
theorem below_of_step {n : Nat} {φ' : Ren} {H' : MH} {W' : World} (I : Init φ H W) (st : Step n φ (hp H) W φ' (hp H') W') : RowKit.Below W.heap.size W W' :=
  ⟨st.fr.os, st.fr.tape, st.fr.output, st.fr.size, fun k hk => st.fr.block k hk fun id pl o hφ ho hm => by
    have := I.ro id o ho
    rw [this] at hm; cases hm⟩

theorem callable_of {mp : FuncId → Option MDef} {f : FuncId} {fn : MFn} (hc : cFn P f = some fn) : Callable P f := by
  unfold cFn at hc
  split at hc <;> first | contradiction | skip
  rename_i gf hf
  split at hc <;> first | contradiction | skip
  rename_i c hb
  split at hc
  · contradiction
  rename_i hname
  exact ⟨gf, hf, by rw [hb]; rfl, by simpa using hname⟩

/-- The model's answer 'true' is the program's. -/
theorem calls_true {mp : FuncId → Option MDef} (hm : MapOk P mp) {f : FuncId} {fn : MFn} (hf : cFn P f = some fn) (I : Init φ H W) {vs : List Value} {H' : MH} (hr : R mp f vs H = some (.bool true, H')) {args : Array Value} (hv : Rels (VRel φ) vs args.toList) :
    Calls P f args W fun e W' => e = .returned (.bool true) ∧ RowKit.Below W.heap.size W W' := by
  have hi := R_ok hm f vs H _ H' hr φ W args.toList I.rel hv
  have ha : args.toList.toArray = args := by simp
  rw [ha] at hi
  rcases hi with ⟨_, hc⟩ | ⟨v, W', h1, _⟩
  · refine hc.mono fun e W' ⟨v, he, φ', h1, h2⟩ => ⟨?_, below_of_step I h2⟩
    rw [he, plain_eq (v := .bool true) rfl h1]
  · rw [run_callFunc (callable_of (mp := mp) hf)] at h1
    cases h1

theorem trodAll_below {W' : World} (hl : laidOutB P = true) : ∀ {ts : List TypeId} {vs : List Value} {ds : List (DataW A)} {ps : List MemPlace}, (∀ t ∈ ts, P.readableRec t = true ∧ t < P.types.size) → DataW.TrodAll enc P W 0 (fun _ => true) true ts vs ds ps →
    RowKit.Below W.heap.size W W' → (∀ x ∈ ps, x.block < W.heap.size) → ∀ sp : Nat → Bool, (∀ p ∈ ps, sp p.block = true) → DataW.TrodAll enc P W' 0 sp true ts vs ds ps
  | [], [], [], ps, _, h, _, _, _, _ => h
  | t :: ts, v :: vs, d :: ds, ps, ht, h, hb, hlt, sp, hs => by
    obtain ⟨p, q, h1, h2, rfl⟩ := h
    have hx := ht t (by simp)
    exact ⟨p, q, WideElems.Trod_stays hl hx.1 hx.2 h1 (fun x hx => hb.same (hlt x (by simp [hx]))) (fun x hx => hs x (by simp [hx])), trodAll_below hl (fun t h => ht t (List.mem_cons_of_mem _ h)) h2 hb (fun x hx => hlt x (by simp [hx])) sp (fun x hx => hs x (by simp [hx])), rfl⟩
  | [], _ :: _, _, _, _, h, _, _, _, _ => h.elim
  | [], [], _ :: _, _, _, h, _, _, _, _ => h.elim
  | _ :: _, [], _, _, _, h, _, _, _, _ => h.elim
  | _ :: _, _ :: _, [], _, _, h, _, _, _, _ => h.elim

/-- What the row's 'post' asks, where the function hands back true and nothing that was there has turned. -/
theorem post_true {f : Func} {s : ChangeSpec} {apart fresh handsOn again : Bool} {W' : World} {args : Array Value} {ds gs : List (DataW A)} {before : List MemPlace} {tb : TypeId}
    (hW : DataW.Whole enc P f.params.toList s.vars apart W args.toList ds gs before) (hl : laidOutB P = true) (hrec : ∀ t ∈ f.params.toList, P.readableRec t = true ∧ t < P.types.size) (hres : f.resultTypes = #[tb]) (ht : P.underlying tb = some .bool)
    (hvars : s.vars = []) (hs1 : (s.fn A (ds ++ gs)).results = [.lit (.bool true)]) (hs2 : (s.fn A (ds ++ gs)).args = ds) (hs3 : (s.fn A (ds ++ gs)).vars = []) (hb : RowKit.Below W.heap.size W W') : s.post enc P f apart fresh handsOn again W args (.bool true) W' := by
  have hlt := hW.lt
  have hW0 := hW
  obtain ⟨p, q, hA, hV, rfl, hfz, hnd⟩ := hW
  rw [hvars] at hV
  obtain ⟨rfl, rfl⟩ := ChangeShapes.trodVars_none hV
  have hold : ∀ x ∈ p, (fun b => decide (b < W.heap.size)) x.block = true := fun x hx => by simpa using hlt x (by simpa using hx)
  have hargs : ∀ sp : Nat → Bool, (∀ x ∈ p, sp x.block = true) → DataW.TrodAll enc P W' 0 sp true f.params.toList args.toList (s.fn A (ds ++ [])).args p := fun sp hsp => by
    rw [hs2]
    exact trodAll_below hl hrec hA hb (fun x hx => hlt x (by simpa using hx)) sp hsp
  have hres' : ∀ (b : Nat) (sp : Nat → Bool) (hd : Bool), DataW.TrodAll enc P W' b sp hd f.resultTypes.toList ((Value.bool true).resultList f.resultTypes.size) (s.fn A (ds ++ [])).results [] := fun b sp hd => by
    rw [hs1, hres]
    exact trodAll_cons_mk (shut_bool ht _) trodAll_mk0
  have hfrz : ∀ a : Addr, a.block < W.heap.size → W'.frozen? a = W.frozen? a := fun a ha => hb.frozen ha
  refine ⟨ds, [], p ++ [], [], p, [], hW0, hres' _ _ _, hargs _ hold, by rw [hs3, hvars]; rfl, World.keptBut_mono (fun x hx => hx.elim) (hb.frame fun _ => False), fun _ => ⟨ok_one hres rfl (okWide_bool_mk ht _), _, [], ([] ++ p) ++ [], ⟨[] ++ p, [], trodAll_append (hargs _ (fun _ _ => rfl)) (hres' _ _ _), by rw [hvars]; rfl, rfl, ?_, ?_⟩, ?_⟩⟩
  · intro b off hp
    have hp' : MemPlace.cell b off ∈ p := by simpa using hp
    rw [hfrz ⟨b, off, none⟩ (hlt (.cell b off) (by simpa using hp'))]
    exact hfz b off (by simpa using hp')
  · intro ha
    have := hnd ha
    simpa using this
  · intro x hx _
    simpa using hx
end

/-! ### what fits a kind -/
section
variable {n : Int}
theorem wf_u8 (h : (Lit.int .u8 n).wf = true) : 0 ≤ n ∧ n < 256 := by
  simp [Lit.wf, IntKind.min, IntKind.max, IntKind.signed, IntKind.bits] at h; omega
theorem wf_u16 (h : (Lit.int .u16 n).wf = true) : 0 ≤ n ∧ n < 65536 := by
  simp [Lit.wf, IntKind.min, IntKind.max, IntKind.signed, IntKind.bits] at h; omega
theorem wf_u32 (h : (Lit.int .u32 n).wf = true) : 0 ≤ n ∧ n < 4294967296 := by
  simp [Lit.wf, IntKind.min, IntKind.max, IntKind.signed, IntKind.bits] at h; omega
theorem wf_i16 (h : (Lit.int .i16 n).wf = true) : -32768 ≤ n ∧ n < 32768 := by
  simp [Lit.wf, IntKind.min, IntKind.max, IntKind.signed, IntKind.bits] at h; omega
theorem wf_i64 (h : (Lit.int .i64 n).wf = true) : -9223372036854775808 ≤ n ∧ n < 9223372036854775808 := by
  simp [Lit.wf, IntKind.min, IntKind.max, IntKind.signed, IntKind.bits] at h; omega
end
end
end Go.Mod
/- Arguments of any shape (whole numbers, bools, strings, structs, slices of them) read into a model's heap. -/
set_option linter.unusedVariables false
set_option linter.unusedSimpArgs false
namespace Go.Mod
variable [Glob]
set_option linter.unusedSectionVars false
open Go.ChangeShapes Go.WideShapes Go.ChangeAt Go.RowKit

/-- What lies in a cell. -/
inductive Sh where
  | int (k : IntKind)
  | bool
  | str
  | row (fs : List Sh)
inductive D where
  | int (n : Int)
  | bool (b : Bool)
  | str (s : ByteArray)
  | row (l : List (List D))

inductive Rep (H : MH) : Sh → Value → D → Prop
  | int {k : IntKind} {n : Int} (h : (Lit.int k n).wf = true) : Rep H (.int k) (.int k n) (.int n)
  | bool {b : Bool} : Rep H .bool (.bool b) (.bool b)
  | str {s : ByteArray} (h : s.size ≤ maxLen) : Rep H .str (.string s) (.str s)
  | nil {fs : List Sh} : Rep H (.row fs) (.slice none 0 0) (.row [])
  | row {fs : List Sh} {b n : Nat} {cs : List Value} {ds : List (List D)} (hB : H[b]? = some (.cells ⟨fs.length, false, false⟩ cs)) (hn : ds.length = n) (hm : n ≤ maxLen) (hl : cs.length = n * fs.length)
      (hw : ∀ d ∈ ds, d.length = fs.length)
      (h : ∀ (i j : Nat) d f x v, ds[i]? = some d → fs[j]? = some f → d[j]? = some x → cs[i * fs.length + j]? = some v → Rep H f v x) : Rep H (.row fs) (.slice (some ⟨b, 0, none⟩) n n) (.row ds)

theorem Rep.ext {H H' : MH} (e : Ext H H') {s : Sh} {v : Value} {d : D} (h : Rep H s v d) : Rep H' s v d := by
  induction h with
  | int h => exact .int h
  | bool => exact .bool
  | str h => exact .str h
  | nil => exact .nil
  | row hB hn hm hl hw h ih => exact .row (e.get hB) hn hm hl hw ih

/-- Cells side by side. -/
structure RepL (H : MH) (fs : List Sh) (ms : List Value) (ds : List D) : Prop where
  ml : ms.length = fs.length
  dl : ds.length = fs.length
  at_ : ∀ (j : Nat) f v x, fs[j]? = some f → ms[j]? = some v → ds[j]? = some x → Rep H f v x
theorem RepL.ext {H H' : MH} (e : Ext H H') {fs : List Sh} {ms : List Value} {ds : List D} (h : RepL H fs ms ds) : RepL H' fs ms ds := ⟨h.ml, h.dl, fun j f v x a b c => (h.at_ j f v x a b c).ext e⟩
theorem RepL.nil {H : MH} : RepL H [] [] [] := ⟨rfl, rfl, fun j f v x a => by simp at a⟩
theorem RepL.one {H : MH} {f : Sh} {v : Value} {x : D} (h : Rep H f v x) : RepL H [f] [v] [x] := ⟨rfl, rfl, fun j g u y a b c => by
  cases j with
  | zero => simp at a b c; subst a; subst b; subst c; exact h
  | succ j => simp at a⟩
theorem RepL.append {H : MH} {fs fs' : List Sh} {ms ms' : List Value} {ds ds' : List D} (h : RepL H fs ms ds) (g : RepL H fs' ms' ds') : RepL H (fs ++ fs') (ms ++ ms') (ds ++ ds') :=
  ⟨by simp [h.ml, g.ml], by simp [h.dl, g.dl], fun j f v x a b c => by
    have h1 := h.ml; have h2 := h.dl
    rcases Nat.lt_or_ge j fs.length with hj | hj
    · rw [List.getElem?_append_left hj] at a
      rw [List.getElem?_append_left (by omega)] at b c
      exact h.at_ j f v x a b c
    · rw [List.getElem?_append_right hj] at a
      rw [List.getElem?_append_right (by omega)] at b c
      rw [h1] at b; rw [h2] at c
      exact g.at_ _ f v x a b c⟩

/-! ### of which shape a type is -/
def shFields (g : TypeId → Option (List Sh)) (P : Program) : Nat → List Field → Option (List Sh)
  | _, [] => some []
  | off, f :: fs => match g f.type with
    | some l => if f.offset = off ∧ P.cellsOf f.type = l.length then (shFields g P (off + l.length) fs).map (l ++ ·) else none
    | none => none
def shOf (P : Program) : Nat → TypeId → Option (List Sh)
  | 0, _ => none
  | k + 1, t => match P.underlying t with
    | some .bool => some [.bool]
    | some (.int i) => some [.int i]
    | some .string => some [.str]
    | some (.slice e) => match shOf P k e with
      | some fs => if P.cellsOf e = fs.length ∧ 0 < fs.length then some [.row fs] else none
      | none => none
    | some (.struct fs) => match shFields (shOf P k) P 0 fs.toList with
      | some l => if P.cellsOf t = l.length then some l else none
      | none => none
    | _ => none

theorem Rels.single {R : Value → Value → Prop} {x y : Value} (h : R x y) : Rels R [x] [y] := .cons h .nil
theorem Init.pad {φ : Ren} {H : MH} {w : World} (I : Init φ H w) (i : Info) (cs : List Value) (hi : i.rw = false) : Init φ (H ++ [.cells i cs]) w := by
  have hro : ∀ (id : Nat) o, (H ++ [MObj.cells i cs])[id]? = some o → o.mut = false := by
    intro id o h
    rcases Nat.lt_or_ge id H.length with hi' | hi'
    · rw [List.getElem?_append_left hi'] at h; exact I.ro id o h
    · rw [List.getElem?_append_right hi'] at h
      cases hd : id - H.length with
      | zero => rw [hd] at h; simp at h; subst h; exact hi
      | succ n => rw [hd] at h; simp at h
  refine ⟨⟨fun id pl h => ?_, I.rel.lt, fun a b pi pj oi oj hi hj hoi hoj hm => ?_, fun g o hG => ⟨(I.rel.glob g o hG).1, fun id pl ob _ hob hm => by rw [hro id ob hob] at hm; cases hm⟩⟩, hro, fun id pl h => ?_⟩
  · obtain ⟨o, h1, h2⟩ := I.rel.obj id pl h
    refine ⟨o, ?_, h2⟩
    have := I.dom id pl h
    unfold hp at h1 ⊢
    rw [List.getElem?_append_left this]; exact h1
  · have := hro a oi hoi
    rw [this] at hm; cases hm
  · have := I.dom id pl h
    simp; omega

section
variable {P : Program} {A : Type} {enc : TypeId × Value → A} {W : World}

/-- What reading cells yields. -/
def Got (φ : Ren) (H : MH) (W : World) (fs : List Sh) (cs : List Value) : Prop :=
  ∃ φ' H' ms ds, Init φ' H' W ∧ φ.le φ' ∧ Ext H H' ∧ Rels (VRel φ') ms cs ∧ RepL H' fs ms ds

theorem read_fields {n k : Nat} (ih : ∀ (t : TypeId) (cs : List Value) x (fs : List Sh) (φ : Ren) (H : MH), DataW.trod enc P W 0 (fun _ => true) true n t cs = some x → shOf P k t = some fs → Init φ H W → Got φ H W fs cs) {cs : List Value} :
    ∀ (l : List Field) (off : Nat) (fs : List Sh) (φ : Ren) (H : MH), (∀ f ∈ l, ∃ x, DataW.trod enc P W 0 (fun _ => true) true n f.type ((cs.drop f.offset).take (P.cellsOf f.type)) = some x) → shFields (shOf P k) P off l = some fs → Init φ H W → Got φ H W fs ((cs.drop off).take fs.length)
  | [], off, fs, φ, H, _, h, I => by
    simp only [shFields] at h; cases h
    exact ⟨φ, H, [], [], I, Ren.le.refl φ, Ext.refl H, by simp; exact .nil, RepL.nil⟩
  | f :: l, off, fs, φ, H, hx, h, I => by
    simp only [shFields] at h
    split at h <;> first | contradiction | skip
    rename_i l1 h1
    split at h <;> first | contradiction | skip
    rename_i hc
    obtain ⟨l2, h2, rfl⟩ := Option.map_eq_some_iff.1 h
    obtain ⟨x, hx0⟩ := hx f (by simp)
    obtain ⟨φ1, H1, m1, d1, I1, le1, e1, r1, p1⟩ := ih _ _ _ _ φ H hx0 h1 I
    obtain ⟨φ2, H2, m2, d2, I2, le2, e2, r2, p2⟩ := read_fields ih l (off + l1.length) l2 φ1 H1 (fun g hg => hx g (by simp [hg])) h2 I1
    refine ⟨φ2, H2, m1 ++ m2, d1 ++ d2, I2, le1.trans le2, e1.trans e2, ?_, (p1.ext e2).append p2⟩
    rw [List.length_append, List.take_add, List.drop_drop]
    rw [hc.1, hc.2] at r1
    exact (r1.imp fun _ _ h => h.mono le2).append r2

theorem read_elems {n k : Nat} (ih : ∀ (t : TypeId) (cs : List Value) x (fs : List Sh) (φ : Ren) (H : MH), DataW.trod enc P W 0 (fun _ => true) true n t cs = some x → shOf P k t = some fs → Init φ H W → Got φ H W fs cs)
    {e : TypeId} {fs : List Sh} (hsh : shOf P k e = some fs) (hce : P.cellsOf e = fs.length) (h0 : 0 < fs.length) {b o : Nat} {rc : Array Value} {elem : TypeId} {fr : Nat × Nat} (hb : W.heap[b]? = some (.cells rc elem fr)) :
    ∀ (m : Nat), (∀ i, i < m → ∃ cs' x, W.cells? 0 ((⟨b, o, none⟩ : Addr).add (i * P.cellsOf e)) (P.cellsOf e) = some cs' ∧ DataW.trod enc P W 0 (fun _ => true) true n e cs' = some x) → ∀ (φ : Ren) (H : MH), Init φ H W →
    ∃ (φ' : Ren) (H' : MH) (ms : List Value) (ds : List (List D)), Init φ' H' W ∧ φ.le φ' ∧ Ext H H' ∧ ms.length = m * fs.length ∧ ds.length = m ∧ (∀ d ∈ ds, d.length = fs.length) ∧
      (∀ (i j : Nat) d f x v, ds[i]? = some d → fs[j]? = some f → d[j]? = some x → ms[i * fs.length + j]? = some v → Rep H' f v x) ∧
      ∀ (j : Nat) x, ms[j]? = some x → ∃ y, rc[o + j]? = some y ∧ VRel φ' x y
  | 0, _, φ, H, I => by
    refine ⟨φ, H, [], [], I, Ren.le.refl φ, Ext.refl H, by simp, rfl, ?_, ?_, ?_⟩
    · intro d h; cases h
    · intro i j d f x v h; simp at h
    · intro j x h; simp at h
  | m + 1, hx, φ, H, I => by
    obtain ⟨φ1, H1, ms, ds, I1, le1, e1, l1, l2, w1, p1, q1⟩ := read_elems ih hsh hce h0 hb m (fun i hi => hx i (by omega)) φ H I
    obtain ⟨cs', x, hcs, htr⟩ := hx m (by omega)
    obtain ⟨φ2, H2, m2, d2, I2, le2, e2, r2, p2⟩ := ih _ _ _ _ φ1 H1 htr hsh I1
    obtain ⟨_, hcl, hcat⟩ := World.cells?_some hcs
    refine ⟨φ2, H2, ms ++ m2, ds ++ [d2], I2, le1.trans le2, e1.trans e2, by simp [l1, p2.ml, Nat.add_mul], by simp [l2], fun d hd => ?_, fun i j d f x v a1 a2 a3 a4 => ?_, fun j x hj => ?_⟩
    · rcases List.mem_append.1 hd with h | h
      · exact w1 d h
      · simp at h; subst h; exact p2.dl
    · have hjl : j < fs.length := (List.getElem?_eq_some_iff.1 a2).1
      rcases Nat.lt_or_ge i m with hi | hi
      · rw [List.getElem?_append_left (by omega)] at a1
        have : i * fs.length + j < ms.length := by
          rw [l1]
          have := Nat.mul_le_mul_right fs.length (show i + 1 ≤ m by omega)
          rw [Nat.add_mul] at this; omega
        rw [List.getElem?_append_left this] at a4
        exact (p1 i j d f x v a1 a2 a3 a4).ext e2
      · have hi' : i = m := by
          have := (List.getElem?_eq_some_iff.1 a1).1
          simp [l2] at this; omega
        subst hi'
        rw [List.getElem?_append_right (by omega), l2, Nat.sub_self] at a1
        simp at a1; subst a1
        rw [List.getElem?_append_right (by omega), l1, Nat.add_sub_cancel_left] at a4
        exact p2.at_ j f v x a2 a4 a3
    · rcases Nat.lt_or_ge j ms.length with hl | hl
      · rw [List.getElem?_append_left hl] at hj
        obtain ⟨y, h1, h2⟩ := q1 j x hj
        exact ⟨y, h1, h2.mono le2⟩
      · rw [List.getElem?_append_right hl] at hj
        obtain ⟨y, h1, h2⟩ := r2.get _ x hj
        refine ⟨y, ?_, h2⟩
        have hlt := (List.getElem?_eq_some_iff.1 hj).1
        have := hcat (j - ms.length) (by rw [hce, ← p2.ml]; exact hlt)
        rw [Deep.add_add, cell_add hb] at this
        rw [← h1, ← this, hce, l1]
        congr 1
        omega

theorem read_cells : ∀ (fuel : Nat) (k : Nat) (t : TypeId) (cs : List Value) x (fs : List Sh) (φ : Ren) (H : MH), DataW.trod enc P W 0 (fun _ => true) true fuel t cs = some x → shOf P k t = some fs → Init φ H W → Got φ H W fs cs
  | 0, k, t, cs, x, fs, φ, H, h, _, _ => by simp [DataW.trod] at h
  | fuel + 1, 0, t, cs, x, fs, φ, H, _, h, _ => by simp [shOf] at h
  | fuel + 1, k + 1, t, cs, x, fs, φ, H, h, hs, I => by
    simp only [shOf] at hs
    split at hs <;> first | contradiction | skip
    · rename_i ht; cases hs
      obtain ⟨b, rfl, _⟩ := DataW.trod_bool ht h
      exact ⟨φ, H, [.bool b], [.bool b], I, Ren.le.refl φ, Ext.refl H, .single (.bool b), .one .bool⟩
    · rename_i ki ht; cases hs
      obtain ⟨n, rfl, _, hw⟩ := DataW.trod_int ht h
      exact ⟨φ, H, [.int ki n], [.int n], I, Ren.le.refl φ, Ext.refl H, .single (.int _ _), .one (.int hw)⟩
    · rename_i ht; cases hs
      unfold DataW.trod at h
      rw [ht] at h
      have : ∃ s : ByteArray, cs = [.string s] ∧ s.size ≤ maxLen := by
        split at h <;> simp_all
      obtain ⟨s, rfl, hw⟩ := this
      exact ⟨φ, H, [.string s], [.str s], I, Ren.le.refl φ, Ext.refl H, .single (.string s), .one (.str hw)⟩
    · rename_i e ht
      split at hs <;> first | contradiction | skip
      rename_i gs hg
      split at hs <;> first | contradiction | skip
      rename_i hc
      cases hs
      obtain ⟨hce, h0⟩ := hc
      rcases DataW.trod_slice ht h with ⟨rfl, _⟩ | ⟨a, len, cap, elems, rest, n, hfu, rfl, _, _, hl, hm, hel, hE, hR, _⟩
      · exact ⟨φ, H, [.slice none 0 0], [.row []], I, Ren.le.refl φ, Ext.refl H, .single .slice0, .one .nil⟩
      · have hfu' : n = fuel := by omega
        subst hfu'
        obtain ⟨hrl, hR⟩ := hR rfl
        have all : ∀ i, i < cap → ∃ cs' x, W.cells? 0 (a.add (i * P.cellsOf e)) (P.cellsOf e) = some cs' ∧ DataW.trod enc P W 0 (fun _ => true) true n e cs' = some x := by
          intro i hi
          by_cases hil : i < len
          · have := hE i hil
            rw [List.getElem?_eq_getElem (by omega)] at this
            obtain ⟨cs', h1, h2⟩ := Option.bind_eq_some_iff.1 this
            exact ⟨cs', _, h1, h2⟩
          · have := hR (i - len) (by omega)
            rw [show len + (i - len) = i by omega, List.getElem?_eq_getElem (by omega)] at this
            obtain ⟨cs', h1, h2⟩ := Option.bind_eq_some_iff.1 this
            exact ⟨cs', _, h1, h2⟩
        by_cases hcap : cap = 0
        · subst hcap
          have : len = 0 := by omega
          subst this
          refine ⟨φ, H ++ [.cells ⟨gs.length, false, false⟩ []], [.slice (some ⟨H.length, 0, none⟩) 0 0], [.row []], I.pad _ _ rfl, Ren.le.refl φ, ⟨_, rfl⟩, .single .slicee, .one (.row (cs := []) (by simp) rfl (by omega) (by simp) (fun d hd => by cases hd) fun i j d f x v h => by simp at h)⟩
        · obtain ⟨ab, ao, asp⟩ := a
          have hcellAt : ∀ i j, i < cap → j < gs.length → ∃ y, W.cell? ((⟨ab, ao, asp⟩ : Addr).add (i * P.cellsOf e + j)) = some y := by
            intro i j hi hj
            obtain ⟨cs', _, h1, _⟩ := all i hi
            obtain ⟨_, hcl, hcat⟩ := World.cells?_some h1
            have := hcat j (by omega)
            rw [Deep.add_add] at this
            rw [this]
            exact ⟨_, List.getElem?_eq_getElem (by omega)⟩
          obtain ⟨y0, hy0⟩ := hcellAt 0 0 (by omega) h0
          have hsp : asp = none := by
            simp [Addr.add, World.cell?] at hy0
            split at hy0 <;> first | contradiction | skip
            cases asp with
            | none => rfl
            | some s => simp at hy0
          subst hsp
          have hb : ∃ rc elem fr, W.heap[ab]? = some (.cells rc elem fr) := by
            simp [Addr.add, World.cell?] at hy0
            split at hy0 <;> first | contradiction | skip
            rename_i c el fr hx
            exact ⟨c, el, fr, hx⟩
          obtain ⟨rc, elem, fr, hb⟩ := hb
          have hroom : ao + cap * gs.length ≤ rc.size := by
            obtain ⟨y, hy⟩ := hcellAt (cap - 1) (gs.length - 1) (by omega) (by omega)
            rw [cell_add hb] at hy
            have := (Array.getElem?_eq_some_iff.1 hy).1
            rw [hce, Nat.sub_mul] at this
            have h2 := Nat.mul_le_mul_right gs.length (show 1 ≤ cap by omega)
            omega
          obtain ⟨φ1, H1, ms, ds, I1, le1, e1, l1, l2, w1, p1, q1⟩ := read_elems (fun t cs x fs φ H => read_cells n k t cs x fs φ H) hg hce h0 hb len (fun i hi => all i (by omega)) φ H I
          have hmul : len * gs.length ≤ cap * gs.length := Nat.mul_le_mul_right _ hl
          obtain ⟨I2, le2⟩ := I1.row (b := ab) (off := ao) (room := cap * gs.length) (es := gs.length) hb ms (by omega) hroom (fun j x hx => by
            obtain ⟨y, h1, h2⟩ := q1 j x hx
            exact ⟨y, h1, .inr h2⟩)
          have e2 : Ext H1 (H1 ++ [.cells ⟨gs.length, false, false⟩ ms]) := ⟨_, rfl⟩
          refine ⟨_, _, [.slice (some ⟨H1.length, 0, none⟩) len len], [.row ds], I2, le1.trans le2, e1.trans e2, .single (.slice (pl := ⟨ab, ao, cap * gs.length, gs.length, false⟩) (Ren.set_self _ _ _) (Nat.le_refl _) hl (fun h => by cases h) (by simp) (fun _ => by simp)), .one (.row (cs := ms) (by simp) l2 (by omega) l1 w1 fun i j d f x v a1 a2 a3 a4 => (p1 i j d f x v a1 a2 a3 a4).ext e2)⟩
    · rename_i gs ht
      split at hs <;> first | contradiction | skip
      rename_i l hl
      split at hs <;> first | contradiction | skip
      rename_i hc
      cases hs
      obtain ⟨xs, n, hfu, _, hlen, hxs, hf⟩ := DataW.trod_struct ht h
      have hfu' : n = fuel := by omega
      subst hfu'
      have := read_fields (fun t cs x fs φ H => read_cells n k t cs x fs φ H) (cs := cs) gs.toList 0 fs φ H (fun f hf' => by
        obtain ⟨i, hi⟩ := List.mem_iff_getElem?.1 hf'
        have hi' : gs[i]? = some f := by simpa using hi
        have hlt : i < gs.size := (Array.getElem?_eq_some_iff.1 hi').1
        have := hf i f hi'
        rw [List.getElem?_eq_getElem (by omega)] at this
        exact ⟨_, this⟩) hl I
      rw [List.drop_zero, List.take_of_length_le (by omega)] at this
      exact this

/-- May a type lie in one cell? -/
def cellTy (P : Program) (t : TypeId) : Bool := match P.underlying t with
  | some .bool | some (.int _) | some .string | some (.slice _) => true
  | _ => false
def structTy (P : Program) (t : TypeId) : Bool := match P.underlying t with
  | some (.struct _) => true
  | _ => false
/-- An argument of one cell. -/
theorem arg_cell {φ : Ren} {H : MH} (I : Init φ H W) {base k : Nat} {t : TypeId} {s : Sh} {v : Value} {d : DataW A} {ps : List MemPlace} (ht : cellTy P t = true) (hs : shOf P k t = some [s])
    (hok : Value.okWide P W .any base t v) (hd : DataW.Trod enc P W 0 (fun _ => true) true t v d ps) :
    ∃ φ' H' m x, Init φ' H' W ∧ φ.le φ' ∧ Ext H H' ∧ VRel φ' m v ∧ Rep H' s m x := by
  have hfl : v.cells.toList = [v] := by
    unfold Value.okWide at hok
    unfold cellTy at ht
    split at ht <;> first | contradiction | skip
    all_goals
      rename_i hu
      rw [hu] at hok
      simp only [Cell.okWide, hu, Cell.ok] at hok
      cases v <;> first | rfl | (simp at hok; done)
  obtain ⟨fuel, hd⟩ := hd
  rw [hfl] at hd
  obtain ⟨φ', H', ms, ds, I', le, e, r, p⟩ := read_cells fuel k t _ _ _ φ H hd hs I
  have h1 := p.ml
  have h2 := p.dl
  match ms, ds, h1, h2 with
  | [m], [x], _, _ =>
    obtain ⟨y, hy, hx⟩ := rels1' r
    cases hy
    exact ⟨φ', H', m, x, I', le, e, hx, p.at_ 0 _ _ _ rfl rfl rfl⟩
/-- An argument that is a struct. -/
theorem arg_struct {φ : Ren} {H : MH} (I : Init φ H W) {base k : Nat} {t : TypeId} {fs : List Sh} {v : Value} {d : DataW A} {ps : List MemPlace} (ht : structTy P t = true) (hs : shOf P k t = some fs)
    (hok : Value.okWide P W .any base t v) (hd : DataW.Trod enc P W 0 (fun _ => true) true t v d ps) :
    ∃ φ' H' ms ds, Init φ' H' W ∧ φ.le φ' ∧ Ext H H' ∧ VRel φ' (.agg ms.toArray) v ∧ RepL H' fs ms ds := by
  have hfl : ∃ cs, v = .agg cs := by
    unfold Value.okWide at hok
    unfold structTy at ht
    split at ht <;> first | contradiction | skip
    rename_i hu
    rw [hu] at hok
    obtain ⟨cs, rfl, _⟩ := hok
    exact ⟨cs, rfl⟩
  obtain ⟨cs, rfl⟩ := hfl
  obtain ⟨fuel, hd⟩ := hd
  obtain ⟨φ', H', ms, ds, I', le, e, r, p⟩ := read_cells fuel k t _ _ _ φ H hd hs I
  refine ⟨φ', H', ms, ds, I', le, e, ?_, p⟩
  have := VRel.agg_of r
  simpa using this
end
end Go.Mod
/- slices.overlaps, which the machine gives a meaning of its own. -/
set_option linter.unusedVariables false
set_option linter.unusedSimpArgs false
namespace Go.Mod
variable [Glob]
set_option linter.unusedSectionVars false

/-- The function is the machine's slices.overlaps. -/
def OverFn (P : Program) (f : FuncId) : Prop := ∃ fn tS tR e size, P.funcs[f]? = some fn ∧ (fn.name == "runtime.NumGoroutine") = false ∧ fn.body.isNone = true ∧ Extern.findNext fn = none ∧
  Extern.find fn = some (Extern.SlicesOverlaps.overlaps #[tS, tS] #[tR]) ∧ P.underlying tS = some (.slice e) ∧ szOf P e = some size

/-- Slices of different objects that may be written do not overlap. -/
def overS : List Value → MH → Option (Value × MH)
  | [.slice (some ⟨a, _, none⟩) la ca, .slice (some ⟨b, _, none⟩) lb cb], H =>
    match H[a]?, H[b]? with
    | some (.cells i _), some (.cells j _) => if a ≠ b ∧ i.rw = true ∧ j.rw = true ∧ 0 < la ∧ 0 < lb ∧ lb ≤ cb ∧ 0 < j.es ∧ 1 < i.es then some (.bool false, H) else none
    | _, _ => none
  | _, _ => none

theorem over_ok {P : Program} {f : FuncId} (h : OverFn P f) : IntrOk P f overS := by
  obtain ⟨fn, tS, tR, e, size, hf, hn, hb, hnx, hfd, ht, hs⟩ := h
  refine ⟨fun vs H r H' hm φ w args hh hr => ?_, fun vs H r H' hm => ?_⟩
  · unfold overS at hm
    split at hm <;> first | contradiction | skip
    rename_i a oa la ca b ob lb cb
    split at hm <;> first | contradiction | skip
    rename_i i cs j ds hA hB
    split at hm <;> first | contradiction | skip
    rename_i hc
    obtain ⟨hab, hi, hj, hla, hlb, hlc, hes, hie⟩ := hc
    cases hm
    obtain ⟨x, y, rfl, hx, hy⟩ := rels2' hr
    cases hx with
    | slicee => omega
    | slice hφ hn1 hc1 hex1 hroom1 ha1 =>
    rename_i ca' ba' pa
    cases hy with
    | slicee => omega
    | slice hψ hn2 hc2 hex2 hroom2 ha2 =>
    rename_i cb' bb' pb
    obtain ⟨q1, q2, rc, elem, lo, hi', q3, q4, q5, q6, q7⟩ := hh.cells hφ hA
    obtain ⟨p1, p2, rd, eled, lo2, hi2, p3, p4, p5, p6, p7⟩ := hh.cells hψ hB
    have hne : pa.block ≠ pb.block := fun he => hab (hh.sep a b pa pb _ _ hφ hψ hA hB (by simpa [MObj.mut] using hi) rfl he)
    have h7 := q7.1 hi
    refine .inr ⟨.bool false, w, ?_, φ, .bool false, Step.refl hh⟩
    rw [run_callFunc_extern hf hn hb hnx hfd]
    have hfz : ∀ k, w.frozen? ⟨pa.block, k, none⟩ = false := fun k => by
      simp [World.frozen?, q3]; omega
    rw [Lib.run_overlaps_apart w tS tR e ht size (fun w => szOf_sim (w := w) hs) ⟨pa.block, ba', none⟩ ⟨pb.block, bb', none⟩ la ca' lb cb' hne elem eled rc.size rd.size (by simp [World.shape?, q3]) (by simp [World.shape?, p3]) (by
      have h1 : 1 * pb.es ≤ cb' * pb.es := Nat.mul_le_mul_right _ (by omega)
      have : pb.es = j.es := p1.symm
      omega) (hfz _) (hfz _)]
    rfl
  · unfold overS at hm
    split at hm <;> first | contradiction | skip
    split at hm <;> first | contradiction | skip
    split at hm <;> first | contradiction | skip
    cases hm; exact Keeps.refl _
end Go.Mod

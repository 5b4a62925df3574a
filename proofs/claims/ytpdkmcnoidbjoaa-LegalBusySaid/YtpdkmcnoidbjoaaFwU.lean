/- A region whose order is drawn, V: every order comes to what the text's order comes to. -/
import Derived.Test.YtpdkmcnoidbjoaaFwT
set_option linter.unusedVariables false
set_option linter.unusedSimpArgs false
namespace Go.Mod

section
variable {P : Program} {call : CallF} {n : Nat} {ops : Array Oper} {all : List MOper} {base : Nat} {S : Nat → Reg × MH} {anc : Nat → List Nat} {H : MH} {φ0 : Ren} {w0 : World} {ds : List Deferred}
variable {φ : Ren} {p : Nat} {listed : Array Bool} {a : Act} {w : World}

theorem ready_of {j : Nat} (hl : listed.size = ops.size) (h : j ∈ Region.ready .any ops listed) : Ready ops listed j := by
  obtain ⟨h0, o, ho, hd⟩ := mem_ready.1 h
  have hlt : j < ops.size := (Array.getElem?_eq_some_iff.1 ho).1
  refine ⟨hlt, ?_, fun e he => ?_⟩
  · have : j < listed.size := by omega
    simp [Array.getD_eq_getD_getElem?, Array.getElem?_eq_getElem this] at h0 ⊢
    exact h0
  · have : ops.getD j default = o := by simp [Array.getD_eq_getD_getElem?, ho]
    rw [this] at he
    unfold direct at he
    obtain ⟨x, hx, rfl⟩ := List.mem_map.1 he
    obtain ⟨hx1, hx2⟩ := List.mem_filter.1 hx
    exact hd x (by simpa using hx1) hx2

/-- Where nothing is ready, all is done. -/
theorem Ctx.all_listed (C : Ctx P call n ops all base S anc H) (hl : listed.size = ops.size) (h : Region.ready .any ops listed = []) : ∀ (k i : Nat), i < k → i < ops.size → listed.getD i false = true
  | 0, i, hik, _ => by omega
  | k + 1, i, hik, hi => by
    cases hL : listed.getD i false with
    | true => rfl
    | false =>
      have : i ∈ Region.ready .any ops listed := by
        refine mem_ready.2 ⟨?_, ops[i], Array.getElem?_eq_getElem hi, fun e he hb => ?_⟩
        · simp [Array.getD_eq_getD_getElem?, Array.getElem?_eq_getElem (show i < listed.size by omega)] at hL ⊢
          exact hL
        · have hd : e.on ∈ direct ops[i] := by
            unfold direct
            exact List.mem_map.2 ⟨e, List.mem_filter.2 ⟨by simpa using he, hb⟩, rfl⟩
          have hlt := C.back i ops[i] (Array.getElem?_eq_getElem hi) e.on hd
          exact Ctx.all_listed C hl h k e.on (by omega) (by omega)
      rw [h] at this; cases this

theorem countP_lt {f g : Nat → Bool} {i : Nat} : ∀ {l : List Nat}, i ∈ l → f i = true → g i = false → (∀ j, g j = true → f j = true) → l.countP g < l.countP f
  | [], h, _, _, _ => by cases h
  | x :: l, h, hf, hg, hi => by
    have hle : l.countP g ≤ l.countP f := List.countP_mono_left fun j _ => hi j
    rw [List.countP_cons, List.countP_cons]
    rcases List.mem_cons.1 h with rfl | h
    · simp [hf, hg]; omega
    · have := countP_lt h hf hg hi
      by_cases hx : g x = true
      · simp [hx, hi x hx]; exact this
      · simp [hx]; omega

def left (ops : Array Oper) (listed : Array Bool) : Nat := (List.range ops.size).countP fun i => !listed.getD i false

theorem left_zero {i : Nat} (h : left ops listed = 0) (hi : i < ops.size) : listed.getD i false = true := by
  unfold left at h
  rw [List.countP_eq_zero] at h
  have := h i (List.mem_range.2 hi)
  simpa using this

theorem any_sim (C : Ctx P call n ops all base S anc H) : ∀ (fuel t : Nat) (listed : Array Bool) (a : Act) (w : World) (φ : Ren) (p : Nat), left ops listed ≤ fuel → Inv P call n ops all base S H φ0 w0 ds φ p listed a w →
    OpsJ P ops (Region.linearise.go .any ops fuel t listed []) a w fun a' w' => ∃ φ' p' l', Inv P call n ops all base S H φ0 w0 ds φ' p' l' a' w' ∧ ∀ i, i < ops.size → l'.getD i false = true
  | 0, t, listed, a, w, φ, p, hf, I => by
    simp only [Region.linearise.go, List.reverse_nil]
    exact OpsJ.nil ⟨φ, p, listed, I, fun i hi => left_zero (by omega) hi⟩
  | fuel + 1, t, listed, a, w, φ, p, hf, I => by
    simp only [Region.linearise.go]
    change OpsJ P ops (match (Region.ready .any ops listed)[t % (Region.ready .any ops listed).length]? with
      | some i => Region.linearise.go .any ops fuel (t / (Region.ready .any ops listed).length) (listed.setIfInBounds i true) [i]
      | none => [].reverse) a w _
    cases hi : (Region.ready .any ops listed)[t % (Region.ready .any ops listed).length]? with
    | none =>
      have hnil : Region.ready .any ops listed = [] := by
        cases hr : Region.ready .any ops listed with
        | nil => rfl
        | cons x xs =>
          rw [hr] at hi
          have hlt : t % (x :: xs).length < (x :: xs).length := Nat.mod_lt _ (by simp)
          simp at hi
          simp at hlt
          omega
      simp only [List.reverse_nil]
      exact OpsJ.nil ⟨φ, p, listed, I, fun i hi => C.all_listed I.lsz hnil (i + 1) i (by omega) hi⟩
    | some i =>
      simp only []
      rw [linearise_go_acc, List.reverse_singleton, List.singleton_append]
      have hR := ready_of I.lsz (List.mem_of_getElem? hi)
      refine OpsJ.cons ((I.step C hR).mono fun a' w' ⟨φ', p', I'⟩ => any_sim C fuel _ _ a' w' φ' p' ?_ I')
      have hi0 : i < listed.size := by rw [I.lsz]; exact hR.lt
      have : left ops (listed.setIfInBounds i true) < left ops listed := by
        refine countP_lt (i := i) (List.mem_range.2 hR.lt) ?_ ?_ fun j hj => ?_
        · have := hR.not; simpa using this
        · rw [getD_set hi0]; simp
        · rw [getD_set hi0] at hj
          split at hj
          · cases hj
          · exact hj
      omega

/-- All done: the end of the text's run. -/
theorem Inv.post (C : Ctx P call n ops all base S anc H) (I : Inv P call n ops all base S H φ0 w0 ds φ p listed a w) (hall : ∀ i, i < ops.size → listed.getD i false = true) :
    Post n φ0 H w0 (S all.length).1 (S all.length).2 ds a w := by
  have hlen := C.len
  refine ⟨I.dfs, φ, ?_, I.tsz, fun t v hv => ?_⟩
  · rw [C.base_eq]
    refine I.st.congr fun id pl hφ => ?_
    have hno : ∀ q m', p ≤ q → q < all.length → all[q]? = some m' → isEff m' = false := fun q m' h1 h2 hm' => by
      cases hq : isEff m' with
      | false => rfl
      | true => have := (I.eff q m' hm' hq).1 (hall q (by omega)); omega
    by_cases hE : ∃ i, Early all base p (fun i => listed.getD i false = true) id i
    · obtain ⟨i, hEi⟩ := hE
      have hEi0 := hEi
      obtain ⟨⟨mi, hmi, hki⟩, hLi, hpi', hid⟩ := hEi
      rw [virt_early hEi0]
      have hil : i < all.length := (List.getElem?_eq_some_iff.1 hmi).1
      have := (C.run.heap (id := id) (i + 1) (all.length - (i + 1)) (by omega) (fun q m' h1 h2 hm' => ⟨hno q m' (by omega) (by omega) hm', C.noComm q m' hm', fun hk' e => by
        have := alloc_inj hmi hki hm' hk' (hid.trans e.symm); omega⟩)).1
      rw [show i + 1 + (all.length - (i + 1)) = all.length by omega] at this
      exact this
    · rw [virt_else hE]
      have hp := I.hp
      have := (C.run.heap (id := id) p (all.length - p) (by omega) (fun q m' h1 h2 hm' => ⟨hno q m' (by omega) (by omega) hm', C.noComm q m' hm', fun hk' e =>
        hE ⟨q, ⟨m', hm', hk'⟩, hall q (by have := (List.getElem?_eq_some_iff.1 hm').1; omega), h1, e⟩⟩)).1
      rw [show p + (all.length - p) = all.length by omega] at this
      exact this
  · exact I.regs t all.length (Nat.le_refl _) (fun q hq _ => hall q (by omega)) (fun q hq ⟨m, hm, _⟩ => by have := (List.getElem?_eq_some_iff.1 hm).1; omega) v hv

theorem Inv.start (C : Ctx P call n ops all base S anc H) (hh : HRel φ0 (Mod.hp H) w0) (hT : TRel n φ0 (S 0).1 a.tmps) : Inv P call n ops all base S H φ0 w0 a.defers φ0 0 (Array.replicate ops.size false) a w0 := by
  have hf : ∀ i, ¬ (Array.replicate ops.size false).getD i false = true := fun i h => by
    simp [Array.getD_eq_getD_getElem?, Array.getElem?_replicate] at h
    split at h <;> simp at h
  have hlt : ∀ id pl, φ0 id = some pl → id < base := fun id pl h => by
    obtain ⟨o, h1, _⟩ := hh.obj id pl h
    have := (List.getElem?_eq_some_iff.1 h1).1
    rw [← C.base_eq]; exact this
  refine ⟨by simp, Nat.zero_le _, fun i h => absurd h (hf i), .inl rfl, fun e m _ _ => ⟨fun h => absurd h (hf e), fun h => by omega⟩, ?_, fun i m hm hk _ => ?_, hT.size, fun t i hi hb _ v hv => ?_, rfl⟩
  · refine (Step.refl hh).congr fun id pl hφ => ?_
    rw [virt_else]
    · show (S 0).2[id]? = H[id]?
      rw [C.start, List.getElem?_append_left (by rw [C.base_eq]; exact hlt id pl hφ)]
    · rintro ⟨i, _, h, _⟩; exact hf i h
  · cases h : φ0 (allocAt all base i) with
    | none => rfl
    | some pl => have := hlt _ pl h; have := allocAt_ge all base i; omega
  · have := C.run.reg (t := t) (v := v) 0 i (by omega) (fun q _ h hw => hf q (hb q (by omega) hw)) (by rw [Nat.zero_add]; exact hv)
    exact hT.get t v this
end

/-! ### what the compiler's and the model's own checks say -/
theorem bytes_eq {a b : ByteArray} (h : (a == b) = true) : a = b := by
  rw [beq_toListBytes, beq_iff_eq, ByteArray.toList_eq, ByteArray.toList_eq] at h
  exact ByteArray.ext (Array.ext' h)
theorem veq_eq {x y : Value} (h : veq x y = true) : x = y := by
  unfold veq at h
  split at h
  case h_3 => rw [bytes_eq h]
  all_goals (try simp only [Bool.and_eq_true, beq_iff_eq] at h)
  all_goals first
    | rfl
    | (cases h; done)
    | (obtain ⟨⟨rfl, rfl⟩, rfl⟩ := h; rfl)
    | (obtain ⟨rfl, rfl⟩ := h; rfl)
    | (subst h; rfl)
theorem veqs_eq : ∀ {x y : List Value}, veqs x y = true → x = y
  | [], [], _ => rfl
  | [], _ :: _, h => by simp [veqs] at h
  | _ :: _, [], h => by simp [veqs] at h
  | x :: xs, y :: ys, h => by
    simp only [veqs, Bool.and_eq_true] at h
    rw [veq_eq h.1, veqs_eq h.2]
theorem veq1_eq {x y : Value} (h : veq1 x y = true) : x = y := by
  unfold veq1 at h
  split at h
  · rw [Array.ext' (veqs_eq h)]
  · rw [Array.ext' (veqs_eq h)]
  · exact veq_eq h
theorem veqo_eq {x y : Option Value} (h : veqo x y = true) : x = y := by
  unfold veqo at h
  split at h
  · rw [veq1_eq h]
  · cases h
theorem oeq_eq {x y : Option MObj} (h : oeq x y = true) : x = y := by
  unfold oeq at h
  split at h <;> first | rfl | (cases h; done) | skip
  simp only [Bool.and_eq_true, beq_iff_eq] at h
  rw [h.1, veqs_eq h.2]

theorem addAll_mem {j : Nat} : ∀ {xs acc : List Nat}, j ∈ addAll xs acc → j ∈ xs ∨ j ∈ acc
  | [], acc, h => .inr h
  | x :: xs, acc, h => by
    simp only [addAll] at h
    rcases addAll_mem h with h | h
    · exact .inl (List.mem_cons_of_mem _ h)
    · split at h
      · exact .inr h
      · rcases List.mem_cons.1 h with rfl | h
        · exact .inl (by simp)
        · exact .inr h
theorem foldl_mem {acc : List (List Nat)} {j : Nat} : ∀ {es l : List Nat}, j ∈ es.foldl (fun l e => addAll (e :: acc.getD e []) l) l → j ∈ l ∨ ∃ e ∈ es, j = e ∨ j ∈ acc.getD e []
  | [], l, h => .inl h
  | e :: es, l, h => by
    simp only [List.foldl] at h
    rcases foldl_mem h with h | ⟨e', he', h⟩
    · rcases addAll_mem h with h | h
      · rcases List.mem_cons.1 h with h | h
        · exact .inr ⟨e, by simp, .inl h⟩
        · exact .inr ⟨e, by simp, .inr h⟩
      · exact .inl h
    · exact .inr ⟨e', List.mem_cons_of_mem _ he', h⟩
theorem ancOf_mem {acc : List (List Nat)} {o : Oper} {j : Nat} (h : j ∈ ancOf acc o) : ∃ e ∈ direct o, j = e ∨ j ∈ acc.getD e [] := by
  rcases foldl_mem h with h | h
  · cases h
  · exact h
theorem ancs_spec : ∀ (l : List Oper) (acc : List (List Nat)), (∀ i, i < acc.length → (ancs l acc)[i]? = acc[i]?) ∧
    ∀ i o, l[i]? = some o → ∃ acc', (ancs l acc)[acc.length + i]? = some (ancOf acc' o) ∧ (∀ e, e < acc.length + i → acc'[e]? = (ancs l acc)[e]?)
  | [], acc => ⟨fun i _ => rfl, fun i o h => by simp at h⟩
  | o :: l, acc => by
    obtain ⟨h1, h2⟩ := ancs_spec l (acc ++ [ancOf acc o])
    simp only [ancs]
    have hl : (acc ++ [ancOf acc o]).length = acc.length + 1 := by simp
    refine ⟨fun i hi => ?_, fun i o' ho => ?_⟩
    · rw [h1 i (by omega), List.getElem?_append_left hi]
    · cases i with
      | zero =>
        simp at ho; subst ho
        refine ⟨acc, ?_, fun e he => ?_⟩
        · rw [h1 _ (by omega)]; simp
        · rw [h1 e (by omega), List.getElem?_append_left (by omega)]
      | succ i =>
        obtain ⟨acc', g1, g2⟩ := h2 i o' (by simpa using ho)
        rw [hl] at g1 g2
        exact ⟨acc', by rw [show acc.length + (i + 1) = acc.length + 1 + i by omega]; exact g1, fun e he => g2 e (by omega)⟩

theorem edgesBack_get : ∀ {l : List Oper} {k : Nat}, edgesBack k l = true → ∀ (i : Nat) o, l[i]? = some o → ∀ e ∈ direct o, e < k + i
  | [], k, _, i, o, h => by simp at h
  | x :: l, k, h, i, o, ho => by
    simp only [edgesBack, Bool.and_eq_true] at h
    cases i with
    | zero => simp at ho; subst ho; intro e he; simpa using List.all_eq_true.1 h.1 e he
    | succ i => intro e he; have := edgesBack_get h.2 i o (by simpa using ho) e he; omega
theorem okLater_get {anc : List (List Nat)} {i : Nat} {a : MOper} : ∀ {l : List MOper} {k : Nat}, okLater anc i a k l = true → ∀ (j : Nat) b, l[j]? = some b → okPair anc i a (k + j) b = true
  | [], k, _, j, b, h => by simp at h
  | x :: l, k, h, j, b, hb => by
    simp only [okLater, Bool.and_eq_true] at h
    cases j with
    | zero => simp at hb; subst hb; exact h.1
    | succ j => have := okLater_get h.2 j b (by simpa using hb); rwa [show k + 1 + j = k + (j + 1) by omega] at this
theorem okAll_get {anc : List (List Nat)} : ∀ {l : List MOper} {k : Nat}, okAll anc k l = true → ∀ (i j : Nat) a b, i < j → l[i]? = some a → l[j]? = some b → okPair anc (k + i) a (k + j) b = true
  | [], k, _, i, j, a, b, _, h, _ => by simp at h
  | x :: l, k, h, i, j, a, b, hij, ha, hb => by
    simp only [okAll, Bool.and_eq_true] at h
    cases i with
    | zero =>
      simp at ha; subst ha
      cases j with
      | zero => omega
      | succ j =>
        have := okLater_get h.1 j b (by simpa using hb)
        rwa [show k + 1 + j = k + (j + 1) by omega] at this
    | succ i =>
      cases j with
      | zero => omega
      | succ j =>
        have := okAll_get h.2 i j a b (by omega) (by simpa using ha) (by simpa using hb)
        rwa [show k + 1 + i = k + (i + 1) by omega, show k + 1 + j = k + (j + 1) by omega] at this
theorem pairs1_mem {anc : List (List Nat)} {i : Nat} {a : MOper} : ∀ {l : List MOper} {k : Nat} (j : Nat) (b : MOper), l[j]? = some b → isRA a = true → isEff b = true → i ≠ k + j → i ∉ anc.getD (k + j) [] → (k + j) ∉ anc.getD i [] → (i, k + j) ∈ pairs1 anc i a k l
  | [], k, j, b, h, _, _, _, _, _ => by simp at h
  | x :: l, k, j, b, hb, h1, h2, h3, h4, h5 => by
    simp only [pairs1]
    cases j with
    | zero =>
      simp at hb; subst hb
      rw [if_pos]
      · simp
      · simp only [Nat.add_zero] at h3 h4 h5
        simp only [h1, h2, Bool.and_eq_true, Bool.not_eq_true', bne_iff_ne, ne_eq, List.elem_eq_mem, decide_eq_false_iff_not]
        exact ⟨⟨⟨⟨trivial, trivial⟩, h3⟩, h4⟩, h5⟩
    | succ j =>
      have := pairs1_mem (anc := anc) (i := i) (a := a) (l := l) (k := k + 1) j b (by simpa using hb) h1 h2 (by omega) (by rw [show k + 1 + j = k + (j + 1) by omega]; exact h4) (by rw [show k + 1 + j = k + (j + 1) by omega]; exact h5)
      rw [show k + 1 + j = k + (j + 1) by omega] at this
      split
      · exact List.mem_cons_of_mem _ this
      · exact this
theorem pairsAll_mem {anc : List (List Nat)} {all : List MOper} : ∀ {l : List MOper} {k : Nat} (i j : Nat) (a b : MOper), l[i]? = some a → all[j]? = some b → isRA a = true → isEff b = true → k + i ≠ j → k + i ∉ anc.getD j [] → j ∉ anc.getD (k + i) [] → (k + i, j) ∈ pairsAll anc all k l
  | [], k, i, j, a, b, h, _, _, _, _, _, _ => by simp at h
  | x :: l, k, i, j, a, b, ha, hb, h1, h2, h3, h4, h5 => by
    simp only [pairsAll]
    cases i with
    | zero =>
      simp at ha; subst ha
      have := pairs1_mem (anc := anc) (i := k) (a := x) (l := all) (k := 0) j b hb h1 h2 (by omega) (by simpa using h4) (by simpa using h5)
      rw [Nat.zero_add] at this
      exact List.mem_append_left _ this
    | succ i =>
      have := pairsAll_mem (anc := anc) (all := all) (l := l) (k := k + 1) i j a b (by simpa using ha) hb h1 h2 (by omega) (by rw [show k + 1 + i = k + (i + 1) by omega]; exact h4) (by rw [show k + 1 + i = k + (i + 1) by omega]; exact h5)
      rw [show k + 1 + i = k + (i + 1) by omega] at this
      exact List.mem_append_right _ this

section
variable {P : Program} {call : CallF} {n : Nat} {ops : Array Oper} {a : Act} {w : World} {φ : Ren} {T T' : Reg} {H H' : MH} {l : List MOper} {ps : List (Nat × Nat)}

def stateAt (T : Reg) (H : MH) (tr : List (Reg × MH)) (i : Nat) : Reg × MH := (tr[i]?).getD (T, H)

theorem draw_ctx (hcall : CallOk P call) (ht : Tame call) (hd : cDraw P n ops = some (l.map MOper.bare, ps)) (hm : mdraw call l ps T H = some (T', H')) :
    ∃ S anc, Ctx P call n ops l H.length S anc H ∧ (S 0).1 = T ∧ S l.length = (T', H') := by
  unfold cDraw at hd
  split at hd <;> first | contradiction | skip
  rename_i l0 hl0
  simp only [] at hd
  split at hd <;> first | contradiction | skip
  rename_i hchk
  have hd := Option.some.inj hd
  have e1 : l0 = l.map MOper.bare := congrArg Prod.fst hd
  have e2 : pairsAll (ancs ops.toList []) l0 0 l0 = ps := congrArg Prod.snd hd
  subst e1
  simp only [Bool.and_eq_true] at hchk
  obtain ⟨⟨hback, hok⟩, hnc⟩ := hchk
  obtain ⟨hlen, hcomp⟩ := comps_of hl0
  unfold mdraw at hm
  split at hm <;> first | contradiction | skip
  rename_i tr htr
  split at hm <;> first | contradiction | skip
  rename_i hpairs
  obtain ⟨g1, g2, g3⟩ := mtrace_run _ _ _ _ _ htr
  generalize hB : H ++ List.replicate (nalloc l) MObj.dead = B at *
  have hS : ∀ i x, tr[i]? = some x → stateAt T B tr i = x := fun i x h => by unfold stateAt; rw [h]; rfl
  obtain ⟨hs1, hs2⟩ := ancs_spec ops.toList []
  have bget : ∀ {i : Nat} {m : MOper}, l[i]? = some m → (l.map MOper.bare)[i]? = some m.bare := fun h => by simp [h]
  have trget : ∀ i, i ≤ l.length → ∃ x, tr[i]? = some x ∧ stateAt T B tr i = x := fun i hi => by
    have : i < tr.length := by omega
    exact ⟨_, List.getElem?_eq_getElem this, hS i _ (List.getElem?_eq_getElem this)⟩
  have ancD : ∀ (i : Nat) o, ops[i]? = some o → ∀ j ∈ (ancs ops.toList []).getD i [], ∃ e ∈ direct o, j = e ∨ j ∈ (ancs ops.toList []).getD e [] := by
    intro i o ho j hj
    obtain ⟨acc', h1, h2⟩ := hs2 i o (by simpa using ho)
    simp only [List.length_nil, Nat.zero_add] at h1 h2
    rw [List.getD_eq_getElem?_getD, h1] at hj
    obtain ⟨e, he, h⟩ := ancOf_mem hj
    refine ⟨e, he, h.imp id fun h => ?_⟩
    have hlt := edgesBack_get hback i o (by simpa using ho) e he
    rw [List.getD_eq_getElem?_getD, h2 e (by omega)] at h
    rw [List.getD_eq_getElem?_getD]; exact h
  refine ⟨stateAt T B tr, fun i => (ancs ops.toList []).getD i [], ⟨hcall, ht, hlen, hcomp, ⟨fun i m hmi => ?_⟩, fun i o ho e he => ?_, fun i o ho j hj => ?_, fun i j x y hij hx hy hc => ?_, fun i m hmi => ?_, ?_, ?_, rfl, ?_⟩, ?_, ?_⟩
  · obtain ⟨T1, H1, T2, H2, e1, e2, e3⟩ := g3 i m hmi
    rw [hS _ _ e1, hS _ _ e2]; exact e3
  · have := edgesBack_get hback i o (by simpa using ho) e he
    omega
  · obtain ⟨e, he, h⟩ := ancD i o ho j hj
    rcases h with rfl | h
    · exact .inl he
    · exact .inr ⟨e, he, h⟩
  · have := okAll_get hok i j x.bare y.bare hij (bget hx) (bget hy)
    simp only [Nat.zero_add] at this
    unfold okPair at this
    have hcc : (clash x.bare y.bare || (isEff x.bare && isEff y.bare)) = true := by
      rcases hc with h | ⟨h1, h2⟩
      · have : clash x.bare y.bare = true := h
        rw [this]; rfl
      · have e1 : isEff x.bare = true := h1
        have e2 : isEff y.bare = true := h2
        rw [e1, e2]; simp
    rw [hcc] at this
    simpa using this
  · exact List.all_eq_true.1 hnc m.bare (List.mem_of_getElem? (bget hmi))
  · intro i j x y vs v hx hy hk he hni hnj hw hvs hv
    have hne : i ≠ j := by
      rintro rfl; rw [hx] at hy; cases hy
      unfold isEff at he; rw [hk] at he; cases he
    have hmem := pairsAll_mem (anc := ancs ops.toList []) (all := l.map MOper.bare) (k := 0) i j x.bare y.bare (bget hx) (bget hy) (by have : x.bare.op.kind = .read := hk; unfold isRA; rw [this]) (he : isEff y = true) (by omega) (by simpa using hni) (by simpa using hnj)
    rw [e2, Nat.zero_add] at hmem
    have hpk := List.all_eq_true.1 hpairs _ hmem
    have hil : i < l.length := (List.getElem?_eq_some_iff.1 hx).1
    have hjl : j < l.length := (List.getElem?_eq_some_iff.1 hy).1
    obtain ⟨⟨Ti, Hi⟩, t1, s1⟩ := trget i (by omega)
    obtain ⟨⟨Tj, Hj⟩, t2, s2⟩ := trget j (by omega)
    obtain ⟨⟨Tk, Hk⟩, t3, s3⟩ := trget (j + 1) (by omega)
    rw [s1] at hw hvs hv
    rw [s2, s3]
    unfold pairOk at hpk
    simp only [hx, t1, t2, t3, hk, hw, hvs, Bool.and_eq_true] at hpk
    simp only [] at hv
    exact ⟨(veqo_eq hpk.1).trans hv, (veqo_eq hpk.2).trans hv⟩
  · intro i j x y hx hy hk he hij hni hnj
    have hmem := pairsAll_mem (anc := ancs ops.toList []) (all := l.map MOper.bare) (k := 0) i j x.bare y.bare (bget hx) (bget hy) (by have : x.bare.op.kind = .alloc := hk; unfold isRA; rw [this]) (he : isEff y = true) (by omega) (by simpa using hni) (by simpa using hnj)
    rw [e2, Nat.zero_add] at hmem
    have hpk := List.all_eq_true.1 hpairs _ hmem
    have hil : i < l.length := (List.getElem?_eq_some_iff.1 hx).1
    have hjl : j < l.length := (List.getElem?_eq_some_iff.1 hy).1
    obtain ⟨⟨Ti, Hi⟩, t1, s1⟩ := trget i (by omega)
    obtain ⟨⟨Ti', Hi'⟩, t1', s1'⟩ := trget (i + 1) (by omega)
    obtain ⟨⟨Tj, Hj⟩, t2, s2⟩ := trget j (by omega)
    obtain ⟨⟨Tk, Hk⟩, t3, s3⟩ := trget (j + 1) (by omega)
    rw [s1', s3]
    unfold pairOk at hpk
    simp only [hx, t1, t1', t2, t3, hk, hij, if_true, Bool.and_eq_true] at hpk
    exact oeq_eq hpk.1
  · rw [hS 0 _ g2]; exact hB.symm
  · rw [hS 0 _ g2]
  · rw [List.getLast?_eq_getElem?, g1] at hm
    exact hS _ _ (by simpa using hm)

theorem draw_sim (hcall : CallOk P call) (ht : Tame call) (hd : cDraw P n ops = some (l.map MOper.bare, ps)) (hm : mdraw call l ps T H = some (T', H')) (hT : TRel n φ T a.tmps) (hh : HRel φ (hp H) w) (t : Nat) :
    OpsJ P ops (Region.linearise .any ops t) a w (Post n φ H w T' H' a.defers) := by
  obtain ⟨S, anc, C, h0, h1⟩ := draw_ctx hcall ht hd hm
  have I := Inv.start C hh (by rw [h0]; exact hT)
  refine (any_sim C ops.size t _ a w φ 0 ?_ I).mono fun a' w' ⟨φ', p', l', I', hall⟩ => ?_
  · unfold left
    have := List.countP_le_length (p := fun i => !(Array.replicate ops.size false).getD i false) (l := List.range ops.size)
    simpa using this
  · have := I'.post C hall
    rw [h1] at this
    exact this

theorem mdraw_tame (ht : Tame call) (hm : mdraw call l ps T H = some (T', H')) : H.length ≤ H'.length ∧ ∀ (id : Nat), H[id]? = some MObj.dead → H'[id]? = some MObj.dead := by
  unfold mdraw at hm
  split at hm <;> first | contradiction | skip
  rename_i tr htr
  split at hm <;> first | contradiction | skip
  obtain ⟨g1, g2, g3⟩ := mtrace_run _ _ _ _ _ htr
  have hS : ∀ i x, tr[i]? = some x → stateAt T H tr i = x := fun i x h => by unfold stateAt; rw [h]; rfl
  have R : TextRun call l H.length (stateAt T H tr) := ⟨fun i m hmi => by
    obtain ⟨T1, H1, T2, H2, e1, e2, e3⟩ := g3 i m hmi
    rw [hS _ _ e1, hS _ _ e2]; exact e3⟩
  rw [List.getLast?_eq_getElem?, g1] at hm
  have hlast := hS _ _ (by simpa using hm)
  have hfirst := hS 0 _ g2
  have h1 := R.grows ht 0 l.length (by omega)
  rw [Nat.zero_add, hlast, hfirst] at h1
  refine ⟨by simp at h1; omega, fun id hd => ?_⟩
  have hlt := (List.getElem?_eq_some_iff.1 hd).1
  have h2 := R.dead ht (id := id) 0 l.length (by omega) (fun q m _ _ _ _ e => by have := allocAt_ge l H.length q; omega) (by rw [hfirst]; exact app_dead hd)
  rw [Nat.zero_add, hlast] at h2
  exact h2
end
end Go.Mod

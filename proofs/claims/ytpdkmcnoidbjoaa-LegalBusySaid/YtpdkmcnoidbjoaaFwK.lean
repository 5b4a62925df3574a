/- Operations that write. -/
import Derived.Test.YtpdkmcnoidbjoaaFwJ
set_option linter.unusedVariables false
set_option linter.unusedSimpArgs false
namespace Go.Mod

/-- What a piece of a run leaves alone. -/
structure Fr (φ : Ren) (h : Nat → Option MObj) (w w' : World) : Prop where
  os : w'.os = w.os
  tape : w'.tape = w.tape
  output : w'.output = w.output
  size : w.heap.size ≤ w'.heap.size
  block : ∀ b, b < w.heap.size → (∀ id pl o, φ id = some pl → h id = some o → o.mut = true → pl.block ≠ b) → w'.heap[b]? = w.heap[b]?

/-- From one heap and its renaming to the next: 'n': the model's ids from there on are new. -/
structure Step (n : Nat) (φ : Ren) (h : Nat → Option MObj) (w : World) (φ' : Ren) (h' : Nat → Option MObj) (w' : World) : Prop where
  rel : HRel φ' h' w'
  le : φ.le φ'
  fr : Fr φ h w w'
  new : ∀ id pl o', φ' id = some pl → h' id = some o' → o'.mut = true → pl.block < w.heap.size → ∃ id0 pl0 o, φ id0 = some pl0 ∧ h id0 = some o ∧ o.mut = true ∧ pl0.block = pl.block
  fresh : ∀ id pl, φ' id = some pl → φ id = none → pl.block < w.heap.size → ∃ id0 pl0 o, φ id0 = some pl0 ∧ h id0 = some o ∧ o.mut = true ∧ pl0.block = pl.block
  dom : ∀ id pl, φ' id = some pl → φ id = some pl ∨ (φ id = none ∧ n ≤ id)

theorem Fr.refl (φ : Ren) (h : Nat → Option MObj) (w : World) : Fr φ h w w := ⟨rfl, rfl, rfl, Nat.le_refl _, fun _ _ _ => rfl⟩
theorem Step.refl {n : Nat} {φ : Ren} {h : Nat → Option MObj} {w : World} (hr : HRel φ h w) : Step n φ h w φ h w :=
  ⟨hr, Ren.le.refl φ, Fr.refl φ h w, fun id pl o h1 h2 h3 _ => ⟨id, pl, o, h1, h2, h3, rfl⟩, fun id pl h1 h2 => (by rw [h2] at h1; cases h1), fun id pl h => .inl h⟩

theorem Step.trans {n n' : Nat} {φ φ₁ φ₂ : Ren} {h h₁ h₂ : Nat → Option MObj} {w w₁ w₂ : World} (a : Step n φ h w φ₁ h₁ w₁) (b : Step n' φ₁ h₁ w₁ φ₂ h₂ w₂) (hn : n ≤ n') : Step n φ h w φ₂ h₂ w₂ := by
  refine ⟨b.rel, a.le.trans b.le, ⟨b.fr.os.trans a.fr.os, b.fr.tape.trans a.fr.tape, b.fr.output.trans a.fr.output, Nat.le_trans a.fr.size b.fr.size, ?_⟩, ?_, ?_, ?_⟩
  · intro k hk hnot
    rw [b.fr.block k (Nat.lt_of_lt_of_le hk a.fr.size) ?_, a.fr.block k hk hnot]
    intro id pl o hφ ho hm he
    obtain ⟨id0, pl0, o0, h1, h2, h3, h4⟩ := a.new id pl o hφ ho hm (by rw [he]; exact hk)
    exact hnot id0 pl0 o0 h1 h2 h3 (h4.trans he)
  · intro id pl o hφ ho hm hlt
    obtain ⟨id1, pl1, o1, h1, h2, h3, h4⟩ := b.new id pl o hφ ho hm (Nat.lt_of_lt_of_le hlt a.fr.size)
    obtain ⟨id0, pl0, o0, g1, g2, g3, g4⟩ := a.new id1 pl1 o1 h1 h2 h3 (by rw [h4]; exact hlt)
    exact ⟨id0, pl0, o0, g1, g2, g3, g4.trans h4⟩
  · intro id pl hφ hno hlt
    cases h1 : φ₁ id with
    | some p =>
      have := b.le id p h1
      rw [hφ] at this; cases this
      exact a.fresh id pl h1 hno hlt
    | none =>
      obtain ⟨id1, pl1, o1, h1, h2, h3, h4⟩ := b.fresh id pl hφ h1 (Nat.lt_of_lt_of_le hlt a.fr.size)
      obtain ⟨id0, pl0, o0, g1, g2, g3, g4⟩ := a.new id1 pl1 o1 h1 h2 h3 (by rw [h4]; exact hlt)
      exact ⟨id0, pl0, o0, g1, g2, g3, g4.trans h4⟩
  · intro id pl hφ
    rcases b.dom id pl hφ with h | ⟨h, hle⟩
    · exact a.dom id pl h
    · refine .inr ⟨?_, Nat.le_trans hn hle⟩
      cases hc : φ id with
      | none => rfl
      | some p => have := a.le id p hc; rw [h] at this; cases this

/-- The world may have drawn meanwhile. -/
theorem HRel.world {φ : Ren} {h : Nat → Option MObj} {w w' : World} (hr : HRel φ h w) (hs : w.heap.size ≤ w'.heap.size) (hb : ∀ id pl, φ id = some pl → w'.heap[pl.block]? = w.heap[pl.block]?) : HRel φ h w' :=
  ⟨fun id pl hφ => by obtain ⟨o, h1, h2⟩ := hr.obj id pl hφ; exact ⟨o, h1, h2.mono (Ren.le.refl φ) (hb id pl hφ)⟩,
   fun id pl hφ => Nat.lt_of_lt_of_le (hr.lt id pl hφ) hs, hr.sep⟩

/-- One object is written anew where it lies. -/
theorem Step.write {n : Nat} {φ : Ren} {H : MH} {w w' : World} {id : Nat} {pl : Place} {ob ob' : MObj} (hr : HRel φ (hp H) w) (hφ : φ id = some pl) (hH : H[id]? = some ob) (hm : ob.mut = true) (hm' : ob'.live = true)
    (hos : w'.os = w.os) (htp : w'.tape = w.tape) (hout : w'.output = w.output) (hsz : w'.heap.size = w.heap.size) (hbl : ∀ b, b ≠ pl.block → w'.heap[b]? = w.heap[b]?) (ho : ORel φ w' pl ob') :
    Step n φ (hp H) w φ (hp (H.set id ob')) w' := by
  have hid : id < H.length := (List.getElem?_eq_some_iff.1 hH).1
  have hlive : ob.live = true := by cases ob <;> first | rfl | (simp [MObj.mut] at hm)
  have get : ∀ j o, (H.set id ob')[j]? = some o → (j = id ∧ o = ob') ∨ (j ≠ id ∧ H[j]? = some o) := by
    intro j o hj
    by_cases e : j = id
    · subst e; rw [List.getElem?_set_self hid] at hj; cases hj; exact .inl ⟨rfl, rfl⟩
    · rw [List.getElem?_set_ne (fun h => e h.symm)] at hj; exact .inr ⟨e, hj⟩
  refine ⟨⟨?_, ?_, ?_⟩, Ren.le.refl φ, ⟨hos, htp, hout, by omega, ?_⟩, ?_, fun id pl h1 h2 => (by rw [h2] at h1; cases h1), fun _ _ h => .inl h⟩
  · intro j pj hj
    obtain ⟨o, h1, h2⟩ := hr.obj j pj hj
    by_cases e : j = id
    · subst e
      rw [hφ] at hj; cases hj
      exact ⟨ob', by show (H.set _ _)[_]? = _; rw [List.getElem?_set_self hid], ho⟩
    · refine ⟨o, by show (H.set _ _)[_]? = _; rw [List.getElem?_set_ne (fun h => e h.symm)]; exact h1, ?_⟩
      by_cases hl : o.live = true
      · have : pj.block ≠ pl.block := fun hh => e (hr.sep id j pl pj ob o hφ hj hH h1 hm hl hh.symm).symm
        exact h2.mono (Ren.le.refl φ) (hbl _ this)
      · cases o <;> first | trivial | (simp [MObj.live] at hl)
  · intro j pj hj; rw [hsz]; exact hr.lt j pj hj
  · intro i j pi pj oi oj hi hj hoi hoj hmi hlj hb
    rcases get i oi hoi with ⟨rfl, rfl⟩ | ⟨hi', hoi'⟩ <;> rcases get j oj hoj with ⟨rfl, rfl⟩ | ⟨hj', hoj'⟩
    · rfl
    · exact hr.sep i j pi pj ob oj hi hj hH hoj' hm hlj hb
    · exact hr.sep i j pi pj oi ob hi hj hoi' hH hmi hlive hb
    · exact hr.sep i j pi pj oi oj hi hj hoi' hoj' hmi hlj hb
  · intro b hb hnot
    exact hbl b (fun e => hnot id pl ob hφ hH hm e.symm)
  · intro j pj o' hj ho' hmo hlt
    rcases get j o' ho' with ⟨rfl, rfl⟩ | ⟨hj', hoj'⟩
    · exact ⟨j, pj, ob, hj, hH, hm, rfl⟩
    · exact ⟨j, pj, o', hj, hoj', hmo, rfl⟩

/-- One object is new, at the heap's end. -/
theorem Step.push {n : Nat} {φ : Ren} {H : MH} {w w' : World} {pl : Place} {ob : MObj} (hr : HRel φ (hp H) w) (hn : n ≤ H.length) (hpl : pl.block = w.heap.size)
    (hos : w'.os = w.os) (htp : w'.tape = w.tape) (hout : w'.output = w.output) (hsz : w'.heap.size = w.heap.size + 1) (hbl : ∀ b, b < w.heap.size → w'.heap[b]? = w.heap[b]?) (ho : ORel φ w' pl ob) :
    Step n φ (hp H) w (φ.set H.length pl) (hp (H ++ [ob])) w' := by
  have hno : φ H.length = none := by
    cases h : φ H.length with
    | none => rfl
    | some p => obtain ⟨o, h1, _⟩ := hr.obj _ p h; unfold hp at h1; simp at h1
  have hle := Ren.le_set pl hno
  have get : ∀ j o, (H ++ [ob])[j]? = some o → (j = H.length ∧ o = ob) ∨ (j ≠ H.length ∧ H[j]? = some o) := by
    intro j o hj
    by_cases e : j = H.length
    · subst e; simp at hj; exact .inl ⟨rfl, hj.symm⟩
    · refine .inr ⟨e, ?_⟩
      by_cases hlt : j < H.length
      · rwa [List.getElem?_append_left hlt] at hj
      · have : (H ++ [ob])[j]? = none := List.getElem?_eq_none (by simp; omega)
        rw [this] at hj; cases hj
  have old : ∀ j pj, j ≠ H.length → (φ.set H.length pl) j = some pj → φ j = some pj := fun j pj e h => by rwa [Ren.set_ne _ _ e] at h
  have self : ∀ pj, (φ.set H.length pl) H.length = some pj → pj = pl := fun pj h => by rw [Ren.set_self] at h; cases h; rfl
  refine ⟨⟨?_, ?_, ?_⟩, hle, ⟨hos, htp, hout, by omega, fun b hb _ => hbl b hb⟩, ?_, ?_, ?_⟩
  · intro j pj hj
    by_cases e : j = H.length
    · subst e
      obtain rfl := self pj hj
      exact ⟨ob, by show (H ++ [ob])[H.length]? = _; simp, ho.mono hle rfl⟩
    · have hj' := old j pj e hj
      obtain ⟨o, h1, h2⟩ := hr.obj j pj hj'
      have hlt := (List.getElem?_eq_some_iff.1 (show H[j]? = some o from h1)).1
      exact ⟨o, by show (H ++ [ob])[j]? = _; rw [List.getElem?_append_left hlt]; exact h1, h2.mono hle (hbl _ (hr.lt j pj hj'))⟩
  · intro j pj hj
    by_cases e : j = H.length
    · subst e; obtain rfl := self pj hj; omega
    · have := hr.lt j pj (old j pj e hj); omega
  · intro i j pi pj oi oj hi hj hoi hoj hmi hlj hb
    rcases get i oi hoi with ⟨rfl, rfl⟩ | ⟨hi', hoi'⟩ <;> rcases get j oj hoj with ⟨rfl, rfl⟩ | ⟨hj', hoj'⟩
    · rfl
    · obtain rfl := self pi hi
      have := hr.lt j pj (old j pj hj' hj); omega
    · obtain rfl := self pj hj
      have := hr.lt i pi (old i pi hi' hi); omega
    · exact hr.sep i j pi pj oi oj (old i pi hi' hi) (old j pj hj' hj) hoi' hoj' hmi hlj hb
  · intro j pj o' hj ho' hmo hlt
    rcases get j o' ho' with ⟨rfl, rfl⟩ | ⟨hj', hoj'⟩
    · obtain rfl := self pj hj; omega
    · exact ⟨j, pj, o', old j pj hj' hj, hoj', hmo, rfl⟩
  · intro j pj hj hnj hlt
    by_cases e : j = H.length
    · subst e; obtain rfl := self pj hj; omega
    · have := old j pj e hj; rw [hnj] at this; cases this
  · intro j pj hj
    by_cases e : j = H.length
    · subst e; exact .inr ⟨hno, hn⟩
    · exact .inl (old j pj e hj)

section
variable {P : Program} {o : Oper} {ρ : Operand → Value} {w : World} {φ : Ren} {vs : List Value} {v : Value} {op : MOp} {xs : List Operand} {H : MH}

/-- The world behind a row of stores into one block. -/
def setRow' (w : World) (b : Nat) (rc : Array Value) (elem : TypeId) (lo hi : Nat) : World := { w with heap := w.heap.setIfInBounds b (.cells rc elem (lo, hi)) }

theorem storeCells_sim {b : Nat} {elem : TypeId} {lo hi : Nat} : ∀ (ys : List Value) (off i : Nat) (rc : Array Value) (w : World), w.heap[b]? = some (.cells rc elem (lo, hi)) → off + i + ys.length ≤ rc.size → ys.all flat = true →
    (∀ j, off + i ≤ j → j < off + i + ys.length → ¬ (lo ≤ j ∧ j < hi)) →
    ∃ rc', (storeCells ⟨b, off, none⟩ ys i).run P w = .ok () (setRow' w b rc' elem lo hi) ∧ rc'.size = rc.size ∧ ∀ j : Nat, rc'[j]? = if off + i ≤ j ∧ j < off + i + ys.length then ys[j - (off + i)]? else rc[j]?
  | [], off, i, rc, w, hb, hl, hf, hfr => by
    refine ⟨rc, ?_, rfl, fun j => by rw [if_neg (by simp)]⟩
    simp only [storeCells, Sem.run_pure]
    congr 1
    unfold setRow'
    have hlt := (Array.getElem?_eq_some_iff.1 hb)
    obtain ⟨hlt, he⟩ := hlt
    have : w.heap.setIfInBounds b (.cells rc elem (lo, hi)) = w.heap := by
      apply Array.ext_getElem?
      intro k
      rw [Array.getElem?_setIfInBounds]
      split
      · rename_i e; subst e; simp [hlt, he]
      · rfl
    rw [this]
  | y :: ys, off, i, rc, w, hb, hl, hf, hfr => by
    simp only [List.length_cons] at hl hfr
    simp only [List.all_cons, Bool.and_eq_true] at hf
    have hc : w.cell? ⟨b, off + i, none⟩ = some (rc[off + i]'(by omega)) := cell_of hb (Array.getElem?_eq_getElem (by omega))
    have hz : w.frozen? ⟨b, off + i, none⟩ = false := by
      have := hfr (off + i) (by omega) (by omega)
      simp only [World.frozen?, hb]
      simp only [Bool.and_eq_false_iff, decide_eq_false_iff_not]
      omega
    have hone : y.oneCell' = true := by cases y <;> first | rfl | (simp [flat] at hf)
    have hset : w.setCell ⟨b, off + i, none⟩ y = setRow' w b (rc.setIfInBounds (off + i) y) elem lo hi := by
      unfold World.setCell setRow'
      congr 1
      apply Array.ext_getElem?
      intro k
      rw [Array.getElem?_modify, Array.getElem?_setIfInBounds]
      by_cases e : b = k
      · subst e
        obtain ⟨hlt, he⟩ := Array.getElem?_eq_some_iff.1 hb
        simp [hlt, he]
      · simp [e]
    have hb' : (setRow' w b (rc.setIfInBounds (off + i) y) elem lo hi).heap[b]? = some (.cells (rc.setIfInBounds (off + i) y) elem (lo, hi)) := by
      simp [setRow', (Array.getElem?_eq_some_iff.1 hb).1]
    obtain ⟨rc', h1, h2, h3⟩ := storeCells_sim ys off (i + 1) (rc.setIfInBounds (off + i) y) _ hb' (by simp; omega) hf.2 (fun j h1 h2 => hfr j (by omega) (by omega))
    refine ⟨rc', ?_, by simpa using h2, fun j => ?_⟩
    · simp only [storeCells, Sem.run_bind, Addr.add_eq, run_store P w _ y .plain hone, hc, hz, Bool.false_eq_true, if_false, Result.andThen_ok, hset, h1]
      congr 1
      unfold setRow'
      simp
    · rw [h3 j]
      by_cases hj : off + i = j
      · subst hj
        rw [if_neg (by omega), if_pos (by simp), Array.getElem?_setIfInBounds, if_pos rfl, if_pos (by omega)]
        simp
      · by_cases hj2 : off + (i + 1) ≤ j ∧ j < off + (i + 1) + ys.length
        · rw [if_pos hj2, if_pos (by simp only [List.length_cons]; omega)]
          rw [show j - (off + i) = j - (off + (i + 1)) + 1 by omega, List.getElem?_cons_succ]
        · rw [if_neg hj2, if_neg (by simp only [List.length_cons]; omega)]
          rw [Array.getElem?_setIfInBounds_ne hj]

theorem setRow'_heap {b : Nat} {rc : Array Value} {elem : TypeId} {lo hi : Nat} (hb : b < w.heap.size) : (setRow' w b rc elem lo hi).heap[b]? = some (.cells rc elem (lo, hi)) := by simp [setRow', hb]
theorem setRow'_ne {b k : Nat} {rc : Array Value} {elem : TypeId} {lo hi : Nat} (h : k ≠ b) : (setRow' w b rc elem lo hi).heap[k]? = w.heap[k]? := by
  simp only [setRow']; rw [Array.getElem?_setIfInBounds_ne (fun e => h e.symm)]

/-- A row of values written into a row of cells: at the machine, at the model. -/
theorem rowWrite {n : Nat} {id : Nat} {pl : Place} {i : Info} {c ys ys' : List Value} {off : Nat} (hr : HRel φ (hp H) w) (hφ : φ id = some pl) (hH : H[id]? = some (.cells i c)) (hrw : i.rw = true) (hl : off + ys.length ≤ c.length)
    (hrel : Rels (CRel φ) ys ys') (hf' : ys'.all flat = true) :
    ∃ w', (storeCells ⟨pl.block, pl.base + off, none⟩ ys').run P w = .ok () w' ∧ Step n φ (hp H) w φ (hp (H.set id (.cells i (fillAt c off ys)))) w' := by
  obtain ⟨h1, h2, rc, elem, lo, hi, h3, h4, h5, h6, h7⟩ := hr.cells hφ hH
  have hlen : ys'.length = ys.length := hrel.length
  obtain ⟨rc', g1, g2, g3⟩ := storeCells_sim (P := P) ys' (pl.base + off) 0 rc w h3 (by omega) hf' (fun j a b => by
    have := h7 hrw
    omega)
  refine ⟨_, g1, ?_⟩
  have hlt := (Array.getElem?_eq_some_iff.1 h3).1
  refine Step.write hr hφ hH (by simpa [MObj.mut] using hrw) rfl rfl rfl rfl (by simp [setRow']) (fun b hb => setRow'_ne hb) ⟨h1, h2, rc', elem, lo, hi, setRow'_heap hlt, ?_, by omega, ?_, h7⟩
  · simp only [fillAt, List.length_append, List.length_take, List.length_drop]; omega
  · intro j x hx
    have g := g3 (pl.base + j)
    simp only [Nat.add_zero] at g
    unfold fillAt at hx
    by_cases hj1 : j < off
    · rw [List.append_assoc, List.getElem?_append_left (by simp; omega), List.getElem?_take_of_lt hj1] at hx
      rw [if_neg (by omega)] at g
      rw [g]; exact h6 j x hx
    · by_cases hj2 : j < off + ys.length
      · rw [List.append_assoc, List.getElem?_append_right (by simp; omega), List.getElem?_append_left (by simp; omega)] at hx
        rw [show j - (c.take off).length = j - off by simp; omega] at hx
        rw [if_pos (by omega), show pl.base + j - (pl.base + off) = j - off by omega] at g
        obtain ⟨y, hy, hry⟩ := hrel.get _ x hx
        exact ⟨y, by rw [g, hy], hry⟩
      · rw [List.getElem?_append_right (by simp; omega)] at hx
        simp only [List.length_append, List.length_take, List.getElem?_drop] at hx
        rw [show off + ys.length + (j - (min off c.length + ys.length)) = j by omega] at hx
        rw [if_neg (by omega)] at g
        rw [g]; exact h6 j x hx

theorem Rels.flat' {xs ys : List Value} (h : Rels (VRel φ) xs ys) (hf : xs.all flat = true) : ys.all flat = true := by
  induction h with
  | nil => rfl
  | cons h t ih =>
    simp only [List.all_cons, Bool.and_eq_true] at hf ⊢
    exact ⟨by rw [h.flat]; exact hf.1, ih hf.2⟩

theorem okc_flat {l : List Value} (h : okc l = true) : l.all flat = true := by
  unfold okc at h
  rw [List.all_eq_true] at h ⊢
  intro x hx; have := h x hx; simp only [Bool.and_eq_true] at this; exact this.1
theorem okc_known {l : List Value} (h : okc l = true) : l.all (fun v => !isUnk v) = true := by
  unfold okc at h
  rw [List.all_eq_true] at h ⊢
  intro x hx; have := h x hx; simp only [Bool.and_eq_true] at this; exact this.2
theorem Rels.okc {xs ys : List Value} (h : Rels (CRel φ) xs ys) (ho : okc xs = true) : ys.all flat = true := (h.toV (okc_known ho)).flat' (okc_flat ho)

/-- What a writing operation comes to. -/
def Writes (P : Program) (o : Oper) (ρ : Operand → Value) (w : World) (φ : Ren) (H H' : MH) (v : Value) : Prop :=
  ∃ nx v' w' φ', (execOp ρ o).run P w = .ok nx w' ∧ (nx = .value v' ∨ (nx = .skip ∧ v' = undef)) ∧ VRel φ' v v' ∧ Step H.length φ (hp H) w φ' (hp H') w'

theorem st_sim {t : TypeId} {a x : Operand} {n : Nat} {H' : MH} (ho : o.op = .store t a x) (hs : szOf P t = some n) (hh : HRel φ (hp H) w) (hr : Rels (VRel φ) vs ([a, x].map ρ)) (hm : meff (.st n) vs H = some (v, H')) : Writes P o ρ w φ H H' v := by
  obtain ⟨p, y, rfl, hpp, hy⟩ := rels2 hr
  unfold meff at hm
  split at hm <;> first | contradiction | skip
  rename_i sz0 b0 o0 v0 h1 h2; cases h1; cases h2
  split at hm <;> first | contradiction | skip
  rename_i i c hH
  split at hm <;> first | contradiction | skip
  rename_i hcond
  cases hm
  obtain ⟨c1, c2, c3, c4⟩ := hcond
  generalize hA : ρ a = a' at hpp
  cases hpp with
  | ptr hφ =>
  have hcells := hy.cells
  obtain ⟨w', hrun, hstep⟩ := rowWrite (P := P) (n := H.length) (off := o0) hh hφ hH c1 (by omega) (hcells.imp fun _ _ => .inr) (hcells.flat' (okc_flat c4))
  refine ⟨.skip, undef, w', φ, ?_, .inr ⟨rfl, rfl⟩, VRel.undef, hstep⟩
  have hsz : (ρ x).cells.size = n := by have := hcells.length; simp at this; simp at c2; omega
  simp only [execOp, ho, hA, Instr.storeAt, Instr.sureAddr, storeVar, Sem.run_bind, Sem.run_pure, Result.andThen_ok, szOf_sim hs, hsz]
  simp only [ne_eq, not_true_eq_false, if_false, Sem.run_bind, Sem.run_pure, Result.andThen_ok, hrun]
end
end Go.Mod

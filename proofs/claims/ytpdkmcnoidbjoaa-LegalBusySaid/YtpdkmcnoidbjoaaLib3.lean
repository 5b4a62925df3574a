/- Assertions over a model's heap: which objects they speak of, side by side; what a call may turn. -/
import Derived.Test.YtpdkmcnoidbjoaaLib2
set_option linter.unusedVariables false
set_option linter.unusedSimpArgs false
namespace Go.Mod

variable {mp : FuncId → Option MDef}

/-- What is said of a heap, and of which objects. -/
abbrev HP := MH → List Nat → Prop
structure Good (P : HP) : Prop where
  frame : ∀ {H H' : MH} {F : List Nat}, P H F → (∀ id ∈ F, H'[id]? = H[id]?) → P H' F
  lt : ∀ {H : MH} {F : List Nat}, P H F → ∀ id ∈ F, id < H.length
def star (P Q : HP) : HP := fun H F => ∃ A B, P H A ∧ Q H B ∧ (∀ x ∈ A, x ∉ B) ∧ ∀ x, x ∈ F ↔ x ∈ A ∨ x ∈ B
instance starMul : Mul (MH → List Nat → Prop) := ⟨star⟩

/-- Of what was there only objects of F are other ones; F': those of now. -/
structure Upd (H : MH) (F : List Nat) (H' : MH) (F' : List Nat) : Prop where
  len : H.length ≤ H'.length
  same : ∀ id, id < H.length → id ∉ F → H'[id]? = H[id]?
  new : ∀ id ∈ F', id ∈ F ∨ H.length ≤ id
section
variable {H H1 H2 : MH} {F F1 F2 : List Nat} {P Q P' : HP}
theorem Upd.refl (H : MH) (F : List Nat) : Upd H F H F := ⟨Nat.le_refl _, fun _ _ _ => rfl, fun _ h => .inl h⟩
theorem Upd.trans (h : Upd H F H1 F1) (g : Upd H1 F1 H2 F2) : Upd H F H2 F2 := by
  have hl := h.len
  refine ⟨Nat.le_trans h.len g.len, fun id h1 h2 => ?_, fun id hid => ?_⟩
  · rw [g.same id (by omega) fun h3 => ?_, h.same id h1 h2]
    rcases h.new id h3 with h4 | h4
    · exact h2 h4
    · omega
  · rcases g.new id hid with h1 | h1
    · exact h.new id h1
    · exact .inr (by omega)
theorem Upd.of_fp {S : Nat → Prop} (h : Fp S H H1) (hs : ∀ id, id < H.length → S id → id ∈ F) (hn : ∀ id ∈ F1, id ∈ F ∨ H.length ≤ id) : Upd H F H1 F1 := ⟨h.len, fun id h1 h2 => h.same id h1 fun h3 => h2 (hs id h1 h3), hn⟩
theorem Upd.ext (h : Ext H H1) : Upd H F H1 F := Upd.of_fp (Fp.ext h (fun _ => False)) (fun _ _ h => h.elim) fun _ h => .inl h
theorem Upd.get (h : Upd H F H1 F1) {b : Nat} {o : MObj} (hb : H[b]? = some o) (hn : b ∉ F) : H1[b]? = some o := by
  rw [h.same b (List.getElem?_eq_some_iff.1 hb).1 hn]; exact hb
/-- More may be said to turn. -/
theorem Upd.wide (h : Upd H F H1 F1) (hs : ∀ id ∈ F, id ∈ F2) : Upd H F2 H1 F1 := ⟨h.len, fun id h1 h2 => h.same id h1 fun h3 => h2 (hs id h3), fun id h1 => (h.new id h1).imp (hs id) fun h => h⟩

theorem Good.ext (g : Good P) (h : P H F) (e : Ext H H1) : P H1 F := by
  refine g.frame h fun id hid => ?_
  obtain ⟨X, rfl⟩ := e
  exact List.getElem?_append_left (g.lt h id hid)
theorem Good.star (g : Good P) (k : Good Q) : Good (P * Q) := by
  refine ⟨?_, ?_⟩
  · rintro H H' F ⟨A, B, h1, h2, h3, h4⟩ hf
    exact ⟨A, B, g.frame h1 fun id hid => hf id ((h4 id).2 (.inl hid)), k.frame h2 fun id hid => hf id ((h4 id).2 (.inr hid)), h3, h4⟩
  · rintro H F ⟨A, B, h1, h2, h3, h4⟩ id hid
    rcases (h4 id).1 hid with h | h
    · exact g.lt h1 id h
    · exact k.lt h2 id h
theorem Good.ex {ι : Type} {R : ι → HP} (g : ∀ i, Good (R i)) : Good fun H F => ∃ i, R i H F :=
  ⟨fun ⟨i, h⟩ hf => ⟨i, (g i).frame h hf⟩, fun ⟨i, h⟩ => (g i).lt h⟩
theorem Good.and {c : Prop} (g : Good P) : Good fun H F => P H F ∧ c := ⟨fun ⟨h, hc⟩ hf => ⟨g.frame h hf, hc⟩, fun ⟨h, _⟩ => g.lt h⟩
theorem star_comm (h : (P * Q) H F) : (Q * P) H F := by
  obtain ⟨A, B, h1, h2, h3, h4⟩ := h
  exact ⟨B, A, h2, h1, fun x hx hx' => h3 x hx' hx, fun x => (h4 x).trans Or.comm⟩
theorem star_assoc {R : HP} (h : ((P * Q) * R) H F) : (P * (Q * R)) H F := by
  obtain ⟨A, B, ⟨A1, A2, a1, a2, a3, a4⟩, h2, h3, h4⟩ := h
  refine ⟨A1, A2 ++ B, a1, ⟨A2, B, a2, h2, fun x hx => h3 x ((a4 x).2 (.inr hx)), fun x => by simp⟩, fun x hx h => ?_, fun x => ?_⟩
  · rcases List.mem_append.1 h with h | h
    · exact a3 x hx h
    · exact h3 x ((a4 x).2 (.inl hx)) h
  · rw [h4, a4]; simp [or_assoc]
theorem star_assoc' {R : HP} (h : (P * (Q * R)) H F) : ((P * Q) * R) H F := star_comm (star_assoc (star_comm (star_assoc (star_comm h))))
/-- The part on the left, on the right. -/
theorem star_l (h : (P * Q) H F) : ∃ A, P H A ∧ ∀ x ∈ A, x ∈ F := by
  obtain ⟨A, B, h1, h2, h3, h4⟩ := h; exact ⟨A, h1, fun x hx => (h4 x).2 (.inl hx)⟩
theorem star_r (h : (P * Q) H F) : ∃ B, Q H B ∧ ∀ x ∈ B, x ∈ F := star_l (star_comm h)

/-- The frame rule: what turns on the left leaves the right. -/
theorem star_upd {ι : Type} {P' : ι → HP} (k : Good Q) (g : ∀ i, Good (P' i)) (h : (P * Q) H F) {C : ι → MH → Prop} (hx : ∀ A, P H A → (∀ x ∈ A, x ∈ F) → ∃ i H' A', P' i H' A' ∧ Upd H A H' A' ∧ C i H') : ∃ i H' F', (P' i * Q) H' F' ∧ Upd H F H' F' ∧ C i H' := by
  obtain ⟨A, B, h1, h2, h3, h4⟩ := h
  obtain ⟨i, H', A', p, u, c⟩ := hx A h1 fun x hx => (h4 x).2 (.inl hx)
  have hB : ∀ id ∈ B, H'[id]? = H[id]? := fun id hid => u.same id (k.lt h2 id hid) fun hA => h3 id hA hid
  refine ⟨i, H', A' ++ B, ⟨A', B, p, k.frame h2 hB, fun x hx hxB => ?_, fun x => by simp⟩, ⟨u.len, fun id h1 h2 => u.same id h1 fun h => h2 ((h4 id).2 (.inl h)), fun id hid => ?_⟩, c⟩
  · rcases u.new x hx with h | h
    · exact h3 x h hxB
    · have := k.lt h2 x hxB; omega
  · rcases List.mem_append.1 hid with h | h
    · exact (u.new id h).imp (fun h => (h4 id).2 (.inl h)) fun h => h
    · exact .inl ((h4 id).2 (.inr h))

/-! ### pieces -/
def Pt (t : Nat) (i : Info) (cs : List Value) : HP := fun H F => F = [t] ∧ H[t]? = some (.cells i cs)
theorem Pt.good {t : Nat} {i : Info} {cs : List Value} : Good (Pt t i cs) := ⟨fun ⟨h1, h2⟩ hf => ⟨h1, by rw [hf t (by rw [h1]; simp)]; exact h2⟩, fun ⟨h1, h2⟩ id hid => by rw [h1] at hid; simp at hid; subst hid; exact (List.getElem?_eq_some_iff.1 h2).1⟩
def OwnA (es : Nat) (v : Value) (l : List Value) : HP := fun H F => Own es H v l F
theorem OwnA.good {es : Nat} {v : Value} {l : List Value} : Good (OwnA es v l) := ⟨fun h hf => Own.frame h hf, fun h => Own.lt h⟩
/-- A row that somebody else may lead to. -/
def RowA (es : Nat) (v : Value) (l : List Value) : HP := fun H F => Row es H v l ∧ (∀ b o n c, v = .slice (some ⟨b, o, none⟩) n c → b ∈ F) ∧ ∀ id ∈ F, id < H.length ∧ H[id]?.isSome = true
theorem RowA.good {es : Nat} {v : Value} {l : List Value} : Good (RowA es v l) := by
  refine ⟨fun ⟨h1, h2, h3⟩ hf => ⟨Row.frame h1 fun b o n c e => hf b (h2 b o n c e), h2, fun id hid => ?_⟩, fun ⟨_, _, h⟩ id hid => (h id hid).1⟩
  have := (h3 id hid).2
  rw [← hf id hid] at this
  obtain ⟨x, hx⟩ := Option.isSome_iff_exists.1 this
  exact ⟨(List.getElem?_eq_some_iff.1 hx).1, by rw [hx]; rfl⟩
theorem OwnA.row {es : Nat} {v : Value} {l : List Value} (h : OwnA es v l H F) : RowA es v l H F := by
  refine ⟨Own.row h, fun b o n c e => Own.blk h b o n c e, fun id hid => ?_⟩
  have := Own.lt h id hid
  exact ⟨this, by rw [List.getElem?_eq_getElem this]; rfl⟩
def Emp : HP := fun H F => F = []
theorem Emp.good : Good Emp := ⟨fun h _ => h, fun h id hid => by rw [show _ = [] from h] at hid; cases hid⟩

/-- A new object beside what there is. -/
theorem star_new (g : Good P) (h : P H F) (i : Info) (cs : List Value) : (P * Pt H.length i cs) (H ++ [.cells i cs]) (F ++ [H.length]) := by
  refine ⟨F, [H.length], g.ext h ⟨_, rfl⟩, ⟨rfl, by simp⟩, fun x hx h' => ?_, fun x => by simp⟩
  have := g.lt h x hx
  simp at h'; omega
theorem Upd.push {X : MH} {G : List Nat} (h : ∀ id ∈ G, id ∈ F ∨ H.length ≤ id) : Upd H F (H ++ X) G := ⟨by simp, fun id h1 _ => List.getElem?_append_left h1, h⟩
/-- What is at a place. -/
theorem star_at {t : Nat} {i : Info} {cs : List Value} (h : (Pt t i cs * Q) H F) : H[t]? = some (.cells i cs) := by
  obtain ⟨A, ⟨_, h⟩, _⟩ := star_l h; exact h
/-- A place is put. -/
theorem star_put {t : Nat} {i : Info} {cs cs' : List Value} (k : Good Q) (h : (Pt t i cs * Q) H F) : (Pt t i cs' * Q) (H.set t (.cells i cs')) F ∧ Upd H F (H.set t (.cells i cs')) F := by
  obtain ⟨A, B, ⟨rfl, h1⟩, h2, h3, h4⟩ := h
  have hlt := (List.getElem?_eq_some_iff.1 h1).1
  refine ⟨⟨[t], B, ⟨rfl, List.getElem?_set_self hlt⟩, k.frame h2 fun id hid => List.getElem?_set_ne ?_, h3, h4⟩, ⟨by simp, fun id _ hn => List.getElem?_set_ne ?_, fun id h => .inl h⟩⟩
  · rintro rfl; exact h3 t (by simp) hid
  · rintro rfl; exact hn ((h4 t).2 (.inl (by simp)))

/-- An append to a slice of one's own. -/
theorem own_appU {es bytes : Nat} {v y : Value} {l ys : List Value} (h : OwnA es v l H F) (hl : l.all one = true) (hr : Row es H y ys) (hy : ys.all one = true) (hes : 0 < es) (hb : l.length + ys.length ≤ 1000000) (hbytes : bytes ≤ 4096) :
    ∃ v' H' F', meff (.app es bytes) [v, y] H = some (v', H') ∧ OwnA es v' (l ++ ys) H' F' ∧ Upd H F H' F' := by
  obtain ⟨v', H', fp', h1, h2, h3, h4⟩ := own_app (bytes := bytes) h hl hr hy hes hb hbytes
  exact ⟨v', H', fp', h1, h2, Upd.of_fp h3 (fun id _ h => h) h4⟩
/-- One element behind a field's slice of one's own: the row beside, the append, the store. -/
theorem push_field {es bytes k t : Nat} {i : Info} {cs : List Value} {v : Value} {l xs : List Value} (h : (Pt t i cs * OwnA es v l) H F) (hl : l.all one = true) (hx : xs.all one = true) (hxl : xs.length = es) (hes : 0 < es) (hb : l.length + es ≤ 1000000) (hbytes : bytes ≤ 4096) :
    ∃ v' H' F', meff (.app es bytes) [v, .slice (some ⟨H.length, 0, none⟩) 1 1] (H ++ [.cells ⟨es, true, true⟩ xs]) = some (v', H') ∧ H'[t]? = some (.cells i cs) ∧ one v' = true ∧
      (Pt t i (cs.set k v') * OwnA es v' (l ++ xs)) (H'.set t (.cells i (cs.set k v'))) F' ∧ Upd H F (H'.set t (.cells i (cs.set k v'))) F' := by
  have gP := Pt.good (t := t) (i := i) (cs := cs)
  have hg := gP.star (OwnA.good (es := es) (v := v) (l := l))
  have h1 := hg.ext h (H1 := H ++ [.cells ⟨es, true, true⟩ xs]) ⟨_, rfl⟩
  have hr : Row es (H ++ [.cells ⟨es, true, true⟩ xs]) (.slice (some ⟨H.length, 0, none⟩) 1 1) xs := row_new (by omega)
  obtain ⟨v', H', F', p, u, ha⟩ := star_upd (P' := fun v' => OwnA es v' (l ++ xs)) (C := fun v' H' => meff (.app es bytes) [v, .slice (some ⟨H.length, 0, none⟩) 1 1] (H ++ [.cells ⟨es, true, true⟩ xs]) = some (v', H')) gP (fun _ => OwnA.good) (star_comm h1) (fun A hA _ => by
    obtain ⟨v', H', F', a1, a2, a3⟩ := own_appU (bytes := bytes) hA hl hr hx hes (by omega) hbytes
    exact ⟨v', H', F', a2, a3, a1⟩)
  have p' := star_comm p
  obtain ⟨q, u2⟩ := star_put (cs' := cs.set k v') OwnA.good p'
  have hone : one v' = true := by
    obtain ⟨B, hB, _⟩ := star_l p
    rcases hB with ⟨rfl, _⟩ | ⟨b, n, c, cs, rfl, _⟩ <;> rfl
  exact ⟨v', H', F', ha, star_at p', hone, q, ((Upd.push (G := F) fun _ h => .inl h).trans u).trans u2⟩
/-- An element taken out of a field's slice of one's own. -/
theorem del_field {f bytes k t : Nat} {z : Value} (hf : mp f = some (.code (cDelete 1 bytes [z]))) (hz : one z = true) {i : Info} {cs : List Value} {v : Value} {l : List Value} (h : (Pt t i cs * OwnA 1 v l) H F) (hl : l.all one = true) (hb : l.length ≤ 1000000) (hbytes : bytes ≤ 4096) {q : Nat} (hq : q < l.length) :
    ∃ v' H' F', R mp f [v, .int .i64 (q : Int), .int .i64 ((q : Int) + 1)] H = some (v', H') ∧ H'[t]? = some (.cells i cs) ∧ one v' = true ∧
      (Pt t i (cs.set k v') * OwnA 1 v' (l.eraseIdx q)) (H'.set t (.cells i (cs.set k v'))) F' ∧ Upd H F (H'.set t (.cells i (cs.set k v'))) F' := by
  have gP := Pt.good (t := t) (i := i) (cs := cs)
  obtain ⟨v', H', F', p, u, ha⟩ := star_upd (P' := fun v' => OwnA 1 v' (l.eraseIdx q)) (C := fun v' H' => R mp f [v, .int .i64 (q : Int), .int .i64 ((q : Int) + 1)] H = some (v', H')) gP (fun _ => OwnA.good) (star_comm h) (fun A hA _ => by
    obtain ⟨v', H', a1, a2, a3⟩ := R_delete1 (mp := mp) hf hz hA hl hb hbytes hq rfl rfl
    exact ⟨v', H', A, a2, Upd.of_fp a3 (fun _ _ h => h) fun _ h => .inl h, a1⟩)
  have p' := star_comm p
  obtain ⟨q, u2⟩ := star_put (cs' := cs.set k v') OwnA.good p'
  have hone : one v' = true := by
    obtain ⟨B, hB, _⟩ := star_l p
    rcases hB with ⟨rfl, _⟩ | ⟨b, n, c, cs, rfl, _⟩ <;> rfl
  exact ⟨v', H', F', ha, star_at p', hone, q, u.trans u2⟩
theorem i64s_erase (xs : List Int) (q : Nat) : (i64s xs).eraseIdx q = i64s (xs.eraseIdx q) := by simp [i64s, List.eraseIdx_eq_take_drop_succ, List.map_take, List.map_drop]
theorem i64s_snoc (xs : List Int) (x : Int) : i64s xs ++ [.int .i64 x] = i64s (xs ++ [x]) := by simp [i64s]
/-- Where a number first stands. -/
theorem first_at {x : Int} {ids : List Int} (hm : x ∈ ids) : ∃ q : Nat, ids[q]? = some x ∧ (∀ j, j < q → ids[j]? ≠ some x) ∧ q < ids.length := by
  have h1 : ids.findIdx? (fun y => x == y) ≠ none := by
    intro e
    rw [List.findIdx?_eq_none_iff] at e
    have := e x hm
    simp at this
  obtain ⟨q, hq⟩ := Option.ne_none_iff_exists'.1 h1
  rw [List.findIdx?_eq_some_iff_getElem] at hq
  obtain ⟨hlt, e1, e2⟩ := hq
  refine ⟨q, by rw [List.getElem?_eq_getElem hlt]; simp at e1; rw [e1], fun j hj => ?_, hlt⟩
  have := e2 j hj
  rw [List.getElem?_eq_getElem (by omega)]
  simp at this ⊢
  exact fun e => this e.symm

/-! ### more of side by side -/
theorem star_imp {Q' : HP} (h : (P * Q) H F) (hx : ∀ B, Q H B → Q' H B) : (P * Q') H F := by
  obtain ⟨A, B, h1, h2, h3, h4⟩ := h; exact ⟨A, B, h1, hx B h2, h3, h4⟩
theorem star_rcomm {R : HP} (h : ((P * Q) * R) H F) : ((P * R) * Q) H F := by
  obtain ⟨A, B, ⟨A1, A2, a1, a2, a3, a4⟩, h2, h3, h4⟩ := h
  refine ⟨A1 ++ B, A2, ⟨A1, B, a1, h2, fun x hx => h3 x ((a4 x).2 (.inl hx)), fun x => by simp⟩, a2, fun x hx h => ?_, fun x => ?_⟩
  · rcases List.mem_append.1 hx with h' | h'
    · exact a3 x h' h
    · exact h3 x ((a4 x).2 (.inr h)) h'
  · rw [h4, a4]; simp [or_assoc, or_comm, or_left_comm]
/-- The right part is another one, all new. -/
theorem star_swap {Q' : HP} {G : List Nat} (g : Good P) (h : (P * Q) H F) (e : Ext H H1) (hq : Q' H1 G) (hG : ∀ id ∈ G, H.length ≤ id) : ∃ F1, (P * Q') H1 F1 ∧ Upd H F H1 F1 := by
  obtain ⟨A, B, h1, h2, h3, h4⟩ := h
  refine ⟨A ++ G, ⟨A, G, g.ext h1 e, hq, fun x hx hg => ?_, fun x => by simp⟩, Upd.of_fp (Fp.ext e (fun _ => False)) (fun _ _ h => h.elim) fun id hid => ?_⟩
  · have := g.lt h1 x hx; have := hG x hg; omega
  · rcases List.mem_append.1 hid with h | h
    · exact .inl ((h4 id).2 (.inl h))
    · exact .inr (hG id h)
theorem star_put2 {R : HP} {t : Nat} {i : Info} {cs cs' : List Value} (k : Good Q) (r : Good R) (h : ((Pt t i cs * Q) * R) H F) : ((Pt t i cs' * Q) * R) (H.set t (.cells i cs')) F ∧ Upd H F (H.set t (.cells i cs')) F := by
  obtain ⟨p, u⟩ := star_put (cs' := cs') (k.star r) (star_assoc h)
  exact ⟨star_assoc' p, u⟩
theorem star_at2 {R : HP} {t : Nat} {i : Info} {cs : List Value} (h : ((Pt t i cs * Q) * R) H F) : H[t]? = some (.cells i cs) := by
  obtain ⟨A, hA, _⟩ := star_l h; exact star_at hA
/-- A row's first one and the others. -/
theorem RowA.tail {x : Value} {l : List Value} {v : Value} (h : RowA 1 v (x :: l) H F) : ∃ b o n c i cs, v = .slice (some ⟨b, o, none⟩) (n + 1) c ∧ n = l.length ∧ n + 1 ≤ c ∧ H[b]? = some (.cells i cs) ∧ i.es = 1 ∧ cs[o]? = some x ∧ RowA 1 (.slice (some ⟨b, o + 1, none⟩) n (c - 1)) l H F := by
  obtain ⟨h1, h2, h3⟩ := h
  rcases h1 with ⟨_, h⟩ | ⟨b, o, n, c, i, cs, rfl, hnc, hB, hes, hlc, htk⟩
  · cases h
  · simp only [Nat.mul_one] at hlc htk
    have hn : n = l.length + 1 := by
      have := congrArg List.length htk
      simp at this; omega
    subst hn
    refine ⟨b, o, l.length, c, i, cs, rfl, rfl, hnc, hB, hes, ?_, ?_, fun b' o' n' c' e => by cases e; exact h2 _ _ _ _ rfl, h3⟩
    · have := congrArg (fun l => l[0]?) htk
      simpa using this
    · refine Row.part hB hes (by omega) (by omega) ?_
      rw [← List.drop_drop]
      have := congrArg (List.drop 1) htk
      rw [List.drop_take] at this
      simpa using this
/-- A row of one's own with one more behind: append(append(nil, l...), x). -/
theorem own_snoc {bytes : Nat} {v : Value} {l : List Value} {x : Value} (hr : Row 1 H v l) (hl : l.all one = true) (hx : one x = true) (hb : l.length ≤ 400000) (hbytes : bytes ≤ 4096) :
    ∃ v1 H1 v2 H2 G, meff (.app 1 bytes) [.slice none 0 0, v] H = some (v1, H1) ∧ meff (.app 1 bytes) [v1, .slice (some ⟨H1.length, 0, none⟩) 1 1] (H1 ++ [.cells ⟨1, true, true⟩ [x]]) = some (v2, H2) ∧ one v2 = true ∧ OwnA 1 v2 (l ++ [x]) H2 G ∧ Ext H H2 ∧ ∀ id ∈ G, H.length ≤ id := by
  obtain ⟨v1, H1, fp1, a1, o1, x1, n1⟩ := own_new (bytes := bytes) hr hl (by omega) (by omega) hbytes
  have x2 : Ext H1 (H1 ++ [.cells ⟨1, true, true⟩ [x]]) := ⟨_, rfl⟩
  have r2 : Row 1 (H1 ++ [.cells ⟨1, true, true⟩ [x]]) (.slice (some ⟨H1.length, 0, none⟩) 1 1) [x] := row_new rfl
  obtain ⟨v3, H3, fp3, a3, o3, f3, n3⟩ := own_app (bytes := bytes) (o1.ext x2) hl r2 (by simp [hx]) (by omega) (by simp; omega) hbytes
  have hone : one v3 = true := by rcases o3 with ⟨rfl, _⟩ | ⟨b, n, c, cs, rfl, _⟩ <;> rfl
  refine ⟨v1, H1, v3, H3, fp3, a1, a3, hone, o3, (x1.trans x2).of_fp f3 n1, fun id hid => ?_⟩
  rcases n3 id hid with h | h
  · exact n1 id h
  · have := x1.len; simp at h; omega

/-! ### stores, as the code does them: the heap behind has a name of its own -/
theorem fld_put {t : Nat} {i : Info} {cs : List Value} (k : Good Q) (h : (Pt t i cs * Q) H F) (hrw : i.rw = true) {n : Nat} (hn : n < cs.length) {v : Value} (hv : one v = true) :
    ∃ H', meff (.st 1) [.pointer (some ⟨t, n, none⟩), v] H = some (.tuple #[], H') ∧ (Pt t i (cs.set n v) * Q) H' F ∧ Upd H F H' F := by
  obtain ⟨p, u⟩ := star_put (cs' := cs.set n v) k h
  exact ⟨_, st_at (star_at h) hrw n v hv hn, p, u⟩
theorem fld_put2 {R : HP} {t : Nat} {i : Info} {cs : List Value} (k : Good Q) (r : Good R) (h : ((Pt t i cs * Q) * R) H F) (hrw : i.rw = true) {n : Nat} (hn : n < cs.length) {v : Value} (hv : one v = true) :
    ∃ H', meff (.st 1) [.pointer (some ⟨t, n, none⟩), v] H = some (.tuple #[], H') ∧ ((Pt t i (cs.set n v) * Q) * R) H' F ∧ Upd H F H' F := by
  obtain ⟨H', e, p, u⟩ := fld_put (k.star r) (star_assoc h) hrw hn hv
  exact ⟨H', e, star_assoc' p, u⟩
theorem push_fld {es bytes k t : Nat} {i : Info} {cs : List Value} {v : Value} {l xs : List Value} (h : (Pt t i cs * OwnA es v l) H F) (hrw : i.rw = true) (hk : k < cs.length) (hl : l.all one = true) (hx : xs.all one = true) (hxl : xs.length = es) (hes : 0 < es) (hb : l.length + es ≤ 1000000) (hbytes : bytes ≤ 4096) :
    ∃ v' H1 H' F', meff (.app es bytes) [v, .slice (some ⟨H.length, 0, none⟩) 1 1] (H ++ [.cells ⟨es, true, true⟩ xs]) = some (v', H1) ∧ meff (.st 1) [.pointer (some ⟨t, k, none⟩), v'] H1 = some (.tuple #[], H') ∧
      (Pt t i (cs.set k v') * OwnA es v' (l ++ xs)) H' F' ∧ Upd H F H' F' := by
  obtain ⟨v', H1, F', a1, a2, a3, a4, a5⟩ := push_field (bytes := bytes) (k := k) h hl hx hxl hes hb hbytes
  exact ⟨v', H1, _, F', a1, st_at a2 hrw k v' a3 hk, a4, a5⟩
theorem push_fld2 {es bytes k t : Nat} {i : Info} {cs : List Value} {v : Value} {l xs : List Value} {R : HP} (r : Good R) (h : ((Pt t i cs * OwnA es v l) * R) H F) (hrw : i.rw = true) (hk : k < cs.length) (hl : l.all one = true) (hx : xs.all one = true) (hxl : xs.length = es) (hes : 0 < es) (hb : l.length + es ≤ 1000000) (hbytes : bytes ≤ 4096) :
    ∃ v' H1 H' F', meff (.app es bytes) [v, .slice (some ⟨H.length, 0, none⟩) 1 1] (H ++ [.cells ⟨es, true, true⟩ xs]) = some (v', H1) ∧ meff (.st 1) [.pointer (some ⟨t, k, none⟩), v'] H1 = some (.tuple #[], H') ∧
      ((Pt t i (cs.set k v') * OwnA es v' (l ++ xs)) * R) H' F' ∧ Upd H F H' F' := by
  obtain ⟨v', H', F', p, u, H1, a1, a2⟩ := star_upd (P' := fun v' => Pt t i (cs.set k v') * OwnA es v' (l ++ xs)) (C := fun v' H' => ∃ H1, meff (.app es bytes) [v, .slice (some ⟨H.length, 0, none⟩) 1 1] (H ++ [.cells ⟨es, true, true⟩ xs]) = some (v', H1) ∧ meff (.st 1) [.pointer (some ⟨t, k, none⟩), v'] H1 = some (.tuple #[], H')) r (fun _ => Pt.good.star OwnA.good) h (fun A hA _ => by
    obtain ⟨v', H1, H', F', a1, a2, a3, a4⟩ := push_fld (bytes := bytes) (k := k) hA hrw hk hl hx hxl hes hb hbytes
    exact ⟨v', H', F', a3, a4, H1, a1, a2⟩)
  exact ⟨v', H1, H', F', a1, a2, p, u⟩
theorem del_fld2 {f : FuncId} {bytes k t : Nat} {z : Value} (hf : mp f = some (.code (cDelete 1 bytes [z]))) (hz : one z = true) {i : Info} {cs : List Value} {v : Value} {l : List Value} {S : HP} (r : Good S) (h : ((Pt t i cs * OwnA 1 v l) * S) H F) (hrw : i.rw = true) (hk : k < cs.length) (hl : l.all one = true) (hb : l.length ≤ 1000000) (hbytes : bytes ≤ 4096) {q : Nat} (hq : q < l.length) :
    ∃ v' H1 H' F', R mp f [v, .int .i64 (q : Int), .int .i64 ((q : Int) + 1)] H = some (v', H1) ∧ meff (.st 1) [.pointer (some ⟨t, k, none⟩), v'] H1 = some (.tuple #[], H') ∧
      ((Pt t i (cs.set k v') * OwnA 1 v' (l.eraseIdx q)) * S) H' F' ∧ Upd H F H' F' := by
  obtain ⟨v', H', F', p, u, H1, a1, a2⟩ := star_upd (P' := fun v' => Pt t i (cs.set k v') * OwnA 1 v' (l.eraseIdx q)) (C := fun v' H' => ∃ H1, R mp f [v, .int .i64 (q : Int), .int .i64 ((q : Int) + 1)] H = some (v', H1) ∧ meff (.st 1) [.pointer (some ⟨t, k, none⟩), v'] H1 = some (.tuple #[], H')) r (fun _ => Pt.good.star OwnA.good) h (fun A hA _ => by
    obtain ⟨v', H1, F', a1, a2, a3, a4, a5⟩ := del_field (mp := mp) (k := k) hf hz hA hl hb hbytes hq
    exact ⟨v', _, F', a4, a5, H1, a1, st_at a2 hrw k v' a3 hk⟩)
  exact ⟨v', H1, H', F', a1, a2, p, u⟩

/-! ### rows of records of whole numbers -/
def recs (ps : List (List Int)) : List Value := ps.flatMap i64s
theorem recs_len {w : Nat} : ∀ {ps : List (List Int)}, (∀ p ∈ ps, p.length = w) → (recs ps).length = ps.length * w
  | [], _ => by simp [recs]
  | p :: ps, h => by
    have := recs_len (ps := ps) fun q hq => h q (by simp [hq])
    simp only [recs, List.flatMap_cons, List.length_append, i64s_len] at this ⊢
    rw [this, h p (by simp), List.length_cons, Nat.add_mul]; omega
theorem recs_one (ps : List (List Int)) : (recs ps).all one = true := by
  rw [List.all_eq_true]
  intro x hx
  obtain ⟨p, _, hp⟩ := List.mem_flatMap.1 hx
  exact List.all_eq_true.1 (i64s_one p) x hp
theorem recs_at {w : Nat} : ∀ {ps : List (List Int)} {k : Nat} {p : List Int}, (∀ p ∈ ps, p.length = w) → ps[k]? = some p → ((recs ps).drop (k * w)).take w = i64s p
  | [], k, p, _, hk => by simp at hk
  | q :: ps, 0, p, h, hk => by
    simp at hk; subst hk
    have := h q (by simp)
    simp only [recs, List.flatMap_cons, Nat.zero_mul, List.drop_zero]
    rw [List.take_left']; rw [i64s_len, this]
  | q :: ps, k + 1, p, h, hk => by
    have ih := recs_at (w := w) (ps := ps) (k := k) (fun q hq => h q (by simp [hq])) (by simpa using hk)
    have := h q (by simp)
    simp only [recs, List.flatMap_cons] at ih ⊢
    rw [show (k + 1) * w = (i64s q).length + k * w by rw [i64s_len, this, Nat.add_mul]; omega, ← List.drop_drop, List.drop_left']
    · exact ih
    · rfl
/-- A record of a row. -/
theorem Row.rec_ {w : Nat} {a : Option Addr} {n c k : Nat} {ps : List (List Int)} {p : List Int} (h : Row w H (.slice a n c) (recs ps)) (hw : ∀ p ∈ ps, p.length = w) (hw0 : 0 < w) (hk : ps[k]? = some p) :
    n = ps.length ∧ ∃ b o j cs, a = some ⟨b, o, none⟩ ∧ H[b]? = some (.cells j cs) ∧ j.es = w ∧ o + k * w + w ≤ cs.length ∧ (cs.drop (o + k * w)).take w = i64s p ∧ ∀ (m : Nat) x, p[m]? = some x → cs[o + k * w + m]? = some (.int .i64 x) := by
  have hkl := (List.getElem?_eq_some_iff.1 hk).1
  have hl := recs_len hw
  rcases h with ⟨h1, h2⟩ | ⟨b, o, m, d, i, cs, h1, h2, h3, h4, h5, h6⟩
  · rw [h2] at hl
    have := Nat.mul_le_mul_right w (show 1 ≤ ps.length by omega)
    simp at hl; omega
  · cases h1
    have hn : n * w = ps.length * w := by rw [← hl, ← h6]; simp; omega
    have hn' : n = ps.length := Nat.eq_of_mul_eq_mul_right hw0 hn
    have hm := Nat.mul_le_mul_right w (show k + 1 ≤ n by omega)
    rw [Nat.add_mul] at hm
    have hat : (cs.drop (o + k * w)).take w = i64s p := by
      have := recs_at hw hk
      rw [← h6, List.drop_take, List.take_take, List.drop_drop, Nat.min_eq_left (by omega)] at this
      exact this
    refine ⟨hn', b, o, i, cs, rfl, h3, h4, by omega, hat, fun m x hx => ?_⟩
    have hp := hw p (List.mem_of_getElem? hk)
    have hml := (List.getElem?_eq_some_iff.1 hx).1
    have := i64s_get hx
    rw [← hat, List.getElem?_take, if_pos (by omega), List.getElem?_drop] at this
    exact this
theorem Row.recn {w : Nat} {a : Option Addr} {n c : Nat} {ps : List (List Int)} (h : Row w H (.slice a n c) (recs ps)) (hw : ∀ p ∈ ps, p.length = w) (hw0 : 0 < w) : n = ps.length := by
  obtain ⟨a', n', c', e, hl⟩ := h.slice
  cases e
  rw [recs_len hw] at hl
  exact Nat.eq_of_mul_eq_mul_right hw0 hl
theorem IRow.row {w : Nat} {v : Value} {l : List (List Int)} (h : IRow w H v l) : Row w H v (recs l) ∧ ∀ p ∈ l, p.length = w := by
  rcases h with ⟨rfl, rfl⟩ | ⟨b, cs, rfl, hB, hl, hc⟩
  · exact ⟨.inl ⟨rfl, rfl⟩, by simp⟩
  · have hw : ∀ p ∈ l, p.length = w := fun p hp => by
      obtain ⟨i, hi⟩ := List.mem_iff_getElem?.1 hp
      exact (hc i p hi).2.1
    refine ⟨.inr ⟨b, 0, l.length, l.length, _, cs, rfl, Nat.le_refl _, hB, rfl, by omega, ?_⟩, hw⟩
    rw [List.drop_zero, ← hl, List.take_length]
    apply List.ext_getElem?
    intro q
    have hrl := recs_len hw
    by_cases hq : q < l.length * w
    · have hw0 : 0 < w := by
        rcases Nat.eq_zero_or_pos w with h | h
        · subst h; simp at hq
        · exact h
      have hkl : q / w < l.length := (Nat.div_lt_iff_lt_mul hw0).2 hq
      have hmod := Nat.mod_lt q hw0
      have e := Nat.div_add_mod q w
      rw [Nat.mul_comm] at e
      have h1 := (hc (q / w) _ (List.getElem?_eq_getElem hkl)).1
      have h2 := recs_at hw (List.getElem?_eq_getElem hkl)
      have h3 := congrArg (fun l => l[q % w]?) (h1.trans h2.symm)
      simp only [List.getElem?_take, if_pos hmod, List.getElem?_drop] at h3
      rw [e] at h3; exact h3
    · rw [List.getElem?_eq_none (by omega), List.getElem?_eq_none (by omega)]
/-- A row that nothing of F holds. -/
def Stay (es : Nat) (v : Value) (l : List Value) (H : MH) (F : List Nat) : Prop := Row es H v l ∧ ∀ b o n c, v = .slice (some ⟨b, o, none⟩) n c → b ∉ F
theorem Stay.upd {es : Nat} {v : Value} {l : List Value} (h : Stay es v l H F) (u : Upd H F H1 F1) : Stay es v l H1 F1 := by
  have hlt : ∀ b o n c, v = .slice (some ⟨b, o, none⟩) n c → b < H.length := fun b o n c e => by
    rcases h.1 with ⟨h1, _⟩ | ⟨b', o', n', c', i, cs, h1, _, h3, _⟩
    · rw [h1] at e; cases e
    · rw [h1] at e; cases e; exact (List.getElem?_eq_some_iff.1 h3).1
  refine ⟨h.1.frame fun b o n c e => u.same b (hlt b o n c e) (h.2 b o n c e), fun b o n c e hb => ?_⟩
  rcases u.new b hb with h' | h'
  · exact h.2 b o n c e h'
  · have := hlt b o n c e; omega
theorem Stay.ext {es : Nat} {v : Value} {l : List Value} (h : Stay es v l H F) (e : Ext H H1) : Stay es v l H1 F := h.upd (Upd.ext e)

/-- slices.Clone: a row of its own. -/
theorem R_cloneF {f : FuncId} {es bytes : Nat} {z : List Value} (hf : mp f = some (.code (cClone es bytes z))) (hz : z.length = es) (hes : 0 < es) (hbytes : bytes ≤ 4096) {v : Value} {l : List Value} (hr : Row es H v l) (hl : l.all one = true) (hn : l.length ≤ 1000000) :
    ∃ v' H' G, R mp f [v] H = some (v', H') ∧ RowA es v' l H' G ∧ Ext H H' ∧ (∀ id ∈ G, H.length ≤ id) ∧ ∃ a n c, v' = .slice a n c := by
  obtain ⟨a, n, c, rfl, hlen⟩ := hr.slice
  rcases hr with ⟨h1, h2⟩ | ⟨b, o, m, d, i, cs, h1, h2, h3, h4, h5, h6⟩
  · cases h1; subst h2
    refine ⟨.slice none 0 0, H, [], ?_, ⟨.inl ⟨rfl, rfl⟩, by simp, by simp⟩, Ext.refl H, by simp, _, _, _, rfl⟩
    rw [R_code hf]
    simp [cClone]
  · cases h1
    have hr : Row es H (.slice (some ⟨b, o, none⟩) n c) l := .inr ⟨b, o, n, c, i, cs, rfl, h2, h3, h4, h5, h6⟩
    have hr1 : Row es (H ++ [.cells ⟨es, true, true⟩ []]) (.slice (some ⟨b, o, none⟩) n c) l := hr.app
    have hg : (H ++ [MObj.cells ⟨es, true, true⟩ []])[H.length]? = some (.cells ⟨es, true, true⟩ []) := by simp
    have hnl : n ≤ l.length := by
      rw [← hlen]; exact Nat.le_mul_of_pos_right n hes
    by_cases h0 : n = 0
    · subst h0
      have happ := app_zero (es := es) (bytes := bytes) (H := H ++ [.cells ⟨es, true, true⟩ []]) (a := some ⟨H.length, 0, none⟩) (len := 0) (cap := 0) (y := .slice (some ⟨b, o, none⟩) 0 c) (ys := l) (by simp) (by rintro x hx; cases hx; exact ⟨_, _, rfl, hg⟩) hr1.src
      have hl0 : l = [] := List.eq_nil_of_length_eq_zero (by omega)
      refine ⟨_, H ++ [.cells ⟨es, true, true⟩ []], [H.length], ?_, ⟨.inr ⟨H.length, 0, 0, 0, _, _, rfl, by omega, hg, rfl, by simp, by simp [hl0]⟩, fun b' o' n' c' e => by cases e; simp, fun id hid => by simp at hid; subst hid; exact ⟨by simp, by rw [hg]; rfl⟩⟩, ⟨_, rfl⟩, by simp, _, _, _, rfl⟩
      rw [R_code hf]
      simp [cClone, happ, hz]
    · have happ := app_ex (bytes := bytes) (len := 0) (cap := 0) (o := 0) hg hr1.src h0 rfl (by omega) (by omega) (by omega) (by omega) rfl (by simp) hl
      have hg2 : (H ++ ([MObj.cells ⟨es, true, true⟩ []] ++ [.cells ⟨es, true, false⟩ l]))[H.length + 1]? = some (.cells ⟨es, true, false⟩ l) := by simp
      refine ⟨.slice (some ⟨H.length + 1, 0, none⟩) n n, H ++ ([.cells ⟨es, true, true⟩ []] ++ [.cells ⟨es, true, false⟩ l]), [H.length + 1], ?_, ⟨.inr ⟨H.length + 1, 0, n, n, ⟨es, true, false⟩, l, rfl, Nat.le_refl _, hg2, rfl, by omega, by rw [List.drop_zero, hlen, List.take_length]⟩, fun b' o' n' c' e => by cases e; simp, fun id hid => by simp at hid; subst hid; exact ⟨by simp, by rw [hg2]; rfl⟩⟩, ⟨_, rfl⟩, by simp, _, _, _, rfl⟩
      rw [R_code hf]
      simp [cClone, happ, hz]
end
end Go.Mod

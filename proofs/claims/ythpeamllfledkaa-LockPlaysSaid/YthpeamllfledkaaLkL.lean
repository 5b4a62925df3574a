/- The line's functions: what they come to. -/
import Derived.Test.YthpeamllfledkaaLkM
import Derived.Test.YthpeamllfledkaaGrG
set_option linter.unusedVariables false
set_option linter.unusedSimpArgs false
namespace Go.Mod

variable {mp : FuncId → Option MDef}

/-- A line: those in it, room for how many. -/
structure LineAt (H : MH) (t : Nat) (ids : List Int) (room : Int) (v : Value) (fp : List Nat) : Prop where
  obj : H[t]? = some (.cells ⟨0, true, false⟩ [v, .int .i64 room])
  own : Own 1 H v (i64s ids) fp
  len : ids.length ≤ 1000
theorem LineAt.nt {H : MH} {t : Nat} {ids : List Int} {room : Int} {v : Value} {fp : List Nat} (h : LineAt H t ids room v fp) : t ∉ fp := by
  rcases h.own with ⟨_, _, h3⟩ | ⟨b, n, c, cs, h1, h2, h3, h4, h5, h6⟩
  · rw [h3]; simp
  · rw [h6]; simp
    rintro rfl
    have := h.obj
    rw [h3] at this; cases this
theorem LineAt.lt {H : MH} {t : Nat} {ids : List Int} {room : Int} {v : Value} {fp : List Nat} (h : LineAt H t ids room v fp) : t < H.length := (List.getElem?_eq_some_iff.1 h.obj).1
theorem LineAt.frame {H H' : MH} {t : Nat} {ids : List Int} {room : Int} {v : Value} {fp : List Nat} (h : LineAt H t ids room v fp) (hf : ∀ id, (id = t ∨ id ∈ fp) → H'[id]? = H[id]?) : LineAt H' t ids room v fp :=
  ⟨by rw [hf t (.inl rfl)]; exact h.obj, h.own.frame fun id hid => hf id (.inr hid), h.len⟩
theorem LineAt.ext {H H' : MH} {t : Nat} {ids : List Int} {room : Int} {v : Value} {fp : List Nat} (h : LineAt H t ids room v fp) (e : Ext H H') : LineAt H' t ids room v fp := by
  refine h.frame fun id hid => ?_
  obtain ⟨X, rfl⟩ := e
  refine List.getElem?_append_left ?_
  rcases hid with rfl | hid
  · exact h.lt
  · exact h.own.lt id hid
/-- The field is put: another slice of its own. -/
theorem LineAt.put {H : MH} {t : Nat} {room : Int} {v v' : Value} {ids' : List Int} {fp' : List Nat} (ht : H[t]? = some (.cells ⟨0, true, false⟩ [v, .int .i64 room])) (hown : Own 1 H v' (i64s ids') fp') (hl : ids'.length ≤ 1000) :
    LineAt (H.set t (.cells ⟨0, true, false⟩ [v', .int .i64 room])) t ids' room v' fp' := by
  refine ⟨List.getElem?_set_self (List.getElem?_eq_some_iff.1 ht).1, hown.frame fun id hid => List.getElem?_set_ne ?_, hl⟩
  rintro rfl
  rcases hown with ⟨_, _, h3⟩ | ⟨b, n, c, cs, h1, h2, h3, h4, h5, h6⟩
  · rw [h3] at hid; cases hid
  · rw [h6] at hid; simp at hid; subst hid
    rw [ht] at h3; cases h3

theorem R_lnew (hf : mp 28 = some (.code m28)) {H : MH} {room : Int} :
    ∃ H', R mp 28 [.int .i64 room] H = some (.pointer (some ⟨H.length, 0, none⟩), H') ∧ Ext H H' ∧ LineAt H' H.length [] (min (max room 0) 64) (.slice none 0 0) [] := by
  refine ⟨H ++ [.cells ⟨0, true, false⟩ [.slice none 0 0, .int .i64 (min (max room 0) 64)]], ?_, ⟨_, rfl⟩, ⟨by simp, .inl ⟨rfl, rfl, rfl⟩, by simp⟩⟩
  rw [R_code hf]
  simp [m28]

theorem R_lall (hf : mp 49 = some (.code m49)) (h55 : mp 55 = some (.code m55)) {H : MH} {t : Nat} {ids : List Int} {room : Int} {v : Value} {fp : List Nat} (h : LineAt H t ids room v fp) :
    ∃ v' H', R mp 49 [.pointer (some ⟨t, 0, none⟩)] H = some (v', H') ∧ Ext H H' ∧ Row 1 H' v' (i64s ids) := by
  obtain ⟨v', X, h1, h2⟩ := R_clone (mp := mp) (f := 55) (es := 1) (bytes := 8) (z := [.int .i64 0]) h55 rfl (by omega) (by omega) h.own.row (i64s_one ids) (by rw [i64s_len]; have := h.len; omega)
  obtain ⟨a, n, c, rfl, hl⟩ := h.own.row.slice
  obtain ⟨a', n', c', rfl, hl'⟩ := h2.slice
  refine ⟨_, _, ?_, ⟨X, rfl⟩, h2⟩
  rw [R_code hf]
  simp [m49, ld_at h.obj, h1]

theorem R_lput_full (hf : mp 31 = some (.code m31)) {H : MH} {t : Nat} {ids : List Int} {room : Int} {v : Value} {fp : List Nat} (h : LineAt H t ids room v fp) (hr : room ≤ ids.length) (x : Int) :
    R mp 31 [.pointer (some ⟨t, 0, none⟩), .int .i64 x] H = some (.int .i64 12, H) := by
  obtain ⟨a, n, c, rfl, hl⟩ := h.own.row.slice
  have hn : n = ids.length := by rw [i64s_len] at hl; omega
  subst hn
  rw [R_code hf]
  simp [m31, ld_at h.obj, mdraw_plain, hr]
theorem R_lput (hf : mp 31 = some (.code m31)) {H : MH} {t : Nat} {ids : List Int} {room : Int} {v : Value} {fp : List Nat} (h : LineAt H t ids room v fp) (hr : ids.length < room) (hr2 : room ≤ 900) (x : Int) :
    ∃ v' H' fp', R mp 31 [.pointer (some ⟨t, 0, none⟩), .int .i64 x] H = some (.int .i64 0, H') ∧ LineAt H' t (ids ++ [x]) room v' fp' ∧ Fp (fun id => id = t ∨ id ∈ fp) H H' ∧ ∀ id ∈ fp', id ∈ fp ∨ H.length ≤ id := by
  have e1 : Ext H (H ++ [.cells ⟨1, true, true⟩ [.int .i64 x]]) := ⟨_, rfl⟩
  have h1 := h.ext e1
  have hsrc : srcCells 1 (H ++ [.cells ⟨1, true, true⟩ [.int .i64 x]]) (.slice (some ⟨H.length, 0, none⟩) 1 1) = some (1, [.int .i64 x]) := by simp [srcCells]
  obtain ⟨v', H2, fp', ha, ho, hfp, hn⟩ := own_push (bytes := 8) h1.own (i64s_one ids) hsrc rfl (by omega) (by omega) (by rw [i64s_len]; simp; have := h.len; omega) (by omega) rfl
  have hob := hfp.get h1.obj h1.nt
  obtain ⟨a, n, c, rfl, hl⟩ := h.own.row.slice
  have hnn : n = ids.length := by rw [i64s_len] at hl; omega
  subst hnn
  obtain ⟨a', n', c', rfl, hl'⟩ := ho.row.slice
  have ho' : Own 1 H2 (.slice a' n' c') (i64s (ids ++ [x])) fp' := by simpa [i64s] using ho
  have hlt : ¬ room ≤ (ids.length : Int) := by omega
  refine ⟨_, _, fp', ?_, LineAt.put hob ho' (by simp; omega), ?_, fun id hid => ?_⟩
  · rw [R_code hf]
    simp [m31, ld_at h.obj, ld_at h1.obj, mdraw_plain, hlt, ha, st_at hob]
  · have f1 := Fp.ext e1 (fun id => id = t ∨ id ∈ fp)
    have f2 : Fp (fun id => id = t ∨ id ∈ fp) (H ++ [.cells ⟨1, true, true⟩ [.int .i64 x]]) H2 := hfp.mono fun id _ h => .inr h
    exact (f1.trans f2 fun id _ h => h).trans (Fp.set t _ (.inl rfl)) fun id _ h => h
  · rcases hn id hid with h | h
    · exact .inl h
    · exact .inr (by simp at h; omega)

theorem erase_first : ∀ (ids : List Int) (q : Nat) (x : Int), ids[q]? = some x → (∀ j, j < q → ids[j]? ≠ some x) → ids.erase x = ids.eraseIdx q
  | [], q, x, h, _ => by simp at h
  | y :: l, 0, x, h, _ => by simp at h; subst h; simp
  | y :: l, q + 1, x, h, hb => by
    have hy : y ≠ x := fun e => hb 0 (by omega) (by simp [e])
    rw [List.erase_cons_tail (by simpa using hy), List.eraseIdx_cons_succ, erase_first l q x (by simpa using h) (fun j hj hx => hb (j + 1) (by omega) (by simpa using hx))]
theorem drop_loop (h63 : mp 63 = some (.code m63)) {H : MH} {t : Nat} {x : Int} {ids : List Int} {room : Int} {a : Option Addr} {n c : Nat} {fp : List Nat} (h : LineAt H t ids room (.slice a n c) fp) : ∀ (k i : Nat), ids.length - i = k → i ≤ ids.length → (∀ j, j < i → ids[j]? ≠ some x) →
    (∃ q : Nat, ids[q]? = some x ∧ (∀ j, j < q → ids[j]? ≠ some x) ∧ ∃ v' H', Rc mp (.loop m42_0) [(0, .pointer (some ⟨t, 0, none⟩)), (1, .int .i64 x), (10, .slice a n c), (11, .int .i64 (n : Int)), (12, .int .i64 (i : Int))] H = some (.ret, [(4, .bool true)], H') ∧
      LineAt H' t (ids.eraseIdx q) room v' fp ∧ Fp (fun id => id = t ∨ id ∈ fp) H H') ∨
    ((∀ j : Nat, ids[j]? ≠ some x) ∧ Rc mp (.loop m42_0) [(0, .pointer (some ⟨t, 0, none⟩)), (1, .int .i64 x), (10, .slice a n c), (11, .int .i64 (n : Int)), (12, .int .i64 (i : Int))] H = some (.exit 0, [(0, .pointer (some ⟨t, 0, none⟩)), (1, .int .i64 x), (10, .slice a n c), (11, .int .i64 (n : Int)), (12, .int .i64 (n : Int)), (13, .bool false)], H)) := by
  have hl0 : n = ids.length := by
    obtain ⟨a0, n0, c0, e, hl⟩ := h.own.row.slice
    cases e; rw [i64s_len] at hl; omega
  have hlen := h.len
  intro k
  induction k with
  | zero =>
    intro i hk hi hb
    have hin : i = ids.length := by omega
    subst hin
    refine .inr ⟨fun j => ?_, ?_⟩
    · rcases Nat.lt_or_ge j ids.length with h | h
      · exact hb j h
      · rw [List.getElem?_eq_none h]; simp
    · rw [Rc_loop]
      simp [m42_0, hl0]
  | succ k ih =>
    intro i hk hi hb
    have hil : i < n := by omega
    obtain ⟨b, o, j, cs, rfl, hB, hes, hat⟩ := h.own.row.at hil
    obtain ⟨y, hy⟩ : ∃ y, ids[i]? = some y := ⟨_, List.getElem?_eq_getElem (by omega)⟩
    rw [i64s_get hy] at hat
    have w : IntKind.i64.wrap ((i : Int) + 1) = (i : Int) + 1 := wrap_i64 (by omega) (by omega)
    by_cases hxy : y = x
    · refine .inl ⟨i, by rw [hy, hxy], hb, ?_⟩
      obtain ⟨v', H2, hd, ho, hfp⟩ := R_delete1 (mp := mp) (f := 63) (bytes := 8) (z := .int .i64 0) h63 rfl h.own (i64s_one _) (by rw [i64s_len]; omega) (by omega) (i := i) (x := i) (y := (i : Int) + 1) (by simp [i64s]; omega) rfl rfl
      have hob := hfp.get h.obj h.nt
      obtain ⟨a', n', c', rfl, hl'⟩ := ho.row.slice
      have ho' : Own 1 H2 (.slice a' n' c') (i64s (ids.eraseIdx i)) fp := by
        have : (i64s ids).eraseIdx i = i64s (ids.eraseIdx i) := by simp [i64s, List.eraseIdx_eq_take_drop_succ, List.map_take, List.map_drop]
        rw [← this]; exact ho
      refine ⟨_, _, ?_, LineAt.put hob ho' (by rw [List.length_eraseIdx]; split <;> omega), (hfp.mono fun id _ h => .inr h).trans (Fp.set t _ (.inl rfl)) fun id _ h => h⟩
      rw [Rc_loop]
      simp [m42_0, hil, ld_at hB, hat, hxy, w, ld_at h.obj, hd, st_at hob]
    · have step : Rc mp (.loop m42_0) [(0, .pointer (some ⟨t, 0, none⟩)), (1, .int .i64 x), (10, .slice (some ⟨b, o, none⟩) n c), (11, .int .i64 (n : Int)), (12, .int .i64 (i : Int))] H = Rc mp (.loop m42_0) [(0, .pointer (some ⟨t, 0, none⟩)), (1, .int .i64 x), (10, .slice (some ⟨b, o, none⟩) n c), (11, .int .i64 (n : Int)), (12, .int .i64 ((i + 1 : Nat) : Int))] H := by
        rw [Rc_loop]
        simp [m42_0, hil, ld_at hB, hat, hxy, w]
      rw [step]
      refine ih (i + 1) (by omega) (by omega) fun j hj => ?_
      rcases Nat.lt_or_ge j i with h | h
      · exact hb j h
      · have : j = i := by omega
        subst this
        rw [hy]; simp; exact hxy

/-- The first one that is x is away. -/
theorem R_ldrop (hf : mp 42 = some (.code m42)) (h63 : mp 63 = some (.code m63)) {H : MH} {t : Nat} {ids : List Int} {room : Int} {v : Value} {fp : List Nat} (h : LineAt H t ids room v fp) (x : Int) :
    ∃ v' H', R mp 42 [.pointer (some ⟨t, 0, none⟩), .int .i64 x] H = some (.bool (decide (x ∈ ids)), H') ∧ LineAt H' t (ids.erase x) room v' fp ∧ Fp (fun id => id = t ∨ id ∈ fp) H H' := by
  obtain ⟨a, n, c, rfl, hl⟩ := h.own.row.slice
  have hn : n = ids.length := by rw [i64s_len] at hl; omega
  rcases drop_loop h63 h (x := x) ids.length 0 rfl (Nat.zero_le _) (fun j hj => by omega) with ⟨q, h1, h2, v', H', h3, h4, h5⟩ | ⟨h1, h2⟩
  · have hmem : x ∈ ids := List.mem_of_getElem? h1
    have her : ids.erase x = ids.eraseIdx q := erase_first ids q x h1 h2
    refine ⟨v', H', ?_, by rw [her]; exact h4, h5⟩
    rw [R_code hf]
    simp at h3
    simp [m42, ld_at h.obj, h3, hmem]
  · have hmem : x ∉ ids := fun hm => by
      obtain ⟨j, hj⟩ := List.mem_iff_getElem?.1 hm
      exact h1 j hj
    refine ⟨_, H, ?_, by rw [List.erase_of_not_mem hmem]; exact h, Fp.refl _ _⟩
    rw [R_code hf]
    simp at h2
    simp [m42, ld_at h.obj, h2, hmem]
end Go.Mod

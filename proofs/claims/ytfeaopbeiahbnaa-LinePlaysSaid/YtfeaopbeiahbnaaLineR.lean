/- The reference's line: what its functions come to. -/
import Derived.Test.YtfeaopbeiahbnaaLib2
import Derived.Test.YtfeaopbeiahbnaaLineL
set_option linter.unusedVariables false
set_option linter.unusedSimpArgs false
namespace Go.Mod

/-- The reference's line: its slice may be a part of a row that nobody writes. -/
structure RLine (H : MH) (u : Nat) (ids : List Int) (room : Int) (v : Value) (fq : List Nat) : Prop where
  obj : H[u]? = some (.cells ⟨0, true, false⟩ [v, .int .i64 room])
  row : Row 1 H v (i64s ids)
  blk : ∀ b o n c, v = .slice (some ⟨b, o, none⟩) n c → b ∈ fq
  nu : u ∉ fq
  lt : ∀ id ∈ fq, id < H.length
  len : ids.length ≤ 1000
theorem Row.frame {es : Nat} {H H' : MH} {v : Value} {l : List Value} (h : Row es H v l) (hf : ∀ b o n c, v = .slice (some ⟨b, o, none⟩) n c → H'[b]? = H[b]?) : Row es H' v l := by
  rcases h with h | ⟨b, o, n, c, i, cs, h1, h2, h3, h4⟩
  · exact .inl h
  · exact .inr ⟨b, o, n, c, i, cs, h1, h2, by rw [hf b o n c h1]; exact h3, h4⟩
section
variable {H H' : MH} {u : Nat} {ids : List Int} {room : Int} {v : Value} {fq : List Nat}
theorem RLine.ult (h : RLine H u ids room v fq) : u < H.length := (List.getElem?_eq_some_iff.1 h.obj).1
theorem RLine.frame (h : RLine H u ids room v fq) (hl : H.length ≤ H'.length) (hf : ∀ id, (id = u ∨ id ∈ fq) → H'[id]? = H[id]?) : RLine H' u ids room v fq :=
  ⟨by rw [hf u (.inl rfl)]; exact h.obj, h.row.frame fun b o n c e => hf b (.inr (h.blk b o n c e)), h.blk, h.nu, fun id hid => Nat.lt_of_lt_of_le (h.lt id hid) hl, h.len⟩
theorem RLine.ext (h : RLine H u ids room v fq) (e : Ext H H') : RLine H' u ids room v fq := by
  refine h.frame e.len fun id hid => ?_
  obtain ⟨X, rfl⟩ := e
  refine List.getElem?_append_left ?_
  rcases hid with rfl | hid
  · exact h.ult
  · exact h.lt id hid
/-- The field is put. -/
theorem RLine.put (h : RLine H u ids room v fq) (e : Ext H H') {v' : Value} {ids' : List Int} {fq' : List Nat} (hr : Row 1 H' v' (i64s ids')) (hb : ∀ b o n c, v' = .slice (some ⟨b, o, none⟩) n c → b ∈ fq') (hn : u ∉ fq') (hlt : ∀ id ∈ fq', id < H'.length) (hl : ids'.length ≤ 1000) :
    RLine (H'.set u (.cells ⟨0, true, false⟩ [v', .int .i64 room])) u ids' room v' fq' := by
  have hu := h.ult
  have := e.len
  refine ⟨List.getElem?_set_self (by omega), hr.frame fun b o n c e => List.getElem?_set_ne ?_, hb, hn, fun id hid => by simpa using hlt id hid, hl⟩
  rintro rfl
  exact hn (hb _ o n c e)
end

variable {mp : FuncId → Option MDef}
theorem R_rnew (hf : mp 24 = some (.code m24)) {H : MH} {room : Int} :
    ∃ H', R mp 24 [.int .i64 room] H = some (.pointer (some ⟨H.length, 0, none⟩), H') ∧ Ext H H' ∧ RLine H' H.length [] (max 0 (min room 64)) (.slice none 0 0) [] := by
  refine ⟨H ++ [.cells ⟨0, true, false⟩ [.slice none 0 0, .int .i64 (max 0 (min room 64))]], ?_, ⟨_, rfl⟩, ⟨by simp, .inl ⟨rfl, rfl⟩, by simp, by simp, by simp, by simp⟩⟩
  rw [R_code hf]
  simp [m24]

theorem Own.blk {es : Nat} {H : MH} {v : Value} {l : List Value} {fp : List Nat} (h : Own es H v l fp) : ∀ b o n c, v = .slice (some ⟨b, o, none⟩) n c → b ∈ fp := by
  rcases h with ⟨rfl, _, _⟩ | ⟨b, n, c, cs, rfl, _, _, _, _, rfl⟩
  · intro b o n c h; cases h
  · intro b' o n' c' h; cases h; simp

section
variable {H : MH} {u : Nat} {ids : List Int} {room : Int} {v : Value} {fq : List Nat}
theorem R_rput_full (hf : mp 26 = some (.code m26)) (h : RLine H u ids room v fq) (hr : room ≤ ids.length) (x : Int) :
    R mp 26 [.pointer (some ⟨u, 0, none⟩), .int .i64 x] H = some (.int .i64 12, H) := by
  obtain ⟨a, n, c, rfl, hl⟩ := h.row.slice
  have hn : n = ids.length := by rw [i64s_len] at hl; omega
  subst hn
  rw [R_code hf]
  simp [m26, ld_at h.obj, mdraw_plain, hr]
theorem R_rput (hf : mp 26 = some (.code m26)) (h : RLine H u ids room v fq) (hr : ids.length < room) (hr2 : room ≤ 900) (x : Int) :
    ∃ v' H' fq', R mp 26 [.pointer (some ⟨u, 0, none⟩), .int .i64 x] H = some (.int .i64 0, H') ∧ RLine H' u (ids ++ [x]) room v' fq' ∧ Fp (fun id => id = u) H H' ∧ ∀ id ∈ fq', H.length ≤ id := by
  have hlt : ¬ room ≤ (ids.length : Int) := by omega
  obtain ⟨v1, H1, fp1, a1, o1, x1, n1⟩ := own_new (bytes := 8) h.row (i64s_one ids) (by omega) (by rw [i64s_len]; have := h.len; omega) (by omega)
  have x2 : Ext H1 (H1 ++ [.cells ⟨1, true, true⟩ [.int .i64 x]]) := ⟨_, rfl⟩
  have r2 : Row 1 (H1 ++ [.cells ⟨1, true, true⟩ [.int .i64 x]]) (.slice (some ⟨H1.length, 0, none⟩) 1 1) [.int .i64 x] := row_new rfl
  obtain ⟨v3, H3, fp3, a3, o3, f3, n3⟩ := own_app (bytes := 8) (o1.ext x2) (i64s_one ids) r2 rfl (by omega) (by rw [i64s_len]; have := h.len; simp; omega) (by omega)
  have x3 : Ext H H3 := (x1.trans x2).of_fp f3 n1
  have nn3 : ∀ id ∈ fp3, H.length ≤ id := fun id hid => by
    rcases n3 id hid with h | h
    · exact n1 id h
    · have := x1.len; simp at h; omega
  obtain ⟨a, n, c, rfl, hl⟩ := h.row.slice
  have hnn : n = ids.length := by rw [i64s_len] at hl; omega
  subst hnn
  obtain ⟨a', n', c', rfl, hl'⟩ := o1.row.slice
  obtain ⟨a3', n3', c3', rfl, hl3⟩ := o3.row.slice
  have o3' : Own 1 H3 (.slice a3' n3' c3') (i64s (ids ++ [x])) fp3 := by simpa [i64s] using o3
  refine ⟨_, _, fp3, ?_, h.put x3 o3'.row o3'.blk (fun hu => by have := nn3 _ hu; have := h.ult; omega) o3'.lt (by simp; omega), x3.set1, nn3⟩
  have ho3 := x3.get h.obj
  rw [R_code hf]
  simp [m26, ld_at h.obj, mdraw_plain, hlt, a1, a3, st_at ho3]

theorem R_rtake0 (hf : mp 28 = some (.code m28)) (h : RLine H u [] room v fq) :
    R mp 28 [.pointer (some ⟨u, 0, none⟩)] H = some (.tuple #[.int .i64 0, .int .i64 13], H) := by
  obtain ⟨a, n, c, rfl, hl⟩ := h.row.slice
  have hn : n = 0 := by simpa [i64s] using hl
  subst hn
  rw [R_code hf]
  simp [m28, ld_at h.obj]
theorem R_rtake (hf : mp 28 = some (.code m28)) {x : Int} (h : RLine H u (x :: ids) room v fq) :
    ∃ v' H', R mp 28 [.pointer (some ⟨u, 0, none⟩)] H = some (.tuple #[.int .i64 x, .int .i64 0], H') ∧ RLine H' u ids room v' fq ∧ Fp (fun id => id = u) H H' := by
  have hrow := h.row
  obtain ⟨a, n, c, rfl, hl⟩ := h.row.slice
  have hn : n = ids.length + 1 := by simpa [i64s] using hl
  subst hn
  rcases hrow with ⟨h1, _⟩ | ⟨b, o, n, c', i, cs, h1, h2, h3, h4, h5, h6⟩
  · cases h1
  · cases h1
    have r' : Row 1 H (.slice (some ⟨b, o + 1, none⟩) ids.length (c - 1)) (i64s ids) := by
      refine Row.part h3 h4 (by omega) (by omega) ?_
      rw [← List.drop_drop]
      have := congrArg (List.drop 1) h6
      rw [List.drop_take] at this
      simp [i64s] at this ⊢
      exact this
    have hat : cs[o]? = some (.int .i64 x) := by
      have := congrArg (fun l => l[0]?) h6
      simp [i64s] at this
      exact this
    refine ⟨_, _, ?_, h.put (Ext.refl H) r' (fun b' o' n' c' e => by cases e; exact h.blk _ _ _ _ rfl) h.nu h.lt (by have := h.len; simp at this; omega), Fp.set1⟩
    have c1 : (1 : Int) ≤ (ids.length : Int) + 1 := by omega
    have c0 : ¬ (ids.length : Int) + 1 = 0 := by omega
    rw [R_code hf]
    simp [m28, ld_at h.obj, c0, c1, ld_at h3, hat, sl_at h3 h4, st_at h.obj]

theorem R_rdrop (hf : mp 30 = some (.code m30)) (h36 : mp 36 = some (.code cAt)) (h67 : mp 67 = some (.code cWithout)) (h : RLine H u ids room v fq) (x : Int) :
    ∃ v' H' fq', R mp 30 [.pointer (some ⟨u, 0, none⟩), .int .i64 x] H = some (.bool (decide (x ∈ ids)), H') ∧ RLine H' u (ids.erase x) room v' fq' ∧ Fp (fun id => id = u) H H' ∧ ∀ id ∈ fq', id ∈ fq ∨ H.length ≤ id := by
  have hat := R_at (mp := mp) h36 (x := x) h.row (by have := h.len; omega)
  obtain ⟨a, n, c, hv, hl⟩ := h.row.slice
  have hn : n = ids.length := by rw [i64s_len] at hl; omega
  by_cases hm : x ∈ ids
  · obtain ⟨q, hq, hqb⟩ : ∃ q : Nat, ids[q]? = some x ∧ ∀ j, j < q → ids[j]? ≠ some x := by
      have h1 : ids.findIdx? (fun y => x == y) ≠ none := by
        intro e
        rw [List.findIdx?_eq_none_iff] at e
        have := e x hm
        simp at this
      obtain ⟨q, hq⟩ := Option.ne_none_iff_exists'.1 h1
      rw [List.findIdx?_eq_some_iff_getElem] at hq
      obtain ⟨hlt, e1, e2⟩ := hq
      refine ⟨q, by rw [List.getElem?_eq_getElem hlt]; simp at e1; rw [e1], fun j hj => ?_⟩
      have := e2 j hj
      rw [List.getElem?_eq_getElem (by omega)]
      simp at this ⊢
      exact fun e => this e.symm
    have hix := ixOf_some hq hqb
    have hlt : q < ids.length := (List.getElem?_eq_some_iff.1 hq).1
    obtain ⟨v1, H1, fp1, a1, o1, x1, n1⟩ := R_without (mp := mp) h67 h.row (i64s_one ids) (by rw [i64s_len]; have := h.len; omega) (i := q) (by rw [i64s_len]; exact hlt)
    have her : ids.erase x = ids.eraseIdx q := erase_first ids q x hq hqb
    have o1' : Own 1 H1 v1 (i64s (ids.erase x)) fp1 := by
      have : (i64s ids).eraseIdx q = i64s (ids.eraseIdx q) := by simp [i64s, List.eraseIdx_eq_take_drop_succ, List.map_take, List.map_drop]
      rw [her, ← this]; exact o1
    obtain ⟨a', n', c', rfl, hl'⟩ := o1.row.slice
    refine ⟨_, _, fp1, ?_, h.put x1 o1'.row o1'.blk (fun hu => by have := n1 _ hu; have := h.ult; omega) o1'.lt (by have := h.len; rw [her, List.length_eraseIdx]; split <;> omega), x1.set1, fun id hid => .inr (n1 id hid)⟩
    have ho1 := x1.get h.obj
    subst hv
    rw [R_code hf]
    simp [m30, ld_at h.obj, hat, hix, a1, st_at ho1, hm]
  · have hix : ixOf x ids = -1 := ixOf_none fun j hj => hm (List.mem_of_getElem? hj)
    refine ⟨v, H, fq, ?_, by rw [List.erase_of_not_mem hm]; exact h, Fp.refl _ _, fun id hid => .inl hid⟩
    subst hv
    rw [R_code hf]
    simp [m30, ld_at h.obj, hat, hix, hm]
end
end Go.Mod

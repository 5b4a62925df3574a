/- Slices of one's own with room: one element put in, some taken out; rows of pairs. -/
import Derived.Test.YtpdkmcnoidbjoaaLib5
set_option linter.unusedVariables false
set_option linter.unusedSimpArgs false
namespace Go.Mod

/-- A slice of one's own; where it is not nil it has room. -/
def OwnP (es : Nat) (v : Value) (l : List Value) : HP := fun H F => OwnA es v l H F ∧ ∀ a n, v ≠ .slice (some a) n 0
theorem OwnP.good {es : Nat} {v : Value} {l : List Value} : Good (OwnP es v l) := OwnA.good.and
section
variable {mp : FuncId → Option MDef} {H H1 : MH} {F : List Nat}
theorem OwnP.row {es : Nat} {v : Value} {l : List Value} (h : OwnP es v l H F) : Row es H v l := Own.row h.1
theorem OwnP.one {es : Nat} {v : Value} {l : List Value} (h : OwnP es v l H F) : one v = true := by
  rcases h.1 with ⟨rfl, _⟩ | ⟨b, n, c, cs, rfl, _⟩ <;> rfl
theorem OwnP.nil {es : Nat} : OwnP es (.slice none 0 0) [] H [] := ⟨.inl ⟨rfl, rfl, rfl⟩, by simp⟩
theorem OwnP.cases {es : Nat} {v : Value} {l : List Value} (h : OwnP es v l H F) :
    (v = .slice none 0 0 ∧ l = [] ∧ F = []) ∨ ∃ b n c cs, v = .slice (some ⟨b, 0, none⟩) n c ∧ n ≤ c ∧ 1 ≤ c ∧ H[b]? = some (.cells ⟨es, true, false⟩ cs) ∧ cs.length = c * es ∧ cs.take (n * es) = l ∧ l.length = n * es ∧ F = [b] := by
  obtain ⟨h, hp⟩ := h
  rcases h with h | ⟨b, n, c, cs, rfl, h2, h3, h4, h5, h6⟩
  · exact .inl h
  · refine .inr ⟨b, n, c, cs, rfl, h2, ?_, h3, h4, h5, ?_, h6⟩
    · rcases Nat.eq_zero_or_pos c with h | h
      · subst h; exact absurd rfl (hp _ _)
      · exact h
    · have := Nat.mul_le_mul_right es h2
      rw [← h5, List.length_take]; omega

/-- One element put in. -/
theorem R_insert {f : FuncId} {es : Nat} (hf : mp f = some (.intr (insertS es))) {v : Value} {l : List Value} (h : OwnP es v l H F) (hl : l.all one = true) {n i bv cv : Nat} (hn : l.length = n * es) (hi : i ≤ n) (hes : 0 < es) (hb : n ≤ 1000000) {iv : Info} {xs : List Value} (hV : H[bv]? = some (.cells iv xs))
    (hbv : bv ∉ F) (hvw : iv.rw = true) (hve : iv.es = es) (hxl : xs.length = es) (hx : xs.all one = true) (hcv : 1 ≤ cv) :
    ∃ v' H' F', R mp f [v, .int .i64 (i : Int), .slice (some ⟨bv, 0, none⟩) 1 cv] H = some (v', H') ∧ OwnP es v' (insAt l (i * es) xs) H' F' ∧ Upd H F H' F' := by
  rcases h.cases with ⟨rfl, rfl, rfl⟩ | ⟨b, m, c, cs, rfl, h2, h3, h4, h5, h6, h7, rfl⟩
  · have hn0 : n = 0 := by
      rcases Nat.eq_zero_or_pos n with h | h
      · exact h
      · have := Nat.mul_le_mul h hes; simp at hn; omega
    have hi0 : i = 0 := by omega
    subst hi0
    refine ⟨.slice (some ⟨H.length, 0, none⟩) 1 1, H ++ [.cells ⟨es, true, false⟩ xs], [H.length], ?_, ⟨.inr ⟨H.length, 1, 1, xs, rfl, Nat.le_refl _, by simp, by omega, by simp [insAt, ← hxl], rfl⟩, by simp⟩, Upd.push fun id hid => .inr (by simp at hid; omega)⟩
    rw [R_intr hf]
    simp only [insertS, hV]
    rw [if_pos ⟨by simp, hvw, hve, hxl, hx, hcv⟩]
  · have hmn : m = n := Nat.eq_of_mul_eq_mul_right hes (h7.symm.trans hn)
    subst hmn
    have hlt := (List.getElem?_eq_some_iff.1 h4).1
    simp at hbv
    have hil : (insAt l (i * es) xs).length = (m + 1) * es := by
      rw [insAt_len (by rw [hn]; exact Nat.mul_le_mul_right _ hi), Nat.add_mul]; omega
    refine ⟨.slice (some ⟨H.length + 2, 0, none⟩) (m + 1) (m + 1), H.set b .dead ++ [.dead, .dead, .cells ⟨es, true, false⟩ (insAt l (i * es) xs)], [H.length + 2], ?_, ⟨.inr ⟨H.length + 2, m + 1, m + 1, _, rfl, Nat.le_refl _, ?_, hil, by rw [← hil, List.take_length], rfl⟩, by simp⟩, ⟨by simp, fun id h1 h2 => ?_, fun id hid => .inr (by simp at hid; omega)⟩⟩
    · rw [R_intr hf]
      simp only [insertS, h4, hV]
      rw [if_pos ⟨by trivial, h5, h2, h3, by rw [h6]; exact hl, by omega, by omega, hvw, hve, hxl, hx, hcv, hbv, hb⟩, h6, Int.toNat_natCast]
    · rw [List.getElem?_append_right (by simp)]; simp
    · simp at h2
      rw [List.getElem?_append_left (by simpa using h1), List.getElem?_set_ne (Ne.symm h2)]

/-- Elements taken out. -/
theorem R_delete {f : FuncId} {es bytes : Nat} {z : List Value} (hf : mp f = some (.code (cDelete es bytes z))) (hz : z.length = es) (hz1 : z.all one = true) (hes : 0 < es) {v : Value} {l : List Value} (h : OwnP es v l H F) (hl : l.all one = true) {n i j : Nat} (hn : l.length = n * es) (hb : n ≤ 1000000) (hbytes : bytes ≤ 4096)
    (hij : i ≤ j) (hjn : j ≤ n) : ∃ v' H', R mp f [v, .int .i64 (i : Int), .int .i64 (j : Int)] H = some (v', H') ∧ OwnP es v' (l.take (i * es) ++ l.drop (j * es)) H' F ∧ Fp (fun id => id ∈ F) H H' := by
  rcases h.cases with ⟨rfl, rfl, rfl⟩ | ⟨b, m, c, cs, rfl, h2, h3, h4, h5, h6, h7, rfl⟩
  · have hn0 : n = 0 := by
      rcases Nat.eq_zero_or_pos n with h | h
      · exact h
      · have := Nat.mul_le_mul h hes; simp at hn; omega
    have hj0 : j = 0 := by omega
    have hi0 : i = 0 := by omega
    subst hi0; subst hj0
    refine ⟨_, H, ?_, by simpa using h, Fp.refl _ _⟩
    rw [R_code hf]
    simp [cDelete]
  · have hmn : m = n := Nat.eq_of_mul_eq_mul_right hes (h7.symm.trans hn)
    subst hmn
    have hlt := (List.getElem?_eq_some_iff.1 h4).1
    have a1 : (i : Int) ≤ (j : Int) := by omega
    have a2 : (j : Int) ≤ (m : Int) := by omega
    have a4 : (m : Int) ≤ (c : Int) := by omega
    have a6 : (i : Int) ≤ (c : Int) := by omega
    by_cases hd : i = j
    · subst hd
      refine ⟨_, H, ?_, by rw [List.take_append_drop]; exact h, Fp.refl _ _⟩
      rw [R_code hf]
      simp [cDelete, sl_at h4, a1, a2, a4, a6, hij, hjn, h2]
    · have a7 : ¬ (i : Int) = (j : Int) := by omega
      have hie := Nat.mul_le_mul_right es hij
      have hje := Nat.mul_le_mul_right es hjn
      have hme := Nat.mul_le_mul_right es h2
      have s1 : (m - j) * es = m * es - j * es := Nat.sub_mul ..
      have s2 : (j - i) * es = j * es - i * es := Nat.sub_mul ..
      have s3 : (m - (j - i)) * es = m * es - (j - i) * es := Nat.sub_mul ..
      have hle : (j - i) * es ≤ m * es := Nat.mul_le_mul_right es (by omega)
      have hsrc : srcCells es H (.slice (some ⟨b, 0 + j * es, none⟩) (m - j) (c - j)) = some (m - j, l.drop (j * es)) := by
        simp only [srcCells, h4]
        rw [if_pos (by omega), Nat.zero_add, ← h6, List.drop_take, s1]
      obtain ⟨cs1, happ, hl1, ht1⟩ : ∃ cs1, meff (.app es bytes) [.slice (some ⟨b, 0, none⟩) i c, .slice (some ⟨b, 0 + j * es, none⟩) (m - j) (c - j)] H = some (.slice (some ⟨b, 0, none⟩) (m - (j - i)) c, H.set b (.cells ⟨es, true, false⟩ cs1)) ∧ cs1.length = cs.length ∧ cs1.take ((m - (j - i)) * es) = l.take (i * es) ++ l.drop (j * es) := by
        by_cases hlast : m - j = 0
        · have happ := app_zero (es := es) (bytes := bytes) (H := H) (a := some ⟨b, 0, none⟩) (len := i) (cap := c) (y := .slice (some ⟨b, 0 + j * es, none⟩) (m - j) (c - j)) (ys := l.drop (j * es)) (by simp) (by rintro x hx; cases hx; exact ⟨_, _, rfl, h4⟩) (by rw [hsrc, hlast])
          have hjm : j = m := by omega
          subst hjm
          refine ⟨cs, by rw [happ, set_self h4, show j - (j - i) = i by omega], rfl, ?_⟩
          rw [List.drop_of_length_le (by omega), List.append_nil, show j - (j - i) = i by omega, ← h6, List.take_take, Nat.min_eq_left hie]
        · have e1 : (i + (m - j)) * es = i * es + (m - j) * es := Nat.add_mul ..
          have happ := app_in (bytes := bytes) (o := 0) (len := i) (cap := c) h4 hsrc hlast rfl (by omega) rfl (by omega) (all_drop hl _)
          refine ⟨_, by rw [happ, show i + (m - j) = m - (j - i) by omega], ?_, ?_⟩
          · rw [fillAt_len (by simp; omega)]
          · have hf : (0 + i * es) + (l.drop (j * es)).length ≤ cs.length := by simp; omega
            apply List.ext_getElem?
            intro k
            by_cases hk : k < (m - (j - i)) * es
            · rw [List.getElem?_take_of_lt hk, fillAt_get hf]
              by_cases h1 : k < i * es
              · rw [if_pos (by omega), List.getElem?_append_left (by simp; omega), List.getElem?_take_of_lt h1, take_get h6 (by omega)]
              · rw [if_neg (by omega), if_pos (by simp; omega), List.getElem?_append_right (by simp; omega)]
                congr 1; simp; omega
            · rw [List.getElem?_eq_none (by simp; omega), List.getElem?_eq_none (by simp; omega)]
      have hB1 : (H.set b (.cells ⟨es, true, false⟩ cs1))[b]? = some (.cells ⟨es, true, false⟩ cs1) := List.getElem?_set_self hlt
      have e2 : m - (m - (j - i)) = j - i := by omega
      have hcl := clear_at (es := es) (z := z) hB1 rfl hz hz1 (0 + (m - (j - i)) * es) (m - (m - (j - i))) (c - (m - (j - i))) (by omega) (by rw [e2]; omega)
      have hrl : ((List.replicate (m - (m - (j - i))) z).flatten).length = (j - i) * es := by rw [List.length_flatten]; simp [hz, e2]
      have hff : 0 + (m - (j - i)) * es + ((List.replicate (m - (m - (j - i))) z).flatten).length ≤ cs1.length := by rw [hrl]; omega
      refine ⟨.slice (some ⟨b, 0, none⟩) (m - (j - i)) c, _, ?_, ⟨.inr ⟨b, m - (j - i), c, _, rfl, by omega, List.getElem?_set_self hlt, ?_, ?_, rfl⟩, by intro a n e; cases e; omega⟩, Fp.set b (.cells ⟨es, true, false⟩ (fillAt cs1 (0 + (m - (j - i)) * es) (List.replicate (m - (m - (j - i))) z).flatten)) (by simp)⟩
      · rw [R_code hf]
        simp at happ hcl hB1
        have a8 : ((m - (j - i) : Nat) : Int) ≤ (m : Int) := by omega
        have a9 : (0 : Int) ≤ ((m - (j - i) : Nat) : Int) := by omega
        simp [cDelete, sl_at h4, sl_at hB1, a1, a2, a4, a6, a7, a8, a9, mdraw_plain, happ, hcl, hij, hjn, h2, hd]
      · rw [fillAt_len hff, hl1, h5]
      · rw [← ht1]
        apply List.ext_getElem?
        intro k
        by_cases hk : k < (m - (j - i)) * es
        · rw [List.getElem?_take_of_lt hk, List.getElem?_take_of_lt hk, fillAt_get hff, if_pos (by omega)]
        · rw [List.getElem?_eq_none (by rw [List.length_take]; omega), List.getElem?_eq_none (by rw [List.length_take]; omega)]
end
end Go.Mod

/- slices.Insert of one element into a row of one's own, as one operation. -/
import Derived.Test.YtpdkmcnoidbjoaaLib4
set_option linter.unusedVariables false
set_option linter.unusedSimpArgs false
namespace Go.Mod

theorem Invokes.mono {P : Program} {f : FuncId} {args : Array Value} {w : World} {R S : Value → World → Prop} (h : Invokes P f args w R) (g : ∀ v w', R v w' → S v w') : Invokes P f args w S := by
  rcases h with ⟨hc, h⟩ | ⟨v, w', h1, h2⟩
  · exact .inl ⟨hc, h.mono fun e w' ⟨v, he, hv⟩ => ⟨v, he, g v w' hv⟩⟩
  · exact .inr ⟨v, w', h1, g v w' h2⟩

/-- One element more: a row that nobody else has comes back at a new place. -/
def insertS (es : Nat) : List Value → MH → Option (Value × MH)
  | [.slice none 0 0, .int .i64 i, .slice (some ⟨bv, 0, none⟩) 1 cv], H =>
    match H[bv]? with
    | some (.cells iv xs) => if i = 0 ∧ iv.rw = true ∧ iv.es = es ∧ xs.length = es ∧ xs.all one = true ∧ 1 ≤ cv then
        some (.slice (some ⟨H.length, 0, none⟩) 1 1, H ++ [.cells ⟨es, true, false⟩ xs]) else none
    | _ => none
  | [.slice (some ⟨b, 0, none⟩) n c, .int .i64 i, .slice (some ⟨bv, 0, none⟩) 1 cv], H =>
    match H[b]?, H[bv]? with
    | some (.cells ib cs), some (.cells iv xs) =>
      if ib = ⟨es, true, false⟩ ∧ cs.length = c * es ∧ n ≤ c ∧ 1 ≤ c ∧ (cs.take (n * es)).all one = true ∧ 0 ≤ i ∧ i.toNat ≤ n ∧ iv.rw = true ∧ iv.es = es ∧ xs.length = es ∧ xs.all one = true ∧ 1 ≤ cv ∧ bv ≠ b ∧ n ≤ 1000000 then
        some (.slice (some ⟨H.length + 2, 0, none⟩) (n + 1) (n + 1), H.set b .dead ++ [.dead, .dead, .cells ⟨es, true, false⟩ (insAt (cs.take (n * es)) (i.toNat * es) xs)])
      else none
    | _, _ => none
  | _, _ => none

theorem insertS_keeps {es : Nat} {vs : List Value} {H : MH} {r : Value} {H' : MH} (hm : insertS es vs H = some (r, H')) : Keeps H H' := by
  unfold insertS at hm
  split at hm <;> first | contradiction | skip
  · split at hm <;> first | contradiction | skip
    split at hm <;> first | contradiction | skip
    cases hm
    exact ⟨by simp, fun id h => get_app h⟩
  · split at hm <;> first | contradiction | skip
    split at hm <;> first | contradiction | skip
    cases hm
    refine ⟨by simp, fun id h => ?_⟩
    have hlt := (List.getElem?_eq_some_iff.1 h).1
    rw [List.getElem?_append_left (by simpa using hlt), List.getElem?_set]
    split
    · rename_i e
      rw [if_pos (by rw [e]; exact hlt)]
    · exact h

theorem insertS_ok {P : Program} {mp : FuncId → Option MDef} (hM : MapOk P mp) {f fo fr : FuncId} {es bytes : Nat} {z : List Value} (hf : mp f = some (.code (cInsert es bytes z fo fr))) (ho : mp fo = some (.intr overS))
    (hes : 0 < es) (hby : bytes ≤ 4096) (hzl : z.length = es) (hz : z.all one = true) : IntrOk P f (insertS es) := by
  refine ⟨fun vs H r H' hm φ w args hh hr => ?_, fun vs H r H' hm => insertS_keeps hm⟩
  unfold insertS at hm
  split at hm <;> first | contradiction | skip
  · rename_i i bv cv
    split at hm <;> first | contradiction | skip
    rename_i iv xs hV
    split at hm <;> first | contradiction | skip
    rename_i hc
    obtain ⟨rfl, h1, h2, h3, h4, h5⟩ := hc
    cases hm
    refine R_ok hM f _ H _ _ ?_ φ w args hh hr
    have hs : srcCells es H (.slice (some ⟨bv, 0, none⟩) 1 cv) = some (1, xs) := by
      simp only [srcCells, hV]
      rw [if_pos (by omega)]
      simp [h3]
      rw [← h3]; simp
    have happ := app_nil (es := es) (bytes := bytes) hs (by omega) (by omega) hby
    rw [R_code hf]
    simp [cInsert, happ]
  · rename_i b n c i bv cv
    split at hm <;> first | contradiction | skip
    rename_i ib cs iv xs hB hV
    split at hm <;> first | contradiction | skip
    rename_i hc
    obtain ⟨rfl, hcs, hnc, hc0, hl, hi0, hin, hvw, hve, hxl, hx, hcv, hne, hnm⟩ := hc
    cases hm
    obtain ⟨j, rfl⟩ : ∃ j : Nat, i = (j : Int) := ⟨i.toNat, by omega⟩
    simp only [Int.toNat_natCast] at hin ⊢
    obtain ⟨x, y, u, rfl, hx1, hy1, hu1⟩ := rels3' hr
    cases hx1 with
    | slicee => omega
    | slice hφ hn1 hc1 hex1 hroom1 ha1 =>
    rename_i c' b' pl
    obtain ⟨q1, q2, rc, elem, lo, hi, q3, q4, q5, q6, q7⟩ := hh.cells hφ hB
    have hlt := (List.getElem?_eq_some_iff.1 hB).1
    have hltv := (List.getElem?_eq_some_iff.1 hV).1
    replace q1 : es = pl.es := q1
    replace q2 : false = pl.ex := q2
    have hmulc : c * es ≤ c' * es := Nat.mul_le_mul_right _ hc1
    have hmuln : n * es ≤ c * es := Nat.mul_le_mul_right _ hnc
    rw [← q1] at hroom1
    -- the object under a new number, with all the room that it has
    generalize hcs' : cs ++ List.replicate (c' * es - cs.length) unk = cs'
    have hcl : cs'.length = c' * es := by rw [← hcs']; simp; omega
    have hO1 : ORel φ w ⟨pl.block, pl.base, c' * es, es, true⟩ (.cells ⟨es, true, true⟩ cs') := by
      refine ⟨rfl, rfl, rc, elem, lo, hi, q3, by show cs'.length ≤ c' * es; omega, by show pl.base + c' * es ≤ _; omega, fun k v hk => ?_, fun _ => q7 rfl⟩
      have hkl := (List.getElem?_eq_some_iff.1 hk).1
      rw [hcl] at hkl
      rw [← hcs'] at hk
      by_cases hk2 : k < cs.length
      · rw [List.getElem?_append_left hk2] at hk
        exact q6 k v hk
      · rw [List.getElem?_append_right (by omega)] at hk
        have : v = unk := by
          have := List.mem_of_getElem? hk
          simpa using (List.mem_replicate.1 this).2
        subst this
        have hb2 : pl.base + k < rc.size := by omega
        exact ⟨rc[pl.base + k], Array.getElem?_eq_getElem hb2, .inl rfl⟩
    have st1 := Step.move (w' := w) hh hφ hB (show (MObj.cells ⟨es, true, false⟩ cs).mut = true from rfl) (pl' := ⟨pl.block, pl.base, c' * es, es, true⟩) rfl rfl rfl rfl rfl (fun _ _ => rfl) hO1
    generalize hH1 : H.set b .dead ++ [MObj.cells ⟨es, true, true⟩ cs'] = H1 at st1
    have hl1 : H1.length = H.length + 1 := by rw [← hH1]; simp
    have hB1 : H1[H.length]? = some (.cells ⟨es, true, true⟩ cs') := by
      rw [← hH1, List.getElem?_append_right (by simp)]; simp
    have hold : ∀ id, id < H.length → id ≠ b → H1[id]? = H[id]? := fun id h1 h2 => by
      rw [← hH1, List.getElem?_append_left (by simpa using h1), List.getElem?_set_ne (Ne.symm h2)]
    have hbd : H1[b]? = some .dead := by
      rw [← hH1, List.getElem?_append_left (by simpa using hlt), List.getElem?_set_self hlt]
    have hV1 : H1[bv]? = some (.cells iv xs) := by rw [hold bv hltv hne]; exact hV
    have htk : cs'.take (n * es) = cs.take (n * es) := by
      rw [← hcs', List.take_append_of_le_length (by omega)]
    obtain ⟨H2, b2, c2, ex, cs2, hR, hn2, hB2, hcl2, htk2, hwh, hfr⟩ := R_insertX (mp := mp) hf ho (H := H1) (b := H.length) (n := n) (c := c') (bv := bv) (cv := cv) (i := j) hB1 hcl htk hl (by omega) hin hV1 hvw hve hxl hx hcv (by omega) hes hnm hby hzl hz
    have hinv := R_ok hM f _ H1 _ _ hR (φ.set H.length ⟨pl.block, pl.base, c' * es, es, true⟩) w [.slice (some ⟨pl.block, b', none⟩) n c', y, u] st1.rel
      (.cons (VRel.slice (pl := ⟨pl.block, pl.base, c' * es, es, true⟩) (Ren.set_self ..) (by omega) (Nat.le_refl _) (fun _ => rfl) (by simp) (fun h => ha1 h)) (.cons (hy1.mono st1.le) (.cons (hu1.mono st1.le) .nil)))
    refine hinv.mono fun v w' ⟨φ2, hv, st2⟩ => ?_
    cases hv with
    | slice hφ2 hn3 hc3 hex3 hroom3 ha3 =>
    rename_i c2' b'' p2 _
    obtain ⟨p1, p3, rc2, elem2, lo2, hi2, g3, g4, g5, g6, g7⟩ := st2.rel.cells hφ2 hB2
    replace p1 : es = p2.es := p1
    generalize hL : insAt (cs.take (n * es)) (j * es) xs = L at htk2 ⊢
    have hmul2 : (n + 1) * es ≤ c2 * es := Nat.mul_le_mul_right _ hn2
    have hLl : L.length = (n + 1) * es := by rw [← htk2]; simp; omega
    have hl2 : H2.length = H.length + 1 ∨ H2.length = H.length + 2 := by omega
    have hb2 : b2 = H.length ∨ b2 = H.length + 1 := by omega
    -- pad
    obtain ⟨H3, st3, hl3, hB3, hfr3⟩ : ∃ H3 : MH, Step H1.length (φ.set H.length ⟨pl.block, pl.base, c' * es, es, true⟩) (hp H1) w φ2 (hp H3) w' ∧ H3.length = H.length + 2 ∧ H3[b2]? = some (.cells ⟨es, true, ex⟩ cs2) ∧
        ∀ id, id < H.length → H3[id]? = H1[id]? := by
      rcases hl2 with hl2 | hl2
      · refine ⟨H2 ++ [.dead], st2.congr fun id pq hq => ?_, by simp; omega, get_app hB2, fun id h => ?_⟩
        · obtain ⟨o, h1, _⟩ := st2.rel.obj id pq hq
          unfold hp at h1 ⊢
          rw [h1]; exact get_app h1
        · rw [List.getElem?_append_left (by omega)]
          exact hfr id (by omega) (by omega)
      · exact ⟨H2, st2, hl2, hB2, fun id h => hfr id (by omega) (by omega)⟩
    have hO2 : ORel φ2 w' ⟨p2.block, p2.base, p2.room, es, false⟩ (.cells ⟨es, true, false⟩ L) := by
      refine ⟨rfl, rfl, rc2, elem2, lo2, hi2, g3, by show L.length ≤ p2.room; omega, g5, fun k v hk => ?_, fun _ => g7 rfl⟩
      have hkl := (List.getElem?_eq_some_iff.1 hk).1
      rw [← htk2, List.getElem?_take_of_lt (by omega)] at hk
      exact g6 k v hk
    have st4 := Step.move (w' := w') st3.rel hφ2 hB3 (show (MObj.cells ⟨es, true, ex⟩ cs2).mut = true from rfl) (pl' := ⟨p2.block, p2.base, p2.room, es, false⟩) rfl rfl rfl rfl rfl (fun _ _ => rfl) hO2
    rw [hl3] at st4
    have st5 := Step.kill (n := H.length + 2) st4.rel H.length
    have st6 := Step.kill (n := H.length + 2) st5.rel (H.length + 1)
    have heq : ((H3.set b2 .dead ++ [MObj.cells ⟨es, true, false⟩ L]).set H.length .dead).set (H.length + 1) .dead = H.set b .dead ++ [.dead, .dead, .cells ⟨es, true, false⟩ L] := by
      apply List.ext_getElem?
      intro k
      by_cases h1 : k < H.length
      · rw [List.getElem?_set_ne (by omega), List.getElem?_set_ne (by omega), List.getElem?_append_left (by simp; omega), List.getElem?_set_ne (by omega), List.getElem?_append_left (by simpa using h1), hfr3 k h1]
        by_cases h2 : k = b
        · subst h2
          rw [hbd, List.getElem?_set_self hlt]
        · rw [hold k h1 h2, List.getElem?_set_ne (Ne.symm h2)]
      · rw [List.getElem?_append_right (l₁ := H.set b .dead) (by simp; omega)]
        simp only [List.length_set]
        by_cases h2 : k = H.length
        · subst h2
          rw [List.getElem?_set_ne (by omega), List.getElem?_set_self (by simp; omega)]; simp
        · by_cases h3 : k = H.length + 1
          · subst h3
            rw [List.getElem?_set_self (by simp; omega)]; simp
          · rw [List.getElem?_set_ne (by omega), List.getElem?_set_ne (by omega), List.getElem?_append_right (by simp; omega)]
            simp only [List.length_set, hl3]
            obtain ⟨d, rfl⟩ : ∃ d, k = H.length + 2 + d := ⟨k - (H.length + 2), by omega⟩
            rw [show H.length + 2 + d - (H.length + 2) = d from by omega, show H.length + 2 + d - H.length = d + 2 from by omega]
            rfl
    rw [heq] at st6
    refine ⟨_, ?_, (st1.trans (st3.trans (st4.trans (st5.trans st6 (Nat.le_refl _)) (by omega)) (by omega)) (by omega) : Step H.length φ (hp H) w (φ2.set (H.length + 2) ⟨p2.block, p2.base, p2.room, es, false⟩) _ w')⟩
    rw [← p1] at hroom3
    exact VRel.slice (pl := ⟨p2.block, p2.base, p2.room, es, false⟩) (Ren.set_self ..) (Nat.le_refl _) (by omega) (fun h => by cases h) hroom3 ha3
end Go.Mod

/- Package text: a task read. -/
import Derived.Test.YthpeamllfledkaaDoorTxC
set_option linter.unusedVariables false
set_option linter.unusedSimpArgs false
namespace Go.Mod
open Go.Lib

theorem numsL_len : ∀ {w : List Bs} {ns : List Int}, numsL w = some ns → ns.length = w.length
  | [], ns, h => by cases h; rfl
  | x :: l, ns, h => by
    unfold numsL at h
    split at h <;> first | contradiction | skip
    rename_i n m h1 h2
    cases h
    simp [numsL_len h2]
theorem tailL_len : ∀ {w : List Bs} {ps : List PartL}, tailL w = some ps → ps.length = w.length
  | [], ps, h => by cases h; rfl
  | x :: l, ps, h => by
    unfold tailL at h
    split at h <;> first | contradiction | skip
    obtain ⟨m, hm, rfl⟩ := Option.map_eq_some_iff.1 h
    simp [tailL_len hm]
section
variable {mp : FuncId → Option MDef} {H : MH}
theorem row_mid {ws : List Value} {a : Option Addr} {n c : Nat} (h : Row 1 H (.slice a n c) ws) {k m : Nat} (hk : k ≤ m) (hm : m ≤ n) (h0 : 0 < n) : ∃ a' n' c', mread (.sl 1 true true false) [.slice a n c, .int .i64 (k : Int), .int .i64 (m : Int)] H = some (.slice a' n' c') ∧ Row 1 H (.slice a' n' c') ((ws.drop k).take (m - k)) := by
  rcases h with ⟨h1, h2⟩ | ⟨b, o, m', d, i, cs, h1, h2, h3, h4, h5, h6⟩
  · cases h1; omega
  · cases h1
    have hs := sl_at h3 h4 true true false o n c [.int .i64 (k : Int), .int .i64 (m : Int)]
    refine ⟨some ⟨b, o + k, none⟩, m - k, c - k, ?_, .inr ⟨b, o + k, m - k, c - k, i, cs, rfl, by omega, h3, h4, by omega, ?_⟩⟩
    · rw [hs]
      have e1 : (0 : Int) ≤ (k : Int) := by omega
      have e2 : (k : Int) ≤ (m : Int) := by omega
      have e3 : (m : Int) ≤ (c : Int) := by omega
      simp only [slBound, e1, e2, e3, and_self, if_true, Option.map_some, Int.toNat_natCast, Nat.mul_one]
    · rw [← h6, List.drop_take, List.take_take, List.drop_drop]
      congr 1; omega
theorem row_dropE {ws : List Value} {a : Option Addr} {n c : Nat} (h : Row 1 H (.slice a n c) ws) {k : Nat} (hk : k ≤ n) : ∃ a' n' c', (∀ H1, Ext H H1 → mread (.sl 1 true false false) [.slice a n c, .int .i64 (k : Int)] H1 = some (.slice a' n' c')) ∧ Row 1 H (.slice a' n' c') (ws.drop k) := by
  obtain ⟨a', n', c', h1, h2⟩ := row_drop h hk
  refine ⟨a', n', c', fun H1 e => ?_, h2⟩
  obtain ⟨a2, n2, c2, g1, g2⟩ := row_drop (row_ext' h e) hk
  rw [g1]
  rcases h with ⟨h3, _⟩ | ⟨b, o, m, d, i, cs, h3, h4, h5, h6, h7, h8⟩
  · cases h3
    have : k = 0 := by omega
    subst this
    have e1 : mread (.sl 1 true false false) [.slice none 0 0, .int .i64 ((0 : Nat) : Int)] H = some (.slice none 0 0) := rfl
    have e2 : mread (.sl 1 true false false) [.slice none 0 0, .int .i64 ((0 : Nat) : Int)] H1 = some (.slice none 0 0) := rfl
    rw [e1] at h1; rw [e2] at g1
    rw [← h1, ← g1]
  · cases h3
    have s1 := sl_at h5 h6 true false false o n c [.int .i64 (k : Int)]
    have s2 := sl_at (e.get h5) h6 true false false o n c [.int .i64 (k : Int)]
    rw [s1] at h1
    rw [s2] at g1
    exact g1.symm.trans h1
theorem stay_ext {es : Nat} {H1 : MH} {v : Value} {l : List Value} {G : List Nat} (h : Row es H v l) (e : Ext H H1) (hG : ∀ id ∈ G, H.length ≤ id) : Stay es v l H1 G := by
  refine ⟨row_ext' h e, fun b o n c hv hb => ?_⟩
  have := hG b hb
  rcases h with ⟨h3, _⟩ | ⟨b', o', m, d, i, cs, h3, h4, h5, _⟩
  · rw [h3] at hv; cases hv
  · rw [h3] at hv; cases hv
    have := (List.getElem?_eq_some_iff.1 h5).1
    omega
theorem R_tasked {t : TypeId} (P : TxP mp t) (hf : mp 45 = some (.code m45)) {ws : List Bs} (hws : ∀ w ∈ ws, w.length ≤ 100000) (hne : ws ≠ []) (hlen : ws.length ≤ 100001) {sa : Option Addr} {sn sc : Nat} (hr : Row 1 H (.slice sa sn sc) (sv ws)) :
    ∃ H', Ext H H' ∧ ((taskL ws = none ∧ R mp 45 [.slice sa sn sc] H = some (.tuple #[.agg #[.string ⟨#[]⟩, .int .i64 0, .int .i64 0, .int .i64 0, .int .i64 0, .slice none 0 0], .int .i64 (badL ws)], H')) ∨
      ∃ tk a c, taskL ws = some tk ∧ R mp 45 [.slice sa sn sc] H = some (.tuple #[.agg (taskC (tk.at a c)).toArray, .int .i64 0], H') ∧ RowG 3 H' a tk.parts partC ∧ tk.parts.length ≤ 100001) := by
  have hn := hr.svn
  have hpos : 0 < ws.length := List.length_pos_iff.2 hne
  have e0 : Ext H (H ++ [zTask]) := ⟨_, rfl⟩
  have hr0 := row_ext' hr e0
  obtain ⟨a1, n1, c1, q1, r1⟩ := row_drop hr0 (k := 1) (by omega)
  have r1' : Row 1 (H ++ [zTask]) (.slice a1 n1 c1) (sv (ws.drop 1)) := by simpa [sv, List.map_drop] using r1
  obtain ⟨H1, g1, x1⟩ := R_nested P (fun x hx => hws x (List.mem_of_mem_drop hx)) (by simp; omega) r1'
  have hz1 : H1[H.length]? = some zTask := x1.get (by simp)
  have hE1 := e0.trans x1
  have hzs := set_id hz1
  have hr1 := row_ext' hr hE1
  have q1' : mread (.sl 1 true false false) [.slice sa sn sc, .int .i64 1] (H ++ [zTask]) = some (.slice a1 n1 c1) := q1
  unfold zTask at q1' g1 hz1 hzs
  have hbad : badL ws = if (ws.drop 1).any nestL = true then 18 else 10 := rfl
  generalize hany : (ws.drop 1).any nestL = nb at g1 hbad
  unfold taskL
  by_cases h6 : ws.length < 6
  · rw [if_pos h6]
    have h6' : (sn : Int) < 6 := by omega
    refine ⟨H1, hE1, .inl ⟨rfl, ?_⟩⟩
    rw [R_code hf, hbad]
    cases nb with
    | false => simp [m45, q1', g1, h6', stx, ldnx, hz1, hzs]
    | true => simp [m45, q1', g1, h6', stx, ldnx, hz1, hzs]
  · rw [if_neg h6]
    have h6' : ¬ (sn : Int) < 6 := by omega
    obtain ⟨a2, n2, c2, q2, r2⟩ := row_mid hr1 (k := 2) (m := 6) (by omega) (by omega) (by omega)
    have q2' : mread (.sl 1 true true false) [.slice sa sn sc, .int .i64 2, .int .i64 6] H1 = some (.slice a2 n2 c2) := q2
    have r2' : Row 1 H1 (.slice a2 n2 c2) (sv ((ws.drop 2).take 4)) := by simpa [sv, List.map_drop, List.map_take] using r2
    obtain ⟨a3, n3, c3, H2, g3, x3, r3⟩ := R_nums P.g P.a P.b P.c (ws := (ws.drop 2).take 4) (fun x hx => hws x (List.mem_of_mem_drop (List.mem_of_mem_take hx))) (by simp; omega) r2'
    have hE2 := hE1.trans x3
    have hz2 := x3.get hz1
    have hzs2 := set_id hz2
    cases hq : numsL ((ws.drop 2).take 4) with
    | none =>
      rw [hq] at g3
      refine ⟨H2, hE2, .inl ⟨rfl, ?_⟩⟩
      rw [R_code hf, hbad]
      cases nb with
      | false => simp [m45, q1', g1, h6', q2', g3, stx, ldnx, hz2, hzs2]
      | true => simp [m45, q1', g1, h6', q2', g3, stx, ldnx, hz2, hzs2]
    | some ns =>
      have hl4 := numsL_len hq
      rw [hq] at g3 r3
      obtain ⟨x0, x1', x2, x3', rfl⟩ : ∃ p q r s, ns = [p, q, r, s] := by
        have : ns.length = 4 := by rw [hl4]; simp; omega
        match ns, this with
        | [p, q, r, s], _ => exact ⟨p, q, r, s, rfl⟩
      simp only [Option.getD_some, Option.isSome_some] at g3 r3
      have hn3 := row_len r3
      simp [i64s_len] at hn3
      subst hn3
      have e3 : ∀ o, Ext H2 (H2 ++ [o]) := fun o => ⟨[o], rfl⟩
      obtain ⟨b1, o1, rfl, l1, _⟩ := row_get (row_ext' r3 (e3 .dead)) (k := 0) (x := .int .i64 x0) rfl
      rw [Nat.add_zero] at l1
      obtain ⟨b1', o1', e1', l2, _⟩ := row_get (row_ext' r3 (e3 .dead)) (k := 1) (x := .int .i64 x1') rfl
      cases e1'
      obtain ⟨b1', o1', e1', l3, _⟩ := row_get (row_ext' r3 (e3 .dead)) (k := 2) (x := .int .i64 x2) rfl
      cases e1'
      obtain ⟨b1', o1', e1', l4, _⟩ := row_get (row_ext' r3 (e3 .dead)) (k := 3) (x := .int .i64 x3') rfl
      cases e1'
      have hr2 := row_ext' hr1 x3
      have hw1 : ws[1]? = some (ws.getD 1 []) := by rw [List.getD_eq_getElem?_getD, List.getElem?_eq_getElem (by omega)]; rfl
      obtain ⟨b4, o4, rfl, l5, _⟩ := row_get (row_ext' hr2 (e3 .dead)) (k := 1) (x := .string (B (ws.getD 1 []))) (by simp only [sv, List.getElem?_map, hw1]; rfl)
      generalize ws.getD 1 [] = nm at l5
      have hin : (1 : Int) < (sn : Int) := by omega
      -- the task's box
      obtain ⟨a6, n6, c6, q6, r6⟩ := row_dropE hr2 (k := 6) (by omega)
      have q6' : mread (.sl 1 true false false) [.slice (some ⟨b4, o4, none⟩) sn sc, .int .i64 6] (H2 ++ [.cells ⟨0, true, false⟩ [.string (B nm), .int .i64 x0, .int .i64 x1', .int .i64 x2, .int .i64 x3', .slice none 0 0]]) = some (.slice a6 n6 c6) := q6 _ (e3 _)
      have r6' : Row 1 H2 (.slice a6 n6 c6) (sv (ws.drop 6)) := by simpa [sv, List.map_drop] using r6
      have hTk : TkA H2.length (B nm) x0 x1' x2 x3' (.slice none 0 0) [] (H2 ++ [.cells ⟨0, true, false⟩ [.string (B nm), .int .i64 x0, .int .i64 x1', .int .i64 x2, .int .i64 x3', .slice none 0 0]]) [H2.length] :=
        ⟨[H2.length], [], ⟨rfl, by simp⟩, .inl ⟨rfl, rfl, rfl⟩, by simp, by simp⟩
      have hlt2 : H.length < H2.length := (List.getElem?_eq_some_iff.1 hz2).1
      have hb3 : (H2 ++ [MObj.cells ⟨0, true, false⟩ [.string (B nm), .int .i64 x0, .int .i64 x1', .int .i64 x2, .int .i64 x3', .slice none 0 0]])[H2.length]? = some (.cells ⟨0, true, false⟩ [.string (B nm), .int .i64 x0, .int .i64 x1', .int .i64 x2, .int .i64 x3', .slice none 0 0]) := by simp
      rcases tasked_loop P (ws := ws.drop 6) (bad := badL ws) (b2 := H.length) (fun x hx => hws x (List.mem_of_mem_drop hx)) (by simp; omega) (ws.drop 6).length 0 _ [H2.length] [] (.slice none 0 0) (by omega) (by simp) (stay_ext r6' (e3 _) (by simp)) hTk ((e3 _).get hz2) (by simp; omega) with ⟨ps, h1, H', G', v', h2, h3, h4⟩ | ⟨h1, H', G', h2, h4⟩
      · rw [List.drop_zero] at h1
        rw [h1]
        have hE4 : Ext H2 H' := by
          have u : Upd H2 [] H' G' := ⟨Nat.le_trans (by simp) h4.len, fun id hid _ => by
            have := h4.same id (by simp; omega) (by simp; omega)
            rw [this, List.getElem?_append_left hid], fun id hid => by
            rcases h4.new id hid with h | h
            · simp at h; exact .inr (by omega)
            · simp at h; exact .inr (by omega)⟩
          exact u.toExt.1
        obtain ⟨A, C, hA, hC, hAC, hG⟩ := h3
        have hbox : H'[H2.length]? = some (.cells ⟨0, true, false⟩ [.string (B nm), .int .i64 x0, .int .i64 x1', .int .i64 x2, .int .i64 x3', v']) := hA.2
        have hrow := Own.row hC
        simp only [List.nil_append] at hrow
        obtain ⟨a7, n7, c7, rfl, hl7⟩ := hrow.slice
        rw [parts_len] at hl7
        obtain ⟨hg, hgn⟩ := RowG.of hrow (by omega) fun x hx => ⟨rfl, rfl⟩
        have hz3 := hE4.get hz2
        have hset : ∀ o, (H'.set H.length o)[H.length]? = some o := fun o => List.getElem?_set_self (List.getElem?_eq_some_iff.1 hz3).1
        have hpl : ps.length ≤ 100001 := by have := tailL_len h1; simp at this; omega
        subst hgn
        refine ⟨H'.set H.length (.cells ⟨0, true, false⟩ [.string (B nm), .int .i64 x0, .int .i64 x1', .int .i64 x2, .int .i64 x3', .slice a7 ps.length c7]), ext_set (hE2.trans hE4) (Nat.le_refl _), .inr ⟨_, a7, c7, rfl, ?_, ?_, hpl⟩⟩
        · simp at h2
          rw [R_code hf]
          have hbad' := hbad
          cases nb with
          | false =>
            rw [if_neg (by decide)] at hbad'
            rw [hbad'] at h2
            simp [m45, q1', g1, h6', q2', g3, l1, l2, l3, l4, l5, hin, mdraw_full, stx, ldnx, hb3, q6', h2, hbox, hz3, hset, TaskL.at, taskC]
          | true =>
            rw [if_pos rfl] at hbad'
            rw [hbad'] at h2
            simp [m45, q1', g1, h6', q2', g3, l1, l2, l3, l4, l5, hin, mdraw_full, stx, ldnx, hb3, q6', h2, hbox, hz3, hset, TaskL.at, taskC]
        · have hrow2 : Row 3 (H'.set H.length (.cells ⟨0, true, false⟩ [.string (B nm), .int .i64 x0, .int .i64 x1', .int .i64 x2, .int .i64 x3', .slice a7 ps.length c7])) (.slice a7 ps.length c7) (ps.flatMap partC) := by
            refine Row.frame (Own.row hC) fun b o n c e => ?_
            rw [List.getElem?_set_ne]
            intro hbe
            rcases hC with ⟨h8, _⟩ | ⟨b', n', c', cs', h8, _, _, _, _, h9⟩
            · rw [e] at h8; cases h8
            · rw [e] at h8; cases h8
              have hbG : b ∈ G' := (hG b).2 (.inr (by rw [h9]; simp))
              rcases h4.new b hbG with h | h
              · simp at h; omega
              · simp at h; omega
          exact (RowG.of hrow2 (by omega) fun x hx => ⟨rfl, rfl⟩).1
      · rw [List.drop_zero] at h1
        rw [h1]
        have hE4 : Ext H2 H' := by
          have u : Upd H2 [] H' G' := ⟨Nat.le_trans (by simp) h4.len, fun id hid _ => by
            have := h4.same id (by simp; omega) (by simp; omega)
            rw [this, List.getElem?_append_left hid], fun id hid => by
            rcases h4.new id hid with h | h
            · simp at h; exact .inr (by omega)
            · simp at h; exact .inr (by omega)⟩
          exact u.toExt.1
        have hz3 := hE4.get hz2
        refine ⟨H', hE2.trans hE4, .inl ⟨rfl, ?_⟩⟩
        simp at h2
        rw [R_code hf]
        have hbad' := hbad
        cases nb with
        | false =>
          rw [if_neg (by decide)] at hbad'
          rw [hbad'] at h2 ⊢
          simp [m45, q1', g1, h6', q2', g3, l1, l2, l3, l4, l5, hin, mdraw_full, stx, ldnx, hb3, q6', h2, hz3]
        | true =>
          rw [if_pos rfl] at hbad'
          rw [hbad'] at h2 ⊢
          simp [m45, q1', g1, h6', q2', g3, l1, l2, l3, l4, l5, hin, mdraw_full, stx, ldnx, hb3, q6', h2, hz3]
end
end Go.Mod

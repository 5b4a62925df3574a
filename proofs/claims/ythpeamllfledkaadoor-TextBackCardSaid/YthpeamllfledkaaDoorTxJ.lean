/- Package text: Parse. -/
import Derived.Test.YthpeamllfledkaaDoorTxI
set_option linter.unusedVariables false
set_option linter.unusedSimpArgs false
namespace Go.Mod
open Go.Lib

/-- A set of nought, a line, how it is wrong. -/
def errW (n e : Int) : Value := .tuple #[.agg #[.int .i64 0, .slice none 0 0, .slice none 0 0, .slice none 0 0], .int .i64 n, .int .i64 e]
section
variable {mp : FuncId → Option MDef} {H : MH}
theorem R_line (hf : mp 44 = some (.code m44)) {a : Option Addr} {rs : List RwL} {n c : Nat} (hn : n = rs.length) (hr : RowG 2 H a rs rwC) (k all : Nat) : R mp 44 [.slice a n c, .int .i64 (k : Int), .int .i64 (all : Int)] H = some (.int .i64 (atL (rs.map RwL.plain) k all), H) := by
  rw [R_code hf]
  unfold atL
  by_cases h : k < rs.length
  · have hk := List.getElem?_eq_getElem h
    have i0 := rw_ia hr h c
    rw [← hn] at i0
    have l0 := rw_at hr hk
    have h1 : ¬ (n : Int) ≤ (k : Int) := by omega
    rw [List.getElem?_map, hk]
    generalize rs[k] = r at hk l0
    simp [m44, h1, i0, l0, RwL.plain]
  · have h1 : (n : Int) ≤ (k : Int) := by omega
    rw [List.getElem?_eq_none (by simp; omega)]
    simp [m44, h1]
/-- What package text's Parse leans on. -/
structure TxQ (mp : FuncId → Option MDef) (t : TypeId) : Prop where
  P : TxP mp t
  a : mp 16 = some (.code m16)
  b : mp 18 = some (.code m18)
  c : mp 34 = some (.intr (scalS cutG))
  d : mp 42 = some (.code m42)
  e : mp 43 = some (.code m43)
  f : mp 38 = some (.code m38)
  g : mp 44 = some (.code m44)
  h : mp 45 = some (.code m45)
  i : mp 28 = some (.code m28)
  k : ChkP mp 55 73 74 75 96 56 20 76 77 97 78 57 36
/-- What Parse hands back. -/
def Parsed (H : MH) (x : Option (Value × MH)) (l : Bs) : Prop :=
  match parseL l with
  | .inl e => ∃ H', x = some (errW e.1 e.2, H') ∧ Ext H H'
  | .inr s => ∃ s' H', x = some (.tuple #[.agg s'.cells.toArray, .int .i64 (s.2 : Int), .int .i64 0], H') ∧ Ext H H' ∧ SetAt H' s' ∧ s'.plain = s.1
theorem intC_flat (l : List Int) : l.flatMap intC = i64s l := by
  induction l with
  | nil => rfl
  | cons x l ih => rw [List.flatMap_cons, ih]; rfl
theorem row_dropG {α : Type} {w : Nat} {l : List α} {g : α → List Value} {a : Option Addr} {n c : Nat} (hw0 : 0 < w) (hw : ∀ x ∈ l, (g x).length = w ∧ (g x).all one = true) (h : Row w H (.slice a n c) (l.flatMap g)) {k : Nat} (hk : k ≤ n) : ∃ a' n' c', mread (.sl w true false false) [.slice a n c, .int .i64 (k : Int)] H = some (.slice a' n' c') ∧ Row w H (.slice a' n' c') ((l.drop k).flatMap g) := by
  have hn := h.gn (fun x hx => (hw x hx).1) hw0
  rcases h with ⟨h1, h2⟩ | ⟨b, o, m, d, i, cs, h1, h2, h3, h4, h5, h6⟩
  · cases h1
    have : k = 0 := by omega
    subst this
    exact ⟨none, 0, 0, rfl, .inl ⟨rfl, by rw [List.drop_zero, h2]⟩⟩
  · cases h1
    have hs := sl_at h3 h4 true false false o n c [.int .i64 (k : Int)]
    have e1 : (0 : Int) ≤ (k : Int) := by omega
    have e2 : (k : Int) ≤ (n : Int) := by omega
    have hm : (n - k) * w + k * w = n * w := by rw [← Nat.add_mul]; congr 1; omega
    refine ⟨some ⟨b, o + k * w, none⟩, n - k, c - k, ?_, .inr ⟨b, o + k * w, n - k, c - k, i, cs, rfl, by omega, h3, h4, by omega, ?_⟩⟩
    · rw [hs]
      simp only [slBound, e1, e2, and_self, if_true, Option.map_some, Int.toNat_natCast]
    · have hfl : ∀ (k : Nat) (l : List α), (∀ x ∈ l, (g x).length = w) → (l.drop k).flatMap g = (l.flatMap g).drop (k * w) := by
        intro k
        induction k with
        | zero => intro l _; simp
        | succ k ih =>
          intro l hl
          cases l with
          | nil => simp
          | cons x l =>
            rw [List.drop_succ_cons, ih l (fun y hy => hl y (by simp [hy])), List.flatMap_cons, List.drop_append, hl x (by simp)]
            have e : (k + 1) * w - w = k * w := by rw [Nat.add_mul]; omega
            rw [e, List.drop_of_length_le (l := g x) (by rw [hl x (by simp), Nat.add_mul]; omega), List.nil_append]
      rw [hfl k l fun x hx => (hw x hx).1, ← h6, List.drop_take, List.drop_drop]
      congr 1
      omega
theorem R_parse {t : TypeId} (Q : TxQ mp t) (l : Bs) : Parsed H (R mp 28 [.string (B l)] H) l := by
  have P := Q.P
  unfold Parsed parseL
  have e0 : Ext H (H ++ [zSet]) := ⟨_, rfl⟩
  by_cases hbig : 2000 < l.length
  · rw [if_pos hbig]
    have hbig' : (2000 : Int) < (l.length : Int) := by omega
    refine ⟨_, ?_, e0⟩
    rw [R_code Q.i]
    simp [m28, hbig, hbig', stx, ldnx, zSet, errW]
  rw [if_neg hbig]
  have hbig' : ¬ (2000 : Int) < (l.length : Int) := by omega
  obtain ⟨a1, n1, c1, H1, q1, r1, x1⟩ := R_lines (mp := mp) (H := H ++ [zSet]) Q.a P.d (l := l) (by omega)
  have hlt : (trimE (cutAt 10 l)).length ≤ 2001 := by have h1 := trimE_len (cutAt 10 l); have h2 := cutAt_len 10 l; omega
  have hlm : ∀ w ∈ trimE (cutAt 10 l), w.length ≤ 2000 := fun w hw => by have := cutAt_mem_len 10 l w (trimE_mem hw); omega
  have hn1 := r1.svn
  simp only []
  generalize trimE (cutAt 10 l) = lines at r1 hlt hlm hn1 ⊢
  obtain ⟨a2, n2, c2, rs, H2, q2, x2, r2, hW2, hrs⟩ := R_rows (mp := mp) (H := H1) Q.d Q.b P.d Q.c (ls := lines) (fun w hw => by have := hlm w hw; omega) (by omega) r1
  have hrl := rowsL_len lines 0
  rw [← hrs] at hrl ⊢
  rw [List.length_map] at hrl
  have hmem : ∀ r ∈ rs, r.w ≠ [] ∧ r.w.length ≤ 2001 ∧ ∀ w ∈ r.w, w.length ≤ 2000 := fun r hr => by
    have h1 := rowsL_mem lines 0 r.plain (hrs ▸ List.mem_map_of_mem hr)
    obtain ⟨h2, s, hs, h3⟩ := h1
    have h4 := hlm s hs
    have h5 := words_bound s
    have h6 : r.w = wordsOf s := h3
    exact ⟨h2, by rw [h6]; omega, fun w hw => by rw [h6] at hw; have := h5.2 w hw; omega⟩
  obtain ⟨hg2, hn2⟩ := RowG.of r2 (by omega) (rw_wid rs)
  obtain ⟨y1, y2, pv, H3, q3, x3, o1, o2, hok⟩ := R_head (mp := mp) (H := H2) P Q.e Q.f hn2 hg2 hW2 (fun r hr => (hmem r hr).1) (fun r hr => ⟨by have := (hmem r hr).2.1; omega, fun w hw => by have := (hmem r hr).2.2 w hw; omega⟩) (c := c2)
  have hbd := headL_bounds (rs.map RwL.plain) (fun r hr => by
    obtain ⟨x, hx, rfl⟩ := List.mem_map.1 hr
    have := (hmem x hx).2.1
    show x.w.length ≤ _
    omega)
  rw [List.length_map] at hbd
  generalize headL (rs.map RwL.plain) = h at q3 hok hbd ⊢
  have E3 : Ext H H3 := ((e0.trans x1).trans x2).trans x3
  have hz0 : (H ++ [zSet])[H.length]? = some zSet := by simp
  have hz3 := x3.get (x2.get (x1.get hz0))
  have E4 : ∀ o, Ext H (H3 ++ [o]) := fun o => E3.trans ⟨[o], rfl⟩
  have hz4 : ∀ o, (H3 ++ [o])[H.length]? = some zSet := fun o => (show Ext H3 (H3 ++ [o]) from ⟨[o], rfl⟩).get hz3
  have u1 : isUnk y1 = false := by cases y1 <;> first | rfl | (cases o1; done)
  have u2 : isUnk y2 = false := by cases y2 <;> first | rfl | (cases o2; done)
  have hzs4 := set_id (hz4 (.cells ⟨0, true, false⟩ (setC pv y1 y2)))
  have hzb := hz4 (.cells ⟨0, true, false⟩ (setC pv y1 y2))
  have q1' : R mp 16 [.string (B l)] (H ++ [.cells ⟨0, true, false⟩ [.int .i64 0, .slice none 0 0, .slice none 0 0, .slice none 0 0]]) = some (.slice a1 n1 c1, H1) := q1
  simp only [setC] at q3 hzs4 hzb
  unfold zSet at hzs4 hzb
  by_cases hk : h.ok = false
  · rw [if_pos hk]
    have hq4 := R_line (mp := mp) (H := H3 ++ [.cells ⟨0, true, false⟩ [.int .i64 pv, y1, y2, .slice none 0 0]]) Q.g hn2 ((hg2.ext x3).ext ⟨[_], rfl⟩) (c := c2) h.k lines.length
    rw [← hn1] at hq4 ⊢
    rw [hk] at q3
    refine ⟨_, ?_, E4 (.cells ⟨0, true, false⟩ [.int .i64 pv, y1, y2, .slice none 0 0])⟩
    rw [R_code Q.i]
    simp [m28, hbig, hbig', q1', q2, q3, stx, ldx, ldnx, u1, u2, o1, o2, hq4, hzb, hzs4, errW]
  · rw [if_neg hk]
    have hk' : h.ok = true := by simpa using hk
    obtain ⟨hp, hy1, hy2⟩ := hok hk'
    subst hp
    rw [hk'] at q3
    obtain ⟨hk2, hkl⟩ := hbd.2.2 hk'
    have e4 : Ext H3 (H3 ++ [.cells ⟨0, true, false⟩ [.int .i64 h.p, y1, y2, .slice none 0 0]]) := ⟨_, rfl⟩
    obtain ⟨a4, n4, c4, q4, r4⟩ := row_dropG (by omega) (rw_wid rs) (row_ext' (row_ext' r2 x3) e4) (k := h.k) (by omega)
    have hW4 : WordsAt (H3 ++ [.cells ⟨0, true, false⟩ [.int .i64 h.p, y1, y2, .slice none 0 0]]) (rs.drop h.k) := fun r hr => row_ext' (row_ext' (hW2 r (List.mem_of_mem_drop hr)) x3) e4
    have hS4 : SetA H3.length h.p y1 y2 (.slice none 0 0) [] (H3 ++ [.cells ⟨0, true, false⟩ [.int .i64 h.p, y1, y2, .slice none 0 0]]) [H3.length] :=
      ⟨[H3.length], [], ⟨rfl, by simp⟩, .inl ⟨rfl, rfl, rfl⟩, by simp, by simp⟩
    have hlt3 : H.length < H3.length := (List.getElem?_eq_some_iff.1 hz3).1
    have hz4' := hz4 (.cells ⟨0, true, false⟩ [.int .i64 h.p, y1, y2, .slice none 0 0])
    have ext_of : ∀ {H' : MH} {G' : List Nat}, Upd (H3 ++ [.cells ⟨0, true, false⟩ [.int .i64 h.p, y1, y2, .slice none 0 0]]) [H3.length] H' G' → Ext H3 H' := fun {H' G'} u => by
      have u' : Upd H3 [] H' G' := ⟨Nat.le_trans (by simp) u.len, fun id hid _ => by
        have := u.same id (by simp; omega) (by simp; omega)
        rw [this, List.getElem?_append_left hid], fun id hid => by
        rcases u.new id hid with h | h
        · simp at h; exact .inr (by omega)
        · simp at h; exact .inr (by omega)⟩
      exact u'.toExt.1
    have hmd : (rs.map RwL.plain).drop h.k = (rs.drop h.k).map RwL.plain := by rw [List.map_drop]
    rw [hmd]
    have hloop := parse_loop P Q.h (rs := rs.drop h.k) (fun r hr => (hmem r (List.mem_of_mem_drop hr)).1) (fun r hr => ⟨by have := (hmem r (List.mem_of_mem_drop hr)).2.1; omega, fun w hw => by have := (hmem r (List.mem_of_mem_drop hr)).2.2 w hw; omega⟩) (by simp; omega) (sa := a4) (sn := n4) (sc := c4) (b2 := H.length) (b7 := H3.length) (p := h.p) (x1 := y1) (x2 := y2) (v5 := .slice a1 n1 c1) (v6 := .slice a2 n2 c2) (k8 := (h.k : Int)) u1 (rs.drop h.k).length 0 _ [H3.length] [] (.slice none 0 0) (by omega) (by simp) r4 hW4 hS4 (fun t ht => by cases ht) hz4' (by simp; omega)
    rw [List.drop_zero] at hloop
    rcases hloop with ⟨ts, g1, H', G', v', ts', g2, g3, g4, g5, g6⟩ | ⟨e, g1, H', G', g2, g6⟩
    · rw [g1]
      simp only []
      have e5 := ext_of g6
      have hz5 := g6.get hz4' (by simp; omega)
      simp only [List.nil_append] at g3 g5
      have g3' := g3
      obtain ⟨A, C, hA, hC, hAC, hG⟩ := g3'
      have hbox : H'[H3.length]? = some (.cells ⟨0, true, false⟩ [.int .i64 h.p, y1, y2, v']) := hA.2
      obtain ⟨ca, cn, cc, rfl, hcl⟩ := hy1.slice
      obtain ⟨ha, hn', hc', rfl, hhl⟩ := hy2.slice
      rw [i64s_len] at hcl hhl
      have hrow6 := Own.row hC
      obtain ⟨ta, tn, tc, rfl, htl⟩ := hrow6.slice
      rw [tasks_len] at htl
      have htc : tn ≤ tc := by
        rcases hC with ⟨e, _⟩ | ⟨b, n', c', cs', e, h1, _⟩
        · cases e; omega
        · cases e; exact h1
      have htn : tn = ts'.length := by omega
      have hcn : cn = h.cores.length := by omega
      have hhn : hn' = h.homes.length := by omega
      subst htn hcn hhn
      have hts : ts'.length ≤ 2001 := by
        have h1 := tasksL_len g1
        rw [← g4] at h1
        simp at h1; omega
      have hgc := RowG.of (w := 1) (g := intC) (l := h.cores) (by rw [intC_flat]; exact hy1) (by omega) (fun x hx => ⟨rfl, rfl⟩)
      have hgh := RowG.of (w := 1) (g := intC) (l := h.homes) (by rw [intC_flat]; exact hy2) (by omega) (fun x hx => ⟨rfl, rfl⟩)
      have hgt := RowG.of hrow6 (by omega) (fun x hx => ⟨rfl, rfl⟩)
      have hAt : SetAt H' ⟨h.p, h.cores, ca, cc, h.homes, ha, hc', ts', ta, tc⟩ := by
        refine ⟨(hgc.1).ext e5, (hgh.1).ext e5, hgt.1, fun t ht => (g5 t ht).1, by show h.cores.length ≤ _; omega, by show h.homes.length ≤ _; omega, by show ts'.length ≤ _; omega, htc, fun t ht => ?_⟩
        have h1 := (g5 t ht).2.1
        have h2 := (g5 t ht).2.2
        exact ⟨by omega, by omega⟩
      have hpl : (⟨h.p, h.cores, ca, cc, h.homes, ha, hc', ts', ta, tc⟩ : SetL).plain = plainSet h.p h.cores h.homes ts := by
        show plainSet h.p h.cores h.homes (ts'.map TaskL.plain) = _
        rw [g4]
      have hce := checkE_plain ⟨h.p, h.cores, ca, cc, h.homes, ha, hc', ts', ta, tc⟩
      rw [hpl] at hce
      have hcc := checkE_cases ⟨h.p, h.cores, ca, cc, h.homes, ha, hc', ts', ta, tc⟩
      obtain ⟨H5, hck, e6⟩ := G_checkP Q.k hAt (Ext.refl H')
      rw [← hce] at hcc hck
      have hck' : R mp 36 [.agg #[.int .i64 h.p, .slice ca h.cores.length cc, .slice ha h.homes.length hc', .slice ta ts'.length tc]] H' = some (.tuple #[.int .i64 (checkE (plainSet h.p h.cores h.homes ts)).1, .int .i64 (checkE (plainSet h.p h.cores h.homes ts)).2], H5) := hck
      clear hck
      have hck := hck'
      generalize checkE (plainSet h.p h.cores h.homes ts) = ck at hck hcc ⊢
      obtain ⟨c1', c2'⟩ := ck
      simp only [] at hck hcc ⊢
      have hz6 := e6.get hz5
      have hb6 := e6.get hbox
      have hset6 : ∀ o, (H5.set H.length o)[H.length]? = some o := fun o => List.getElem?_set_self (List.getElem?_eq_some_iff.1 hz6).1
      have hzs6 := set_id hz6
      have E6 : Ext H H5 := (E3.trans e5).trans e6
      unfold zSet at hz6 hzs6
      have hg5 : RowG 2 H5 a2 rs rwC := ((hg2.ext x3).ext e5).ext e6
      simp at g2
      by_cases hc0 : c2' = 0
      · rw [if_pos hc0]
        subst hc0
        have kS : KeepP P13 H5 (H5.set H.length (.cells ⟨0, true, false⟩ [.int .i64 h.p, .slice ca h.cores.length cc, .slice ha h.homes.length hc', .slice ta ts'.length tc])) := keep_set hz6 (by unfold P13; simp)
        have kS6 : KeepP (fun e => e = 6) H5 (H5.set H.length (.cells ⟨0, true, false⟩ [.int .i64 h.p, .slice ca h.cores.length cc, .slice ha h.homes.length hc', .slice ta ts'.length tc])) := keep_set hz6 (by simp)
        have hA5 := hAt.ext e6
        refine ⟨⟨h.p, h.cores, ca, cc, h.homes, ha, hc', ts', ta, tc⟩, H5.set H.length (.cells ⟨0, true, false⟩ [.int .i64 h.p, .slice ca h.cores.length cc, .slice ha h.homes.length hc', .slice ta ts'.length tc]), ?_, ext_set E6 (Nat.le_refl _),
          ⟨hA5.cores.keepP kS (by unfold P13; omega), hA5.homes.keepP kS (by unfold P13; omega), hA5.tasks.keepP kS6 rfl, fun t ht => (hA5.parts t ht).keepP kS (by unfold P13; omega), hA5.few⟩, hpl⟩
        rw [← hn1]
        rw [R_code Q.i]
        simp [m28, hbig, hbig', q1', q2, q3, stx, ldx, ldnx, u1, u2, o1, o2, q4, g2, hbox, hck, hz6, hb6, hset6, SetL.cells]
      · rw [if_neg hc0]
        have hset0 : ∀ o, Ext H (H5.set H.length o) := fun o => ext_set E6 (Nat.le_refl _)
        by_cases hc1 : 0 ≤ c1'
        · rw [if_pos hc1]
          obtain ⟨j, hj1, hj2⟩ : ∃ j : Nat, c1' = (j : Int) ∧ j < ts'.length := by
            rcases hcc with h | h
            · omega
            · obtain ⟨j, h1, h2⟩ := h; exact ⟨j, h1, h2⟩
          subst hj1
          have hjl : h.k + j < rs.length := by
            have h1 := tasksL_len g1
            rw [← g4] at h1
            simp at h1; omega
          have i5 := rw_ia hg5 hjl c2
          rw [← hn2] at i5
          have l5 := rw_at hg5 (List.getElem?_eq_getElem hjl)
          have hat : atL (rs.map RwL.plain) (h.k + j) lines.length = ((rs[h.k + j]).at_ : Int) := by
            unfold atL
            rw [List.getElem?_map, List.getElem?_eq_getElem hjl]; rfl
          have w5 : IntKind.i64.wrap ((h.k : Int) + (j : Int)) = ((h.k + j : Nat) : Int) := by rw [wrap_i64 (by omega) (by omega)]; omega
          simp only [Int.toNat_natCast]
          rw [hat]
          generalize rs[h.k + j] = r at l5
          generalize h.k + j = m at i5 l5 w5
          refine ⟨H5, ?_, E6⟩
          rw [R_code Q.i]
          simp [m28, hbig, hbig', q1', q2, q3, stx, ldx, ldnx, u1, u2, o1, o2, q4, g2, hbox, hck, hc0, hz6, hzs6, i5, l5, w5, mdraw_full, errW]
        · rw [if_neg hc1]
          by_cases hc2 : c2' = 14 ∨ c2' = 11
          · rw [if_pos hc2]
            rw [← hn1]
            refine ⟨H5, ?_, E6⟩
            rw [R_code Q.i]
            rcases hc2 with rfl | rfl
            · simp [m28, hbig, hbig', q1', q2, q3, stx, ldx, ldnx, u1, u2, o1, o2, q4, g2, hbox, hck, hc1, hz6, hzs6, errW]
            · simp [m28, hbig, hbig', q1', q2, q3, stx, ldx, ldnx, u1, u2, o1, o2, q4, g2, hbox, hck, hc1, hz6, hzs6, errW]
          · rw [if_neg hc2]
            have h1l : 1 < rs.length := by omega
            have i5 := rw_ia hg5 h1l c2
            rw [← hn2] at i5
            have l5 := rw_at hg5 (List.getElem?_eq_getElem h1l)
            have hat : atL (rs.map RwL.plain) 1 lines.length = ((rs[1]).at_ : Int) := by
              unfold atL
              rw [List.getElem?_map, List.getElem?_eq_getElem h1l]; rfl
            rw [hat]
            generalize rs[1] = r at l5
            simp at i5 l5
            have hc3 : ¬ c2' = 14 := fun h => hc2 (.inl h)
            have hc4 : ¬ c2' = 11 := fun h => hc2 (.inr h)
            refine ⟨H5, ?_, E6⟩
            rw [R_code Q.i]
            simp [m28, hbig, hbig', q1', q2, q3, stx, ldx, ldnx, u1, u2, o1, o2, q4, g2, hbox, hck, hc0, hc1, hc3, hc4, hz6, hzs6, i5, l5, mdraw_full, errW]
    · rw [g1]
      have e5 := ext_of g6
      have hz5 := g6.get hz4' (by simp; omega)
      unfold zSet at hz5
      simp at g2
      refine ⟨H', ?_, E3.trans e5⟩
      rw [R_code Q.i]
      simp [m28, hbig, hbig', q1', q2, q3, stx, ldx, ldnx, u1, u2, o1, o2, q4, g2, hz5, errW]
end
end Go.Mod

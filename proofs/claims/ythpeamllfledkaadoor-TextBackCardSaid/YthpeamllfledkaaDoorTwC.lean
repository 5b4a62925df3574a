/- TextBack: the law. -/
import Derived.Test.YthpeamllfledkaaDoorTwB
import Derived.Test.YthpeamllfledkaaDoorGrG
set_option linter.unusedVariables false
set_option linter.unusedSimpArgs false
namespace Go.Mod
open Go.Lib

theorem chkRX : ChkR mpX 21 72 54 53 35 26 := ⟨rfl, rfl, rfl, rfl, rfl, rfl⟩
theorem count_no {c : UInt8} {l : Bs} (h : c ∉ l) : l.count c = 0 := List.count_eq_zero.2 h
theorem count_lines : ∀ {ls : List Bs}, (∀ l ∈ ls, (10 : UInt8) ∉ l) → (linesB ls).count 10 = ls.length
  | [], _ => rfl
  | l :: ls, h => by
    have e : linesB (l :: ls) = l ++ 10 :: linesB ls := by simp [linesB]
    rw [e, List.count_append, count_no (h l (by simp)), List.count_cons_self, count_lines fun x hx => h x (by simp [hx]), List.length_cons]
    omega
theorem count_print {s : SetL} (hok : (checkE s).2 = 0) : (printL s).count 10 = (rowsP s).length := by
  have hgood := rows_good hok
  rw [print_lines, count_lines (fun l hl => by
    obtain ⟨r, hr, rfl⟩ := List.mem_map.1 hl
    exact (words_join (hgood r hr).1 (hgood r hr).2).2), List.length_map]
theorem spr_len {a b d : Nat → Bool} : ∀ (l : Bs) (i n : Nat), (spr a b d i n l).length ≤ 14 * l.length
  | [], _, _ => by simp [spr]
  | c :: l, i, n => by
    have ih := spr_len (a := a) (b := b) (d := d) l (i + 1) (if c = 10 then n + 1 else n)
    have h1 : (if c = 10 ∧ a (n + 1) = true then moreB else []).length ≤ 8 := by split <;> simp [moreB]
    have h2 : (if c = 32 ∧ b i = true then ([32] : Bs) else []).length ≤ 1 := by split <;> simp
    have h3 : (if c = 10 ∧ d (n + 1) = true then blankB else []).length ≤ 4 := by split <;> simp [blankB]
    rw [spr_cons]
    simp only [List.length_append, List.length_cons, List.length_nil]
    omega
open Classical in
theorem textBack {H : MH} {ss : List Value} {sd : List D} {g : Int} (rs : RepL H shSet ss sd) : ∃ H', R mpX 8 [.agg ss.toArray, .int .u16 g] H = some (.bool true, H') := by
  obtain ⟨s0, rfl, hs0⟩ := rep_set rs
  have hkn : ∀ H : MH, R mpX 24 [] H = some (.bool true, H) := fun H => R_intr (s := constS (.bool true)) rfl
  refine isTrue_ex ?_
  rw [R_code (fn := m8) rfl]
  have eb : Ext H (H ++ [.cells ⟨0, true, false⟩ s0.cells]) := ⟨_, rfl⟩
  have hb0 : (H ++ [MObj.cells ⟨0, true, false⟩ s0.cells])[H.length]? = some (.cells ⟨0, true, false⟩ s0.cells) := by simp
  obtain ⟨H1, qF, x1⟩ := G_few (mp := mpX) (f := 25) rfl hs0 eb
  have hb1 := x1.get hb0
  by_cases k1 : fewS s0
  case neg =>
    rw [decide_eq_false k1] at qF
    simp only [SetL.cells] at qF hb0 hb1
    simp [m8, SetL.cells, ldnx, hb0, hb1, hkn, qF]
  rw [decide_eq_true k1] at qF
  have hs := hs0.at k1
  obtain ⟨H2, qO, x2⟩ := G_okR (mp := mpX) chkRX (hs.ext (eb.trans x1)) (Ext.refl H1)
  have hb2 := x2.get hb1
  by_cases k2 : okSet s0
  case neg =>
    rw [decide_eq_false k2] at qO
    simp only [SetL.cells] at qF qO hb0 hb1 hb2
    simp [m8, SetL.cells, ldnx, hb0, hb1, hb2, hkn, qF, qO]
  rw [decide_eq_true k2] at qO
  have hok : (checkE s0).2 = 0 := k2
  have E2 := (eb.trans x1).trans x2
  obtain ⟨H3, qP, x3⟩ := R_print (mp := mpX) prP (hs.ext E2)
  rw [if_pos hok] at qP
  have hb3 := x3.get hb2
  have E3 := E2.trans x3
  have hlen := print_len hok
  have hcnt := count_print hok
  have hpp := parse_print hok
  have hsp := parse_spread hok (gbit g) (gbit g) (fun k => gbit g (k + 5))
  have hL := back_loop (mp := mpX) (H := H3) hlen (g := g) (v2 := .pointer (some ⟨H.length, 0, none⟩)) (printL s0) 0 0 [] (by simp) (by omega) (by simp) (by omega)
  rw [List.nil_append, hcnt, Nat.zero_add, show ((0 : Nat) : Int) = 0 from rfl] at hL
  have hul := spr_len (a := gbit g) (b := gbit g) (d := fun k => gbit g (k + 5)) (printL s0) 0 0
  generalize spr (gbit g) (gbit g) (fun k => gbit g (k + 5)) 0 0 (printL s0) = u at hL hsp hul
  have het : printL s0 = printL s0.plain := (printL_plain s0).symm
  generalize hT : printL s0 = t at qP hL hpp hul hlen het
  generalize (rowsP s0).length = n at hL hpp
  have hP := R_parse (mp := mpX) (H := H3) txQ t
  unfold Parsed at hP
  rw [hpp] at hP
  obtain ⟨s1, H4, q4, x4, hA4, hpl4⟩ := hP
  have hA4 := hA4
  have e5 : Ext H4 (H4 ++ [.cells ⟨0, true, false⟩ s1.cells]) := ⟨_, rfl⟩
  have hP2 := R_parse (mp := mpX) (H := H4 ++ [.cells ⟨0, true, false⟩ s1.cells]) txQ u
  unfold Parsed at hP2
  have hb4 := x4.get hb3
  have hc5 : (H4 ++ [MObj.cells ⟨0, true, false⟩ s1.cells])[H4.length]? = some (.cells ⟨0, true, false⟩ s1.cells) := by simp
  have hs4 := hs.ext (E3.trans x4)
  rcases hsp with ⟨hu2, hpu⟩ | ⟨m, hpu⟩
  · rw [hpu] at hP2
    obtain ⟨H5, q5, x5⟩ := hP2
    have e6 : Ext H5 (H5 ++ [.cells ⟨0, true, false⟩ [.int .i64 0, .slice none 0 0, .slice none 0 0, .slice none 0 0]]) := ⟨_, rfl⟩
    obtain ⟨H6, q6, x6⟩ := R_sameS (mp := mpX) rfl rfl rfl (((hA4.ext e5).ext x5).ext e6) (((hs4.ext e5).ext x5).ext e6)
    simp only [hpl4, decide_true] at q6
    have hc6 := e6.get (x5.get hc5)
    have hb6 := e6.get (x5.get (e5.get hb4))
    have hu2' : (2000 : Int) < (u.length : Int) := by omega
    simp only [SetL.cells] at qF qO qP q4 q5 q6 hb0 hb1 hb2 hb3 hc6 hb6
    simp [B_nil, m8, SetL.cells, ldnx, stx, mdraw_full, hb0, hb1, hb2, hb3, hkn, qF, qO, qP, hL, q4, q5, errW, hc6, hb6, q6, hu2']
  · rw [hpu] at hP2
    obtain ⟨s2, H5, q5, x5, hA5, hpl5⟩ := hP2
    have e6 : Ext H5 (H5 ++ [.cells ⟨0, true, false⟩ s2.cells]) := ⟨_, rfl⟩
    have hs6 := ((hs4.ext e5).ext x5).ext e6
    obtain ⟨H6, q6, x6⟩ := R_sameS (mp := mpX) rfl rfl rfl (((hA4.ext e5).ext x5).ext e6) hs6
    simp only [hpl4, decide_true] at q6
    have hc6 := e6.get (x5.get hc5)
    have hb6 := e6.get (x5.get (e5.get hb4))
    have hd6 : (H5 ++ [MObj.cells ⟨0, true, false⟩ s2.cells])[H5.length]? = some (.cells ⟨0, true, false⟩ s2.cells) := by simp
    have hb7 := x6.get hb6
    have hd7 := x6.get hd6
    obtain ⟨H7, q7, x7⟩ := R_sameS (mp := mpX) rfl rfl rfl ((hA5.ext e6).ext x6) (hs6.ext x6)
    simp only [hpl5, decide_true] at q7
    have hd8 := x7.get hd7
    obtain ⟨H8, q8, x8⟩ := R_print (mp := mpX) prP (((hA5.ext e6).ext x6).ext x7)
    have hok2 : (checkE s2).2 = 0 := by rw [← checkE_plain, hpl5, checkE_plain]; exact hok
    have hpt : printL s2 = t := by rw [← printL_plain, hpl5, ← het]
    rw [if_pos hok2, hpt] at q8
    simp only [SetL.cells] at qF qO qP q4 q5 q6 q7 q8 hb0 hb1 hb2 hb3 hc6 hb6 hb7 hd6 hd7 hd8
    simp [B_nil, m8, SetL.cells, ldnx, stx, mdraw_full, hb0, hb1, hb2, hb3, hkn, qF, qO, qP, hL, q4, q5, hc6, hb6, q6, hb7, hd7, q7, hd8, q8]
end Go.Mod

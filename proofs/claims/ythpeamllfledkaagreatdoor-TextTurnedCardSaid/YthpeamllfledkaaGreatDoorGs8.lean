/- TextTurned: the law. -/
import Derived.Test.YthpeamllfledkaaGreatDoorGs7
import Derived.Test.YthpeamllfledkaaGreatDoorZYdM
import Derived.Test.YthpeamllfledkaaGreatDoorGrG
set_option linter.unusedVariables false
set_option linter.unusedSimpArgs false
namespace Go.Mod
open Go.Lib Go.Proofs

def mpZ (f : FuncId) : Option MDef := if f = 4 then some (.code m4) else mpX f
theorem mpZ_ok [Glob] (hV : ∀ w, GlobAt w → Vars w) : MapOk Tryz.prog mpZ := by
  refine ⟨(mpX_ok hV).mixed, fun f fn h => ?_, fun f s h => ?_⟩
  · unfold mpZ at h
    split at h
    · rename_i e
      subst e; cases h; exact c4
    · exact (mpX_ok hV).code f fn h
  · unfold mpZ at h
    split at h
    · cases h
    · exact (mpX_ok hV).intr f s h
theorem txPZ : TxP mpZ 121 := ⟨rfl, rfl, rfl, rfl, rfl, rfl, rfl, rfl, rfl⟩
theorem txQZ : TxQ mpZ 121 := ⟨txPZ, rfl, rfl, rfl, rfl, rfl, rfl, rfl, rfl, rfl, ⟨rfl, rfl, rfl, rfl, rfl, rfl, rfl, rfl, rfl, rfl, rfl, rfl, rfl⟩⟩
theorem dxPZ : DxP mpZ := ⟨rfl, rfl, rfl, rfl, rfl, rfl, rfl, rfl⟩
theorem chkRZ : ChkR mpZ 68 69 52 51 36 12 := ⟨rfl, rfl, rfl, rfl, rfl, rfl⟩
def zs : SetL := ⟨0, [], none, 0, [], none, 0, [], none, 0⟩
theorem zs_at (H : MH) : SetAt H zs := ⟨(RowG.of (n := 0) (c := 0) (.inl ⟨rfl, rfl⟩) (by omega) (fun x hx => by cases hx)).1, (RowG.of (n := 0) (c := 0) (.inl ⟨rfl, rfl⟩) (by omega) (fun x hx => by cases hx)).1, (RowG.of (n := 0) (c := 0) (.inl ⟨rfl, rfl⟩) (by omega) (fun x hx => by cases hx)).1, fun t ht => (by cases ht), ⟨Nat.zero_le _, Nat.zero_le _, Nat.zero_le _, Nat.le_refl _, fun t ht => (by cases ht)⟩⟩
section
variable {H : MH}
/-- Both read it alike. -/
theorem R_readsBoth {l : Bs} (h : parseD l = parseL l) : ∃ H', R mpZ 14 [.string (B l)] H = some (.bool true, H') ∧ Ext H H' := by
  have hP := R_parse (mp := mpZ) (H := H) txQZ l
  unfold Parsed at hP
  cases hp : parseL l with
  | inl e =>
    rw [hp] at hP
    obtain ⟨H1, q1, x1⟩ := hP
    have e1 : Ext H1 (H1 ++ [.cells ⟨0, true, false⟩ zs.cells]) := ⟨_, rfl⟩
    have hD := R_parseR (mp := mpZ) (H := H1 ++ [.cells ⟨0, true, false⟩ zs.cells]) dxPZ rfl rfl rfl rfl rfl chkRZ l
    unfold ParsedD at hD
    rw [h, hp] at hD
    obtain ⟨H2, q2, x2⟩ := hD
    have hb1 := x2.get (show (H1 ++ [MObj.cells ⟨0, true, false⟩ zs.cells])[H1.length]? = some (.cells ⟨0, true, false⟩ zs.cells) by simp)
    have e3 : Ext H2 (H2 ++ [.cells ⟨0, true, false⟩ zs.cells]) := ⟨_, rfl⟩
    have hb3 := e3.get hb1
    obtain ⟨H3, q3, x3⟩ := R_sameS (mp := mpZ) (H := H2 ++ [.cells ⟨0, true, false⟩ zs.cells]) rfl rfl rfl (zs_at _) (zs_at _)
    simp only [eq_self_iff_true, decide_true] at q3
    simp only [SetL.cells, zs, List.length_nil] at hb3 q2 q3
    unfold errW at q1 q2
    refine ⟨H3, ?_, x1.trans (e1.trans (x2.trans (e3.trans x3)))⟩
    rw [R_code (fn := m14) rfl]
    simp [m14, q1, q2, stx, ldnx, hb3, q3]
  | inr sn =>
    rw [hp] at hP
    obtain ⟨s1, H1, q1, x1, hA1, hpl1⟩ := hP
    have e1 : Ext H1 (H1 ++ [.cells ⟨0, true, false⟩ s1.cells]) := ⟨_, rfl⟩
    have hD := R_parseR (mp := mpZ) (H := H1 ++ [.cells ⟨0, true, false⟩ s1.cells]) dxPZ rfl rfl rfl rfl rfl chkRZ l
    unfold ParsedD at hD
    rw [h, hp] at hD
    obtain ⟨s2, H2, q2, x2, hA2, hpl2⟩ := hD
    have hb1 := x2.get (show (H1 ++ [MObj.cells ⟨0, true, false⟩ s1.cells])[H1.length]? = some (.cells ⟨0, true, false⟩ s1.cells) by simp)
    have e3 : Ext H2 (H2 ++ [.cells ⟨0, true, false⟩ s2.cells]) := ⟨_, rfl⟩
    have hb3 := e3.get hb1
    obtain ⟨H3, q3, x3⟩ := R_sameS (mp := mpZ) (H := H2 ++ [.cells ⟨0, true, false⟩ s2.cells]) rfl rfl rfl (((hA1.ext e1).ext x2).ext e3) (hA2.ext e3)
    simp only [hpl1, hpl2, decide_true] at q3
    simp only [SetL.cells] at hb3 q1 q2 q3
    refine ⟨H3, ?_, x1.trans (e1.trans (x2.trans (e3.trans x3)))⟩
    rw [R_code (fn := m14) rfl]
    simp [m14, q1, q2, stx, ldnx, hb3, q3]
theorem erase_step {α : Type} (l : List α) {i : Nat} (j : Nat) {x : α} (hx : l[i]? = some x) : (l.take (i + 1)).eraseIdx j = (l.take i).eraseIdx j ++ (if i = j then [] else [x]) := by
  have hil := (List.getElem?_eq_some_iff.1 hx).1
  have htk : l.take (i + 1) = l.take i ++ [x] := by rw [List.take_add_one, hx]; rfl
  have hlen : (l.take i).length = i := by simp; omega
  rw [htk]
  by_cases h : i = j
  · subst h
    have h1 : (l.take i ++ [x]).eraseIdx i = l.take i := by
      rw [List.eraseIdx_append_of_length_le (by omega), hlen, Nat.sub_self]; simp
    have h2 : (l.take i).eraseIdx i = l.take i := List.eraseIdx_of_length_le (by omega)
    rw [if_pos rfl, List.append_nil, h1, h2]
  · rw [if_neg h]
    rcases Nat.lt_or_ge i j with hlt | hge
    · rw [List.eraseIdx_of_length_le (l := l.take i ++ [x]) (by rw [List.length_append, hlen]; simp; omega), List.eraseIdx_of_length_le (l := l.take i) (by omega)]
    · rw [List.eraseIdx_append_of_lt_length (by omega)]
theorem lines_len_le {ls ms : List Bs} (h : List.Sublist ms ls) : (linesB ms).length ≤ (linesB ls).length := by
  induction h with
  | slnil => exact Nat.le_refl _
  | cons a h ih => unfold linesB at ih ⊢; rw [List.flatMap_cons, List.length_append]; omega
  | cons_cons a h ih => unfold linesB at ih ⊢; rw [List.flatMap_cons, List.flatMap_cons]; simp only [List.length_append] at ih ⊢; omega
theorem drop_loop {mp : FuncId → Option MDef} {ls : List Bs} (hll : (linesB ls).length ≤ 40000) (hlen : ls.length ≤ 100000) {a : Option Addr} {n c j : Nat} (hr : Row 1 H (.slice a n c) (sv ls)) {v10 : Value} : ∀ (k i : Nat), i + k = ls.length →
    Rc mp (.loop m4_0) [(10, v10), (12, .slice a n c), (13, .int .i64 (j : Int)), (14, .string (B (linesB ((ls.take i).eraseIdx j)))), (15, .int .i64 (i : Int))] H =
      some (.exit 0, [(10, v10), (12, .slice a n c), (13, .int .i64 (j : Int)), (14, .string (B (linesB (ls.eraseIdx j)))), (15, .int .i64 (n : Int)), (49, .bool false)], H) := by
  have hn := hr.svn
  intro k
  induction k with
  | zero =>
    intro i hi
    have : i = ls.length := by omega
    subst this
    rw [Rc_loop, List.take_length]
    simp [m4_0, hn]
  | succ k ih =>
    intro i hi
    have hil : i < ls.length := by omega
    have hil' : (i : Int) < (n : Int) := by omega
    have hilN : i < n := by omega
    have hget := List.getElem?_eq_getElem hil
    obtain ⟨b, o, jj, cs, rfl, hB, hat⟩ := hr.sv hget
    have hld := ld_at hB (o + i)
    rw [hat] at hld
    have w : IntKind.i64.wrap ((i : Int) + 1) = (i : Int) + 1 := wrap_i64 (by omega) (by omega)
    have h := ih (i + 1) (by omega)
    have hes := erase_step ls j hget
    have hsub : List.Sublist ((ls.take i).eraseIdx j) ls := (List.eraseIdx_sublist _ _).trans (List.take_sublist _ _)
    have hb0 := lines_len_le hsub
    have hsub1 : List.Sublist [ls[i]] ls := List.singleton_sublist.2 (List.getElem_mem hil)
    have hb1 := lines_len_le hsub1
    have hl1 : (linesB [ls[i]]).length = ls[i].length + 1 := by simp [linesB]
    rw [hes] at h
    generalize ls[i] = x at hat hld h hl1 hb1
    generalize hE : (ls.take i).eraseIdx j = es at h hb0
    by_cases hij : i = j
    · subst hij
      rw [if_pos rfl, List.append_nil] at h
      rw [Rc_loop]
      simp [m4_0, hil', hilN, w]
      exact h
    · rw [if_neg hij] at h
      have hij' : ¬ (i : Int) = (j : Int) := by omega
      have hlx : linesB (es ++ [x]) = (linesB es ++ x) ++ [10] := by simp [linesB]
      rw [hlx] at h
      generalize linesB es = t0 at h hb0
      obtain ⟨t1, ht1, f1⟩ : ∃ t1 : Bs, t1 = t0 ++ x ∧ mbin .add (.string (B t0)) (.string (B x)) = some (.string (B t1)) := ⟨_, rfl, s_addM (by omega) (by omega)⟩
      have l1 : t1.length = t0.length + x.length := by rw [ht1]; simp
      obtain ⟨t2, ht2, f2⟩ : ∃ t2 : Bs, t2 = t1 ++ [10] ∧ mbin .add (.string (B t1)) (.string ⟨#[10]⟩) = some (.string (B t2)) := ⟨_, rfl, s_addM (m := [10]) (by omega) (by simp)⟩
      rw [← ht1, ← ht2] at h
      clear ht1 ht2
      rw [Rc_loop]
      simp [-ev_s_add, m4_0, hil', hilN, hld, hij, hij', f1, f2, w]
      exact h
theorem lines_ne {s : SetL} (hok : (checkE s).2 = 0) : printL s ≠ [] ∧ (rowsP s).length ≤ 1000 := by
  obtain ⟨_, _, h3, _, _⟩ := ok_facts hok
  refine ⟨?_, ?_⟩
  · rw [print_lines]
    unfold rowsP
    simp [linesB]
  · unfold rowsP homesR
    split <;> simp <;> omega
theorem textTurned {ss : List Value} {sd : List D} {at_ by_ dr : Int} (hat : 0 ≤ at_ ∧ at_ < 65536) (hby : 0 ≤ by_ ∧ by_ < 256) (hdr : 0 ≤ dr ∧ dr < 256) (rs : RepL H shSet ss sd) :
    ∃ H', R mpZ 4 [.agg ss.toArray, .int .u16 at_, .int .u8 by_, .int .u8 dr] H = some (.bool true, H') := by
  classical
  obtain ⟨s0, rfl, hs0⟩ := rep_set rs
  have hkn : ∀ H : MH, R mpZ 5 [] H = some (.bool true, H) := fun H => R_intr (s := constS (.bool true)) rfl
  refine isTrue_ex ?_
  rw [R_code (fn := m4) rfl]
  have eb : Ext H (H ++ [.cells ⟨0, true, false⟩ s0.cells]) := ⟨_, rfl⟩
  have hb0 : (H ++ [MObj.cells ⟨0, true, false⟩ s0.cells])[H.length]? = some (.cells ⟨0, true, false⟩ s0.cells) := by simp
  obtain ⟨H1, qF, x1⟩ := G_few (mp := mpZ) (f := 6) rfl hs0 eb
  have hb1 := x1.get hb0
  by_cases k1 : fewS s0
  case neg =>
    rw [decide_eq_false k1] at qF
    simp only [SetL.cells] at qF hb0 hb1
    simp [m4, SetL.cells, ldnx, hb0, hb1, hkn, qF]
  rw [decide_eq_true k1] at qF
  have hs := hs0.at k1
  obtain ⟨H2, qO, x2⟩ := G_okR (mp := mpZ) chkRZ (hs.ext (eb.trans x1)) (Ext.refl H1)
  have hb2 := x2.get hb1
  by_cases k2 : okSet s0
  case neg =>
    rw [decide_eq_false k2] at qO
    simp only [SetL.cells] at qF qO hb0 hb1 hb2
    simp [m4, SetL.cells, ldnx, hb0, hb1, hb2, hkn, qF, qO]
  rw [decide_eq_true k2] at qO
  have hok : (checkE s0).2 = 0 := k2
  have E2 := (eb.trans x1).trans x2
  obtain ⟨H3, qP, x3⟩ := R_printR (mp := mpZ) rfl rfl rfl rfl chkRZ (hs.ext E2) hok
  obtain ⟨hne, hrl⟩ := lines_ne hok
  have hlen := print_len hok
  have hcut := print_cut hok
  have hpl := print_lines s0
  have hturn := fun (k : Nat) (x : UInt8) (hk : k < (printL s0).length) => read_turned hok (k := k) (x := x) hk
  have hdrop := fun j => read_dropped hok j
  have hrp : 0 < (rowsP s0).length := by unfold rowsP; simp
  rw [← List.length_map (f := joinB)] at hrl hrp
  generalize hT : printL s0 = t at qP hne hlen hcut hpl hturn
  generalize (rowsP s0).map joinB = ls at hcut hpl hdrop hrl hrp
  have htl : 0 < t.length := List.length_pos_iff.2 hne
  -- the bytes
  have hs2b : meff .s2b [.string (B t)] H3 = some (.slice (some ⟨H3.length, 0, none⟩) t.length t.length, H3 ++ [.cells ⟨1, true, false⟩ (u8v t)]) := by
    simp only [meff, B_size]
    rw [if_neg (by omega)]
    rfl
  obtain ⟨k, hk, ek⟩ : ∃ k : Nat, k < t.length ∧ at_.tmod (t.length : Int) = (k : Int) := by
    refine ⟨(at_.tmod (t.length : Int)).toNat, ?_, ?_⟩
    · rw [Int.tmod_eq_emod_of_nonneg hat.1]
      have h1 := Int.emod_lt_of_pos at_ (show (0 : Int) < (t.length : Int) by omega)
      have h2 := Int.emod_nonneg at_ (show ((t.length : Int)) ≠ 0 by omega)
      omega
    · rw [Int.tmod_eq_emod_of_nonneg hat.1]
      have h2 := Int.emod_nonneg at_ (show ((t.length : Int)) ≠ 0 by omega)
      omega
  obtain ⟨x, hx⟩ : ∃ x : UInt8, by_ = (x.toNat : Int) := ⟨UInt8.ofNat by_.toNat, by
    simp only [UInt8.toNat_ofNat']
    omega⟩
  subst hx
  have wa : IntKind.i64.wrap at_ = at_ := wrap_i64 (by omega) (by omega)
  have wd : IntKind.i64.wrap dr = dr := wrap_i64 (by omega) (by omega)
  have hrow : (H3 ++ [MObj.cells ⟨1, true, false⟩ (u8v t)])[H3.length]? = some (.cells ⟨1, true, false⟩ (u8v t)) := by simp
  have hst := st_at hrow rfl k (.int .u8 (x.toNat : Int)) rfl (by simp; exact hk)
  have hset : (u8v t).set k (.int .u8 (x.toNat : Int)) = u8v (t.set k x) := by simp [u8v, List.map_set]
  rw [hset] at hst
  have hseth : (H3 ++ [MObj.cells ⟨1, true, false⟩ (u8v t)]).set H3.length (.cells ⟨1, true, false⟩ (u8v (t.set k x))) = H3 ++ [.cells ⟨1, true, false⟩ (u8v (t.set k x))] := by simp
  rw [hseth] at hst
  have hrow2 : (H3 ++ [MObj.cells ⟨1, true, false⟩ (u8v (t.set k x))])[H3.length]? = some (.cells ⟨1, true, false⟩ (u8v (t.set k x))) := by simp
  -- the lines
  obtain ⟨a, n, c, H4, qL, rL, x4⟩ := R_linesR (mp := mpZ) (H := H3 ++ [.cells ⟨1, true, false⟩ (u8v (t.set k x))]) rfl rfl (l := t) (by omega)
  rw [hcut] at rL
  have hn := rL.svn
  have hn0 : ¬ n = 0 := by omega
  have hn0' : ¬ (n : Int) = 0 := by omega
  obtain ⟨j, ej⟩ : ∃ j : Nat, dr.tmod (n : Int) = (j : Int) := by
    refine ⟨(dr.tmod (n : Int)).toNat, ?_⟩
    rw [Int.tmod_eq_emod_of_nonneg hdr.1]
    have h2 := Int.emod_nonneg dr (show ((n : Int)) ≠ 0 by omega)
    omega
  have hloop := drop_loop (mp := mpZ) (H := H4) (by rw [← hpl]; omega) (by omega) (j := j) rL (v10 := .slice (some ⟨H3.length, 0, none⟩) t.length t.length) ls.length 0 (by omega)
  have e0 : B (linesB ((ls.take 0).eraseIdx j)) = ⟨#[]⟩ := by simp [linesB]; rfl
  rw [e0] at hloop
  have hrow4 := x4.get hrow2
  have hsb := strb_u8 hrow4 (n := t.length) (by simp) t.length
  obtain ⟨H5, q5, x5⟩ := R_readsBoth (H := H4) (hturn k x hk)
  obtain ⟨H6, q6, x6⟩ := R_readsBoth (H := H5) (hdrop j)
  have htl0 : ¬ t.length = 0 := by omega
  have htl0' : ¬ (t.length : Int) = 0 := by omega
  have hkI : (k : Int) < (t.length : Int) := by omega
  generalize t.set k x = t2 at *
  generalize linesB (ls.eraseIdx j) = t3 at *
  simp only [SetL.cells] at qF qO qP hb0 hb1 hb2
  simp at hloop
  simp [m4, SetL.cells, ldnx, hb0, hb1, hb2, hkn, qF, qO, qP, hs2b, wa, wd, ek, ej, htl0, htl0', hk, hkI, hst, qL, hn0, hn0', hloop, hsb, q5, q6]
end
end Go.Mod

/- TextNumbers: its set, its text, and the law. -/
import Derived.Test.YthpeamllfledkaaDoorTvB
import Derived.Test.YthpeamllfledkaaDoorTqB
import Derived.Test.YthpeamllfledkaaDoorTnA
set_option linter.unusedVariables false
set_option linter.unusedSimpArgs false
namespace Go.Mod
open Go.Lib

theorem prP : PrP mpX := ⟨rfl, rfl, rfl, rfl, rfl, rfl, rfl, rfl, rfl, ⟨rfl, rfl, rfl, rfl, rfl, rfl, rfl, rfl, rfl, rfl, rfl, rfl, rfl⟩⟩
def hdN : Bs := [112, 114, 111, 116, 111, 99, 111, 108, 32, 116, 111, 107, 101, 110, 10, 99, 111, 114, 101, 115, 32, 50, 32, 49, 32, 51, 10, 104, 111, 109, 101, 115, 32, 50, 32, 48, 10, 116, 97, 115, 107, 32, 122, 122, 32]
def slN : Bs := [32, 115, 108, 101, 101, 112, 58]
def lkN : Bs := [32, 108, 111, 99, 107, 58]
def setN (p d q c l r : Int) : SetL := plainSet 3 [2, 1, 3] [2, 0] [⟨B [122, 122], p, d, q, c, none, 0, [⟨2, l, 0⟩, ⟨3, l, r⟩]⟩]
theorem setN_print (p d q c l r : Int) : printL (setN p d q c l r) = hdN ++ (textL p ++ ([32] ++ (textL d ++ ([32] ++ (textL q ++ ([32] ++ (textL c ++ (slN ++ (textL l ++ (lkN ++ (textL r ++ ([58] ++ (textL l ++ [10]))))))))))))) := by
  have h0 : textL 0 = [48] := rfl
  have h1 : textL 1 = [49] := rfl
  have h2 : textL 2 = [50] := rfl
  have h3 : textL 3 = [51] := rfl
  simp [printL, headS, homesS, tasksT, taskT, taskH, taskN, numsT, partsT, partT, wordN, kProtB, kCores, kHomes, kToken, kSleep, kLockC, setN, plainSet, hdN, slN, lkN, h0, h1, h2, h3]
theorem nameZ : nameB (B [122, 122]) := by
  refine ⟨fun j b hb => ?_, by simp, by simp⟩
  rw [B_get] at hb
  have : b = 122 := by
    match j, hb with
    | 0, hb => simpa using hb.symm
    | 1, hb => simpa using hb.symm
    | j + 2, hb => simp at hb
  subst this
  exact .inl ⟨by decide, by decide⟩
theorem setN_ok {p d q c l r : Int} (hp : 1 ≤ p ∧ p ≤ 3000) (hd : 1 ≤ d ∧ d ≤ p) (hq : 1 ≤ q ∧ q ≤ 1000) (hc : 0 ≤ c ∧ c ≤ 2) (hl : 1 ≤ l ∧ l ≤ 60) (hr : 0 ≤ r ∧ r ≤ 1) : (checkE (setN p d q c l r)).2 = 0 := by
  have hpl : placesB [2, 1, 3] [2, 0] := by
    refine ⟨by simp, ?_, ?_⟩
    · intro y hy; simp at hy; omega
    · intro y hy; simp at hy; simp; omega
  have ht : taskE (setN p d q c l r) 0 ⟨B [122, 122], p, d, q, c, none, 0, [⟨2, l, 0⟩, ⟨3, l, r⟩]⟩ = 0 := by
    have h1 : formOk ⟨B [122, 122], p, d, q, c, none, 0, [⟨2, l, 0⟩, ⟨3, l, r⟩]⟩ := ⟨nameZ, hp, hd, hq⟩
    have h2 : (0 : Int) ≤ c ∧ c < (([2, 1, 3] : List Int).length : Int) := ⟨hc.1, by simp; omega⟩
    have h4 : partsOk ([2, 0] : List Int).length [⟨2, l, 0⟩, ⟨3, l, r⟩] := by
      refine ⟨fun x hx => ?_, by simp, by simp⟩
      simp only [List.mem_cons, List.not_mem_nil, or_false] at hx
      rcases hx with rfl | rfl
      · exact ⟨⟨by simp, by simp, hl.1, hl.2⟩, .inr ⟨by simp, rfl⟩⟩
      · exact ⟨⟨by simp, by simp, hl.1, hl.2⟩, .inl ⟨rfl, hr.1, by simp; omega⟩⟩
    unfold taskE
    rw [if_neg (fun h => h h1), if_neg (fun h => h h2), if_neg (by simp [setN, plainSet]), if_neg (fun h => h h4)]
  have e1 : (setN p d q c l r).proto = 3 := rfl
  have e2 : (setN p d q c l r).cores = [2, 1, 3] := rfl
  have e3 : (setN p d q c l r).homes = [2, 0] := rfl
  have e4 : (setN p d q c l r).tasks = [⟨B [122, 122], p, d, q, c, none, 0, [⟨2, l, 0⟩, ⟨3, l, r⟩]⟩] := rfl
  unfold checkE
  rw [e1, e2, e3, e4, if_neg (by simp), if_neg (fun h => h hpl), if_neg (by simp), if_neg (by simp)]
  simp only [firstE, ht, if_true]
theorem printL_plain (s : SetL) : printL s.plain = printL s := by
  have h : tasksT (s.tasks.map TaskL.plain) = tasksT s.tasks := by
    unfold tasksT
    rw [List.flatMap_map]; rfl
  unfold printL
  have e1 : headS s.plain = headS s := rfl
  have e2 : homesS s.plain = homesS s := rfl
  have e3 : s.plain.tasks = s.tasks.map TaskL.plain := rfl
  rw [e1, e2, e3, h]
def heapN (H : MH) (b17 b20 : MObj) (p d q c l r : Int) : MH := H ++
  [b17, .cells ⟨1, true, true⟩ [.int .i64 2, .int .i64 1, .int .i64 3], .cells ⟨1, true, true⟩ [.int .i64 2, .int .i64 0],
   .cells ⟨3, true, true⟩ [.int .i64 2, .int .i64 l, .int .i64 0, .int .i64 3, .int .i64 l, .int .i64 r],
   .cells ⟨6, true, true⟩ [.string ⟨#[122, 122]⟩, .int .i64 p, .int .i64 d, .int .i64 q, .int .i64 c, .slice (some ⟨H.length + 3, 0, none⟩) 2 2], b20]
def wantN (n : Nat) (p d q c l r : Int) : SetL :=
  ⟨3, [2, 1, 3], some ⟨n + 1, 0, none⟩, 3, [2, 0], some ⟨n + 2, 0, none⟩, 2, [⟨B [122, 122], p, d, q, c, some ⟨n + 3, 0, none⟩, 2, [⟨2, l, 0⟩, ⟨3, l, r⟩]⟩], some ⟨n + 4, 0, none⟩, 1⟩
theorem wantN_at (H : MH) (b17 b20 : MObj) (p d q c l r : Int) : SetAt (heapN H b17 b20 p d q c l r) (wantN H.length p d q c l r) := by
  have h1 : (heapN H b17 b20 p d q c l r)[H.length + 1]? = some (.cells ⟨1, true, true⟩ [.int .i64 2, .int .i64 1, .int .i64 3]) := by unfold heapN; rw [List.getElem?_append_right (by omega)]; simp
  have h2 : (heapN H b17 b20 p d q c l r)[H.length + 2]? = some (.cells ⟨1, true, true⟩ [.int .i64 2, .int .i64 0]) := by unfold heapN; rw [List.getElem?_append_right (by omega)]; simp
  have h3 : (heapN H b17 b20 p d q c l r)[H.length + 3]? = some (.cells ⟨3, true, true⟩ [.int .i64 2, .int .i64 l, .int .i64 0, .int .i64 3, .int .i64 l, .int .i64 r]) := by unfold heapN; rw [List.getElem?_append_right (by omega)]; simp
  have h4 : (heapN H b17 b20 p d q c l r)[H.length + 4]? = some (.cells ⟨6, true, true⟩ [.string ⟨#[122, 122]⟩, .int .i64 p, .int .i64 d, .int .i64 q, .int .i64 c, .slice (some ⟨H.length + 3, 0, none⟩) 2 2]) := by unfold heapN; rw [List.getElem?_append_right (by omega)]; simp
  generalize heapN H b17 b20 p d q c l r = X at h1 h2 h3 h4
  refine ⟨?_, ?_, ?_, ?_, ?_⟩
  · exact (RowG.of (w := 1) (g := intC) (l := [2, 1, 3]) (n := 3) (c := 3) (.inr ⟨_, 0, 3, 3, _, _, rfl, Nat.le_refl _, h1, rfl, by simp, rfl⟩) (by omega) (fun x hx => ⟨rfl, rfl⟩)).1
  · exact (RowG.of (w := 1) (g := intC) (l := [2, 0]) (n := 2) (c := 2) (.inr ⟨_, 0, 2, 2, _, _, rfl, Nat.le_refl _, h2, rfl, by simp, rfl⟩) (by omega) (fun x hx => ⟨rfl, rfl⟩)).1
  · exact (RowG.of (w := 6) (g := taskC) (l := [⟨B [122, 122], p, d, q, c, some ⟨H.length + 3, 0, none⟩, 2, [⟨2, l, 0⟩, ⟨3, l, r⟩]⟩]) (n := 1) (c := 1) (.inr ⟨_, 0, 1, 1, _, _, rfl, Nat.le_refl _, h4, rfl, by simp, rfl⟩) (by omega) (fun x hx => ⟨rfl, rfl⟩)).1
  · intro t ht
    simp only [wantN, List.mem_cons, List.not_mem_nil, or_false] at ht
    subst ht
    exact (RowG.of (w := 3) (g := partC) (l := [⟨2, l, 0⟩, ⟨3, l, r⟩]) (n := 2) (c := 2) (.inr ⟨_, 0, 2, 2, _, _, rfl, Nat.le_refl _, h3, rfl, by simp, rfl⟩) (by omega) (fun x hx => ⟨rfl, rfl⟩)).1
  · refine ⟨by simp [wantN], by simp [wantN], by simp [wantN], by simp [wantN], fun t ht => ?_⟩
    simp only [wantN, List.mem_cons, List.not_mem_nil, or_false] at ht
    subst ht
    exact ⟨by simp, by simp⟩
open Classical in
theorem textNumbers {H : MH} {p d q c r l : Int} (hp : 0 ≤ p ∧ p < 65536) (hd : 0 ≤ d ∧ d < 65536) (hq : 0 ≤ q ∧ q < 65536) (hc : 0 ≤ c ∧ c < 256) (hr : 0 ≤ r ∧ r < 256) (hl : 0 ≤ l ∧ l < 256) :
    ∃ H', R mpX 10 [.int .u16 p, .int .u16 d, .int .u16 q, .int .u8 c, .int .u8 r, .int .u8 l] H = some (.bool true, H') := by
  have hkn : R mpX 24 [] H = some (.bool true, H) := R_intr (s := constS (.bool true)) rfl
  obtain ⟨p', ep, bp⟩ : ∃ y : Int, p.tmod 3000 = y ∧ 0 ≤ y ∧ y < 3000 := ⟨_, rfl, by rw [Int.tmod_eq_emod_of_nonneg hp.1]; omega, by rw [Int.tmod_eq_emod_of_nonneg hp.1]; omega⟩
  obtain ⟨q', eq, bq⟩ : ∃ y : Int, q.tmod 1000 = y ∧ 0 ≤ y ∧ y < 1000 := ⟨_, rfl, by rw [Int.tmod_eq_emod_of_nonneg hq.1]; omega, by rw [Int.tmod_eq_emod_of_nonneg hq.1]; omega⟩
  obtain ⟨c', ec, bc⟩ : ∃ y : Int, c.tmod 3 = y ∧ 0 ≤ y ∧ y < 3 := ⟨_, rfl, by rw [Int.tmod_eq_emod_of_nonneg hc.1]; omega, by rw [Int.tmod_eq_emod_of_nonneg hc.1]; omega⟩
  obtain ⟨r', er, br⟩ : ∃ y : Int, r.tmod 2 = y ∧ 0 ≤ y ∧ y < 2 := ⟨_, rfl, by rw [Int.tmod_eq_emod_of_nonneg hr.1]; omega, by rw [Int.tmod_eq_emod_of_nonneg hr.1]; omega⟩
  obtain ⟨l', el, bl⟩ : ∃ y : Int, l.tmod 60 = y ∧ 0 ≤ y ∧ y < 60 := ⟨_, rfl, by rw [Int.tmod_eq_emod_of_nonneg hl.1]; omega, by rw [Int.tmod_eq_emod_of_nonneg hl.1]; omega⟩
  have hp1 : ¬ p' + 1 = 0 := by omega
  obtain ⟨d', ed, bd⟩ : ∃ y : Int, d.tmod (p' + 1) = y ∧ 0 ≤ y ∧ y < p' + 1 := ⟨_, rfl, by rw [Int.tmod_eq_emod_of_nonneg hd.1]; exact Int.emod_nonneg _ hp1, by rw [Int.tmod_eq_emod_of_nonneg hd.1]; exact Int.emod_lt_of_pos _ (by omega)⟩
  have wd0 : IntKind.i64.wrap d = d := wrap_i64 (by omega) (by omega)
  have wp : IntKind.i64.wrap p' = p' := wrap_i64 (by omega) (by omega)
  have wq : IntKind.i64.wrap q' = q' := wrap_i64 (by omega) (by omega)
  have wc : IntKind.i64.wrap c' = c' := wrap_i64 (by omega) (by omega)
  have wr : IntKind.i64.wrap r' = r' := wrap_i64 (by omega) (by omega)
  have wl : IntKind.i64.wrap l' = l' := wrap_i64 (by omega) (by omega)
  have wd : IntKind.i64.wrap d' = d' := wrap_i64 (by omega) (by omega)
  have wp1 : IntKind.i64.wrap (p' + 1) = p' + 1 := wrap_i64 (by omega) (by omega)
  have wq1 : IntKind.i64.wrap (q' + 1) = q' + 1 := wrap_i64 (by omega) (by omega)
  have wl1 : IntKind.i64.wrap (l' + 1) = l' + 1 := wrap_i64 (by omega) (by omega)
  have wd1 : IntKind.i64.wrap (d' + 1) = d' + 1 := wrap_i64 (by omega) (by omega)
  obtain ⟨H1, qP, x1⟩ := R_textR (mp := mpX) (H := H) rfl (p' + 1)
  obtain ⟨H2, qD, x2⟩ := R_textR (mp := mpX) (H := H1) rfl (d' + 1)
  obtain ⟨H3, qQ, x3⟩ := R_textR (mp := mpX) (H := H2) rfl (q' + 1)
  obtain ⟨H4, qC, x4⟩ := R_textR (mp := mpX) (H := H3) rfl (c')
  obtain ⟨H5, qL, x5⟩ := R_textR (mp := mpX) (H := H4) rfl (l' + 1)
  obtain ⟨H6, qR, x6⟩ := R_textR (mp := mpX) (H := H5) rfl (r')
  obtain ⟨H7, qM, x7⟩ := R_textR (mp := mpX) (H := H6) rfl (l' + 1)
  have hok := setN_ok (p := p' + 1) (d := d' + 1) (q := q' + 1) (c := c') (l := l' + 1) (r := r') (by omega) (by omega) (by omega) (by omega) (by omega) (by omega)
  have hpr := setN_print (p' + 1) (d' + 1) (q' + 1) c' (l' + 1) r'
  have hpp := parse_print hok
  have hpl : (setN (p' + 1) (d' + 1) (q' + 1) c' (l' + 1) r').plain = setN (p' + 1) (d' + 1) (q' + 1) c' (l' + 1) r' := rfl
  have hrl : (rowsP (setN (p' + 1) (d' + 1) (q' + 1) c' (l' + 1) r')).length = 4 := rfl
  rw [hpl, hrl] at hpp
  have zP := textL_len (p' + 1)
  generalize textL (p' + 1) = xP at qP hpr zP
  have zD := textL_len (d' + 1)
  generalize textL (d' + 1) = xD at qD hpr zD
  have zQ := textL_len (q' + 1)
  generalize textL (q' + 1) = xQ at qQ hpr zQ
  have zC := textL_len (c')
  generalize textL (c') = xC at qC hpr zC
  have zL := textL_len (l' + 1)
  generalize textL (l' + 1) = xL at qL qM hpr zL
  have zR := textL_len (r')
  generalize textL (r') = xR at qR hpr zR
  obtain ⟨t1, ht1, f1⟩ : ∃ t : Bs, t = hdN ++ xP ∧ mbin .add (.string ⟨#[112, 114, 111, 116, 111, 99, 111, 108, 32, 116, 111, 107, 101, 110, 10, 99, 111, 114, 101, 115, 32, 50, 32, 49, 32, 51, 10, 104, 111, 109, 101, 115, 32, 50, 32, 48, 10, 116, 97, 115, 107, 32, 122, 122, 32]⟩) (.string (B xP)) = some (.string (B t)) := ⟨_, rfl, s_addM (l := hdN) (by simp [hdN]) (by omega)⟩
  have l1 : t1.length = hdN.length + xP.length := by rw [ht1]; simp
  have lh : hdN.length = 45 := rfl
  obtain ⟨t2, ht2, f2⟩ : ∃ t : Bs, t = t1 ++ [32] ∧ mbin .add (.string (B t1)) (.string ⟨#[32]⟩) = some (.string (B t)) := ⟨_, rfl, s_addM (m := [32]) (by omega) (by simp)⟩
  have l2 : t2.length = t1.length + 1 := by rw [ht2]; simp
  obtain ⟨t3, ht3, f3⟩ : ∃ t : Bs, t = t2 ++ xD ∧ mbin .add (.string (B t2)) (.string (B xD)) = some (.string (B t)) := ⟨_, rfl, s_addM (l := t2) (by omega) (by omega)⟩
  have l3 : t3.length = t2.length + xD.length := by rw [ht3]; simp
  obtain ⟨t4, ht4, f4⟩ : ∃ t : Bs, t = t3 ++ [32] ∧ mbin .add (.string (B t3)) (.string ⟨#[32]⟩) = some (.string (B t)) := ⟨_, rfl, s_addM (m := [32]) (by omega) (by simp)⟩
  have l4 : t4.length = t3.length + 1 := by rw [ht4]; simp
  obtain ⟨t5, ht5, f5⟩ : ∃ t : Bs, t = t4 ++ xQ ∧ mbin .add (.string (B t4)) (.string (B xQ)) = some (.string (B t)) := ⟨_, rfl, s_addM (l := t4) (by omega) (by omega)⟩
  have l5 : t5.length = t4.length + xQ.length := by rw [ht5]; simp
  obtain ⟨t6, ht6, f6⟩ : ∃ t : Bs, t = t5 ++ [32] ∧ mbin .add (.string (B t5)) (.string ⟨#[32]⟩) = some (.string (B t)) := ⟨_, rfl, s_addM (m := [32]) (by omega) (by simp)⟩
  have l6 : t6.length = t5.length + 1 := by rw [ht6]; simp
  obtain ⟨t7, ht7, f7⟩ : ∃ t : Bs, t = t6 ++ xC ∧ mbin .add (.string (B t6)) (.string (B xC)) = some (.string (B t)) := ⟨_, rfl, s_addM (l := t6) (by omega) (by omega)⟩
  have l7 : t7.length = t6.length + xC.length := by rw [ht7]; simp
  obtain ⟨t8, ht8, f8⟩ : ∃ t : Bs, t = t7 ++ slN ∧ mbin .add (.string (B t7)) (.string ⟨#[32, 115, 108, 101, 101, 112, 58]⟩) = some (.string (B t)) := ⟨_, rfl, s_addM (m := slN) (by omega) (by simp [slN, lkN])⟩
  have l8 : t8.length = t7.length + 7 := by rw [ht8]; simp [slN, lkN]
  obtain ⟨t9, ht9, f9⟩ : ∃ t : Bs, t = t8 ++ xL ∧ mbin .add (.string (B t8)) (.string (B xL)) = some (.string (B t)) := ⟨_, rfl, s_addM (l := t8) (by omega) (by omega)⟩
  have l9 : t9.length = t8.length + xL.length := by rw [ht9]; simp
  obtain ⟨t10, ht10, f10⟩ : ∃ t : Bs, t = t9 ++ lkN ∧ mbin .add (.string (B t9)) (.string ⟨#[32, 108, 111, 99, 107, 58]⟩) = some (.string (B t)) := ⟨_, rfl, s_addM (m := lkN) (by omega) (by simp [slN, lkN])⟩
  have l10 : t10.length = t9.length + 6 := by rw [ht10]; simp [slN, lkN]
  obtain ⟨t11, ht11, f11⟩ : ∃ t : Bs, t = t10 ++ xR ∧ mbin .add (.string (B t10)) (.string (B xR)) = some (.string (B t)) := ⟨_, rfl, s_addM (l := t10) (by omega) (by omega)⟩
  have l11 : t11.length = t10.length + xR.length := by rw [ht11]; simp
  obtain ⟨t12, ht12, f12⟩ : ∃ t : Bs, t = t11 ++ [58] ∧ mbin .add (.string (B t11)) (.string ⟨#[58]⟩) = some (.string (B t)) := ⟨_, rfl, s_addM (m := [58]) (by omega) (by simp)⟩
  have l12 : t12.length = t11.length + 1 := by rw [ht12]; simp
  obtain ⟨t13, ht13, f13⟩ : ∃ t : Bs, t = t12 ++ xL ∧ mbin .add (.string (B t12)) (.string (B xL)) = some (.string (B t)) := ⟨_, rfl, s_addM (l := t12) (by omega) (by omega)⟩
  have l13 : t13.length = t12.length + xL.length := by rw [ht13]; simp
  obtain ⟨t14, ht14, f14⟩ : ∃ t : Bs, t = t13 ++ [10] ∧ mbin .add (.string (B t13)) (.string ⟨#[10]⟩) = some (.string (B t)) := ⟨_, rfl, s_addM (m := [10]) (by omega) (by simp)⟩
  have l14 : t14.length = t13.length + 1 := by rw [ht14]; simp
  have et : printL (setN (p' + 1) (d' + 1) (q' + 1) c' (l' + 1) r') = t14 := by
    rw [hpr, ht14, ht13, ht12, ht11, ht10, ht9, ht8, ht7, ht6, ht5, ht4, ht3, ht2, ht1]; simp only [List.append_assoc]
  rw [et] at hpp
  clear hpr ht1 ht2 ht3 ht4 ht5 ht6 ht7 ht8 ht9 ht10 ht11 ht12 ht13 ht14
  have hP := R_parse (mp := mpX) (H := H7) txQ t14
  unfold Parsed at hP
  rw [hpp] at hP
  obtain ⟨s', H8, q8, x8, hA8, hpl8⟩ := hP
  have hW := wantN_at H8 (.cells ⟨0, true, false⟩ s'.cells) (.cells ⟨0, true, false⟩ (wantN H8.length (p' + 1) (d' + 1) (q' + 1) c' (l' + 1) r').cells) (p' + 1) (d' + 1) (q' + 1) c' (l' + 1) r'
  have eW : Ext H8 (heapN H8 (.cells ⟨0, true, false⟩ s'.cells) (.cells ⟨0, true, false⟩ (wantN H8.length (p' + 1) (d' + 1) (q' + 1) c' (l' + 1) r').cells) (p' + 1) (d' + 1) (q' + 1) c' (l' + 1) r') := ⟨_, rfl⟩
  obtain ⟨H9, q9, x9⟩ := R_sameS (mp := mpX) rfl rfl rfl (hA8.ext eW) hW
  have hpw : s'.plain = (wantN H8.length (p' + 1) (d' + 1) (q' + 1) c' (l' + 1) r').plain := hpl8
  simp only [hpw, decide_true] at q9
  have hb17 : H9[H8.length]? = some (.cells ⟨0, true, false⟩ s'.cells) := x9.get (by simp [heapN])
  obtain ⟨H10, q10, x10⟩ := R_print (mp := mpX) prP ((hA8.ext eW).ext x9)
  have hce := checkE_plain s'
  rw [hpl8] at hce
  have hck : (checkE s').2 = 0 := by rw [← hce]; exact hok
  have hpt : printL s' = t14 := by rw [← printL_plain, hpl8, et]
  rw [if_pos hck, hpt] at q10
  simp [heapN, wantN, SetL.cells, intC, partC, taskC] at q9
  simp only [SetL.cells] at q10 hb17
  refine isTrue_ex ?_
  rw [R_code (fn := m10) rfl]
  simp only [SetL.cells] at q8
  simp [-ev_s_add, m10, hkn, ep, eq, ec, er, el, ed, hp1, wd0, wp, wq, wc, wr, wl, wd, wp1, wq1, wl1, wd1, qP, qD, qQ, qC, qL, qR, qM, f1, f2, f3, f4, f5, f6, f7, f8, f9, f10, f11, f12, f13, f14, q8, stx, ldx, ldnx, mdraw_full, q9, q10, hb17]
end Go.Mod

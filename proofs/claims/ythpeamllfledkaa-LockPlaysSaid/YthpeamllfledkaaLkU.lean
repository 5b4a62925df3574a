/- Who holds: Ask, Leave. -/
import Derived.Test.YthpeamllfledkaaLkQ
set_option linter.unusedVariables false
set_option linter.unusedSimpArgs false
namespace Go.Mod

def LkA (l : Nat) (s : SetL) (L : Lay) (cnt : Int) (ak : List Ask) (ts : List Chn) : HP := Sep (LkL l s L (ak.map entC) cnt (waitL ak) ak ts)
theorem LkA.good {l : Nat} {s : SetL} {L : Lay} {cnt : Int} {ak : List Ask} {ts : List Chn} : Good (LkA l s L cnt ak ts) := Sep.good LkL.good
theorem waitL_len (ak : List Ask) : (waitL ak).length ≤ ak.length := by
  unfold waitL
  rw [List.length_map]
  exact List.length_filter_le _ _
theorem waitL_app (ak bk : List Ask) : waitL (ak ++ bk) = waitL ak ++ waitL bk := by simp [waitL]
theorem mupd_new {k : Int} {v : Value} : ∀ {es : List (Int × Value)}, mlook k es = none → mupd k v es = es ++ [(k, v)]
  | [], _ => rfl
  | (j, x) :: es, h => by
    unfold mlook at h
    split at h
    · cases h
    · rename_i hne
      unfold mupd
      rw [if_neg hne, mupd_new h]; rfl

section
variable {mp : FuncId → Option MDef} {H H0 H1 : MH} {F : List Nat} {l : Nat} {s : SetL} {L : Lay} {es : List (Int × Value)} {cnt : Int} {wl : List Int} {bs ak : List Ask} {ts : List Chn}
/-- An ask that isn't one. -/
theorem R_ask_no (hf : mp 12 = some (.code m12)) (h : LkV H l s L (ak.map entC) cnt wl ak ts) {n res : Int} :
    ((n < 0 ∨ (s.tasks.length : Int) ≤ n) → R mp 12 [.pointer (some ⟨l, 0, none⟩), .int .i64 n, .int .i64 res] H = some (.int .i64 14, H)) ∧
    (¬ (n < 0 ∨ (s.tasks.length : Int) ≤ n) → (res < 0 ∨ (s.homes.length : Int) ≤ res) → R mp 12 [.pointer (some ⟨l, 0, none⟩), .int .i64 n, .int .i64 res] H = some (.int .i64 16, H)) ∧
    (¬ (n < 0 ∨ (s.tasks.length : Int) ≤ n) → ¬ (res < 0 ∨ (s.homes.length : Int) ≤ res) → (findA ak n).isSome = true → R mp 12 [.pointer (some ⟨l, 0, none⟩), .int .i64 n, .int .i64 res] H = some (.int .i64 17, H)) := by
  have hloc := ld_at h.loc
  simp only [lkC] at hloc
  refine ⟨fun hn => ?_, fun hn hr => ?_, fun hn hr hx => ?_⟩
  · rw [R_code hf]
    by_cases h0 : n < 0
    · simp [m12, hloc, h0]
    · have h1 : (s.tasks.length : Int) ≤ n := hn.resolve_left h0
      simp [m12, hloc, h0, h1]
  · rw [not_or] at hn
    rw [R_code hf]
    by_cases h0 : res < 0
    · simp [m12, hloc, hn, h0]
    · have h1 : (s.homes.length : Int) ≤ res := hr.resolve_left h0
      simp [m12, hloc, hn, h0, h1]
  · rw [not_or] at hn hr
    obtain ⟨a, ha⟩ := Option.isSome_iff_exists.1 hx
    have hl := mlook_ent n ak
    rw [ha] at hl
    rw [R_code hf]
    simp [m12, hloc, hn, hr, look_some h.map hl]
/-- The ask that is new. -/
def newA (s : SetL) (cnt : Int) (n : Nat) (res : Int) (p : Nat) : Ask := if s.proto = 3 then ⟨n, res, 0, false, false, false, p⟩ else ⟨n, res, cnt + 1, true, false, false, p⟩
def newCnt (s : SetL) (cnt : Int) : Int := if s.proto = 3 then cnt else cnt + 1
theorem R_ask_ok (hf : mp 12 = some (.code m12)) (h31 : mp 31 = some (.code m31)) (h : LkA l s L cnt ak ts H F) {n : Nat} {res : Int} (hn : n < s.tasks.length) (hr0 : 0 ≤ res) (hr : res < (s.homes.length : Int)) (hx : findA ak (n : Int) = none) (hlen : ak.length < 64) (hc0 : 0 ≤ cnt) (hc : cnt < 1000000) :
    ∃ H' F' p, R mp 12 [.pointer (some ⟨l, 0, none⟩), .int .i64 (n : Int), .int .i64 res] H = some (.int .i64 0, H') ∧ LkA l s L (newCnt s cnt) (ak ++ [newA s cnt n res p]) ts H' F' ∧ Upd H F H' F' := by
  have V := LkV.of h
  have hloc := ld_at V.loc
  simp only [lkC] at hloc
  have hn0 : ¬ (n : Int) < 0 := by omega
  have hn1 : ¬ (s.tasks.length : Int) ≤ (n : Int) := by omega
  have hr1 : ¬ res < 0 := by omega
  have hr2 : ¬ (s.homes.length : Int) ≤ res := by omega
  have hl := mlook_ent (n : Int) ak
  rw [hx] at hl
  have hlk := look_none (z := .pointer none) V.map hl
  let a0 : Ask := ⟨n, res, 0, false, false, false, H.length⟩
  obtain ⟨F1, p1, u1⟩ := lk_new h (a := a0) rfl
  have hwl := waitL_len ak
  -- what is put at the end
  have fin : ∀ (H2 : MH) (F2 : List Nat) (c : Int) (b : Ask), b.n = n → b.p = H.length → b.holds = false → Sep (LkL l s L (ak.map entC) c (waitL ak) (ak ++ [b]) ts) H2 F2 → ∃ H3 F3, R mp 31 [.pointer (some ⟨L.w, 0, none⟩), .int .i64 (n : Int)] (H2.set L.m (.map (mupd (n : Int) (.pointer (some ⟨H.length, 0, none⟩)) (ak.map entC)))) = some (.int .i64 0, H3) ∧ LkA l s L c (ak ++ [b]) ts H3 F3 ∧ Upd H2 F2 H3 F3 := by
    intro H2 F2 c b hbn hbp hbh hs
    obtain ⟨F3, p3, u3⟩ := lk_map hs (mupd (n : Int) (.pointer (some ⟨H.length, 0, none⟩)) (ak.map entC))
    obtain ⟨H4, F4, e4, p4, u4⟩ := lk_put (mp := mp) h31 p3 (by omega) (n : Int)
    refine ⟨H4, F4, e4, ?_, u3.trans u4⟩
    have e5 : mupd (n : Int) (.pointer (some ⟨H.length, 0, none⟩)) (ak.map entC) = (ak ++ [b]).map entC := by
      rw [mupd_new hl, List.map_append]; simp [entC, hbn, hbp]
    have e6 : waitL ak ++ [(n : Int)] = waitL (ak ++ [b]) := by
      rw [waitL_app]; simp [waitL, hbh, hbn]
    unfold LkA
    rw [← e5, ← e6]; exact p4
  by_cases hp : s.proto = 3
  · have hA : newA s cnt n res H.length = a0 := by simp [newA, hp, a0]
    have hC : newCnt s cnt = cnt := by simp [newCnt, hp]
    obtain ⟨H3, F3, e3, p3, u3⟩ := fin _ _ cnt a0 rfl rfl rfl p1
    have V1 := LkV.of p1
    have hl1 := ld_at V1.loc
    simp only [lkC] at hl1
    have hms := mset_at (k := (n : Int)) (v := .pointer (some ⟨H.length, 0, none⟩)) V1.map rfl
    refine ⟨H3, F3, H.length, ?_, by rw [hA, hC]; exact p3, u1.trans u3⟩
    simp only [a0, askO, askC] at hl1 hms e3
    have V2 := LkV.of (lk_map p1 (mupd (n : Int) (.pointer (some ⟨H.length, 0, none⟩)) (ak.map entC))).choose_spec.1
    have hl3 := ld_at V2.loc
    simp only [lkC, a0, askO, askC] at hl3
    rw [R_code hf]
    simp [m12, hloc, hn0, hn1, hr1, hr2, hlk, hp, hl1, hms, hl3, e3]
  · let a1 : Ask := { a0 with place := cnt + 1 }
    let a2 : Ask := { a1 with isIn := true }
    have hA : newA s cnt n res H.length = a2 := by simp [newA, hp, a2, a1, a0]
    have hC : newCnt s cnt = cnt + 1 := by simp [newCnt, hp]
    obtain ⟨H2, F2, e2, p2, u2⟩ := lk_cnt p1 (cnt + 1)
    obtain ⟨H3, F3, e3, p3, u3⟩ := lk_box p2 (i := ak.length) (j := 1) (a := a0) (a' := a1) (v := .int .i64 (cnt + 1)) (by simp) (by omega) rfl rfl rfl
    rw [List.set_append_right _ _ (Nat.le_refl _), Nat.sub_self, List.set_cons_zero] at p3
    obtain ⟨H4, F4, e4, p4, u4⟩ := lk_box p3 (i := ak.length) (j := 2) (a := a1) (a' := a2) (v := .bool true) (by simp) (by omega) rfl rfl rfl
    rw [List.set_append_right _ _ (Nat.le_refl _), Nat.sub_self, List.set_cons_zero] at p4
    obtain ⟨H5, F5, e5, p5, u5⟩ := fin _ _ (cnt + 1) a2 rfl rfl rfl p4
    have hl1 := ld_at (LkV.of p1).loc
    have hl2 := ld_at (LkV.of p2).loc
    have hl4 := ld_at (LkV.of p4).loc
    have hl5 := ld_at (LkV.of (lk_map p4 (mupd (n : Int) (.pointer (some ⟨H.length, 0, none⟩)) (ak.map entC))).choose_spec.1).loc
    have hms := mset_at (k := (n : Int)) (v := .pointer (some ⟨H.length, 0, none⟩)) (LkV.of p4).map rfl
    have w : IntKind.i64.wrap (cnt + 1) = cnt + 1 := wrap_i64 (by omega) (by omega)
    refine ⟨H5, F5, H.length, ?_, by rw [hA, hC]; exact p5, (((u1.trans u2).trans u3).trans u4).trans u5⟩
    simp only [lkC, a0, a1, a2, askO, askC] at hl1 hl2 hl4 hl5 hms e2 e3 e4 e5
    rw [R_code hf]
    simp [m12, hloc, hn0, hn1, hr1, hr2, hlk, hp, hl1, w, e2, hl2, e3, e4, hl4, hms, hl5, e5]

/-! ### Leave -/
def dropA (ak : List Ask) (n : Int) : List Ask := ak.filter fun a => !decide ((a.n : Int) = n)
theorem dropA_none {ak : List Ask} {n : Int} (h : ∀ a ∈ ak, (a.n : Int) ≠ n) : dropA ak n = ak := by
  unfold dropA
  rw [List.filter_eq_self]
  intro a ha
  simpa using h a ha
theorem dropA_cons {a : Ask} {ak : List Ask} {n : Int} : dropA (a :: ak) n = if (a.n : Int) = n then dropA ak n else a :: dropA ak n := by
  unfold dropA
  rw [List.filter_cons]
  by_cases h : (a.n : Int) = n <;> simp [h]
theorem uniq_tail {a : Ask} {ak : List Ask} (hu : uniqA (a :: ak)) : uniqA ak ∧ ∀ b ∈ ak, (b.n : Int) ≠ (a.n : Int) := by
  obtain ⟨h1, h2⟩ := List.nodup_cons.1 hu
  exact ⟨h2, fun b hb e => h1 (List.mem_map.2 ⟨b, hb, by show b.n = a.n; omega⟩)⟩
theorem mera_ent {n : Int} : ∀ {ak : List Ask}, uniqA ak → mera n (ak.map entC) = (dropA ak n).map entC
  | [], _ => rfl
  | a :: ak, hu => by
    obtain ⟨h1, h2⟩ := uniq_tail hu
    rw [dropA_cons, List.map_cons]
    by_cases h : (a.n : Int) = n
    · rw [if_pos h, dropA_none fun b hb e => h2 b hb (by omega)]
      exact if_pos h.symm
    · rw [if_neg h, List.map_cons, ← mera_ent h1]
      exact if_neg fun e => h e.symm
theorem waitL_drop {n : Int} : ∀ {ak : List Ask}, uniqA ak → waitL (dropA ak n) = (waitL ak).erase n
  | [], _ => rfl
  | a :: ak, hu => by
    obtain ⟨h1, h2⟩ := uniq_tail hu
    have ih := waitL_drop (n := n) h1
    rw [dropA_cons]
    have hc : ∀ (b : Ask) (bk : List Ask), waitL (b :: bk) = if b.holds then waitL bk else (b.n : Int) :: waitL bk := fun b bk => by
      unfold waitL; rw [List.filter_cons]; cases b.holds <;> simp
    by_cases h : (a.n : Int) = n
    · have hno : n ∉ waitL ak := fun hm => by
        obtain ⟨b, hb, _, e⟩ := mem_waitL.1 hm
        exact h2 b hb (by omega)
      rw [if_pos h, ih, List.erase_of_not_mem hno, hc]
      split
      · rw [List.erase_of_not_mem hno]
      · rw [h, List.erase_cons_head]
    · rw [if_neg h, hc, hc, ih]
      split
      · rfl
      · rw [List.erase_cons_tail (by simpa using h)]
theorem dropA_uniq {ak : List Ask} {n : Int} (hu : uniqA ak) : uniqA (dropA ak n) := by
  unfold uniqA dropA
  exact hu.sublist (List.filter_sublist.map _)
theorem find_drop {ak : List Ask} {n m : Int} : findA (dropA ak n) m = if m = n then none else findA ak m := by
  induction ak with
  | nil => simp [dropA, findA]
  | cons a ak ih =>
    rw [dropA_cons]
    unfold findA at ih ⊢
    by_cases h : (a.n : Int) = n
    · rw [if_pos h, ih]
      split
      · rfl
      · rename_i hne
        rw [List.find?_cons_of_neg (by simp; omega)]
    · rw [if_neg h]
      by_cases hm : (a.n : Int) = m
      · rw [List.find?_cons_of_pos (by simpa using hm), if_neg (by omega), List.find?_cons_of_pos (by simpa using hm)]
      · rw [List.find?_cons_of_neg (by simpa using hm), List.find?_cons_of_neg (by simpa using hm)]; exact ih
theorem R_leave_no (hf : mp 17 = some (.code m17)) (h : LkV H l s L (ak.map entC) cnt wl ak ts) {n : Int} (hx : findA ak n = none) : R mp 17 [.pointer (some ⟨l, 0, none⟩), .int .i64 n] H = some (.int .i64 13, H) := by
  have hloc := ld_at h.loc
  simp only [lkC] at hloc
  have hl := mlook_ent n ak
  rw [hx] at hl
  rw [R_code hf]
  simp [m17, hloc, look_none h.map hl]
/-- The tokens behind one that leaves. -/
def backT (s : SetL) (a : Ask) (ts : List Chn) : List Chn := if s.proto = 3 ∧ a.isIn = true then
    match s.tasks[a.n]? with
    | some t => match ts[t.cluster.toNat]? with
      | some c => ts.set t.cluster.toNat { c with cnt := c.cnt - 1 }
      | none => ts
    | none => ts
  else ts
theorem R_leave_ok (hf : mp 17 = some (.code m17)) (h42 : mp 42 = some (.code m42)) (h63 : mp 63 = some (.code (cDelete 1 8 [.int .i64 0]))) (h : LkA l s L cnt ak ts H F) {n : Int} {a : Ask} (hx : findA ak n = some a) (hu : uniqA ak)
    (hid : ts.map (·.id) = L.chs) (hc : s.proto = 3 → a.isIn = true → ∃ t c, s.tasks[a.n]? = some t ∧ 0 ≤ t.cluster ∧ ts[t.cluster.toNat]? = some c ∧ 0 < c.cnt) :
    ∃ H' F', R mp 17 [.pointer (some ⟨l, 0, none⟩), .int .i64 n] H = some (.int .i64 0, H') ∧ LkA l s L cnt (dropA ak n) (backT s a ts) H' F' ∧ Upd H F H' F' := by
  have V := LkV.of h
  obtain ⟨ha, hn⟩ := findA_mem hx
  have hloc := ld_at V.loc
  simp only [lkC] at hloc
  have hl := mlook_ent n ak
  rw [hx] at hl
  have hlk := look_some (z := .pointer none) V.map hl
  obtain ⟨H1, F1, e1, p1, u1⟩ := lk_drop (mp := mp) h42 h63 h n
  have V1 := LkV.of p1
  have hl1 := ld_at V1.loc
  simp only [lkC] at hl1
  have hmd := mdel_at (k := n) V1.map
  rw [mera_ent hu] at hmd
  obtain ⟨F2, p2, u2⟩ := lk_map p1 ((dropA ak n).map entC)
  have V2 := LkV.of p2
  have hl2 := ld_at V2.loc
  simp only [lkC] at hl2
  have hb2 := ld_at (V2.box a ha)
  simp only [askC] at hb2
  rw [← waitL_drop hu] at p2
  by_cases hp : s.proto = 3
  · by_cases hi : a.isIn = true
    · obtain ⟨t, c, ht, hc0, hcc, hc1⟩ := hc hp hi
      have hT : backT s a ts = ts.set t.cluster.toNat { c with cnt := c.cnt - 1 } := by simp [backT, hp, hi, ht, hcc]
      obtain ⟨H3, F3, e3, p3, u3⟩ := lk_back p2 (z := .agg #[]) hcc hc1
      obtain ⟨F4, p4, u4⟩ := lk_sub p3 (cs := dropA ak n) List.filter_sublist
      refine ⟨H3, F4, ?_, by rw [hT]; exact p4, ((u1.trans u2).trans u3).trans u4⟩
      have hnl := (List.getElem?_eq_some_iff.1 ht).1
      have hrd := V2.tasks.rd ht _ 4 (Ext.refl _) (by omega)
      simp only [taskC] at hrd
      have hch : L.chs[t.cluster.toNat]? = some c.id := by rw [← hid, List.getElem?_map, hcc]; rfl
      have hcl := (List.getElem?_eq_some_iff.1 hch).1
      have hrk := V2.toks.rd1 hch _ (Ext.refl _)
      simp only [chC] at hrk
      have i1 := V2.tasks.ia s.tc .i64 n
      rw [if_pos (by omega)] at i1
      have i2 := V2.toks.ia L.kc .i64 t.cluster
      rw [if_pos (by omega)] at i2
      have hnn : n.toNat = a.n := by omega
      rw [hnn] at i1
      rw [R_code hf]
      simp [m17, hloc, hlk, e1, hl1, hmd, hl2, hp, hb2, hi, mdraw_plain, i1, hrd, i2, hrk, e3]
    · have hT : backT s a ts = ts := by simp [backT, hi]
      obtain ⟨F4, p4, u4⟩ := lk_sub p2 (cs := dropA ak n) List.filter_sublist
      refine ⟨_, F4, ?_, by rw [hT]; exact p4, (u1.trans u2).trans u4⟩
      have hi : a.isIn = false := by simpa using hi
      rw [R_code hf]
      simp [m17, hloc, hlk, e1, hl1, hmd, hl2, hp, hb2, hi]
  · have hT : backT s a ts = ts := by simp [backT, hp]
    obtain ⟨F4, p4, u4⟩ := lk_sub p2 (cs := dropA ak n) List.filter_sublist
    refine ⟨_, F4, ?_, by rw [hT]; exact p4, (u1.trans u2).trans u4⟩
    rw [R_code hf]
    simp [m17, hloc, hlk, e1, hl1, hmd, hl2, hp]
end
end Go.Mod

/- Package text: a task's words. -/
import Derived.Test.YthpeamllfledkaaGreatDoorGs1
set_option linter.unusedVariables false
set_option linter.unusedSimpArgs false
namespace Go.Mod
open Go.Lib

theorem reads_18 (w : Bs) : (readsL w).2 = 18 ↔ nestL w = true := by
  unfold readsL
  split
  · rename_i h; simp [h]
  · rename_i h
    split <;> simp [h]
/-- The parts of words, if all are. -/
def tailL : List Bs → Option (List PartL)
  | [] => some []
  | x :: l => if (readsL x).2 = 0 then (tailL l).map ((readsL x).1 :: ·) else none
/-- A task, if the words are one. -/
def taskL (w : List Bs) : Option TaskL :=
  if w.length < 6 then none else
  match numsL ((w.drop 2).take 4) with
  | none => none
  | some n => match tailL (w.drop 6) with
    | none => none
    | some ps => some ⟨B (w.getD 1 []), n.getD 0 0, n.getD 1 0, n.getD 2 0, n.getD 3 0, none, 0, ps⟩
def badL (w : List Bs) : Int := if (w.drop 1).any nestL = true then 18 else 10
def TaskL.at (t : TaskL) (a : Option Addr) (c : Nat) : TaskL := { t with pa := a, pc := c }

section
variable {mp : FuncId → Option MDef} {H : MH}
theorem nested_loop {t : TypeId} (P : TxP mp t) {ws : List Bs} (hws : ∀ w ∈ ws, w.length ≤ 100000) (hlen : ws.length ≤ 100001) {sa : Option Addr} {sn sc : Nat} :
    ∀ (k i : Nat) (H : MH), i + k = ws.length → Row 1 H (.slice sa sn sc) (sv ws) →
    (((ws.drop i).any nestL = true ∧ ∃ H', Rc mp (.loop m41_0) [(7, .slice sa sn sc), (8, .int .i64 (sn : Int)), (9, .int .i64 (i : Int))] H = some (.ret, [(2, .bool true)], H') ∧ Ext H H') ∨
     ((ws.drop i).any nestL = false ∧ ∃ H', Rc mp (.loop m41_0) [(7, .slice sa sn sc), (8, .int .i64 (sn : Int)), (9, .int .i64 (i : Int))] H = some (.exit 0, [(7, .slice sa sn sc), (8, .int .i64 (sn : Int)), (9, .int .i64 (sn : Int)), (10, .bool false)], H') ∧ Ext H H')) := by
  intro k
  induction k with
  | zero =>
    intro i H hi hr
    have hn := hr.svn
    have : i = ws.length := by omega
    subst this
    refine .inr ⟨by rw [List.drop_length]; rfl, H, ?_, Ext.refl _⟩
    rw [Rc_loop]
    simp [m41_0, hn]
  | succ k ih =>
    intro i H hi hr
    have hn := hr.svn
    have hil : i < ws.length := by omega
    have hil' : i < sn := by omega
    have hdrop : ws.drop i = ws[i] :: ws.drop (i + 1) := List.drop_eq_getElem_cons hil
    obtain ⟨b, o, j, cs, rfl, hB, hat⟩ := hr.sv (List.getElem?_eq_getElem hil)
    have hld := ld_at hB (o + i)
    rw [hat] at hld
    have hxl : ws[i].length ≤ 100000 := hws _ (List.getElem_mem hil)
    have w : IntKind.i64.wrap ((i : Int) + 1) = (i : Int) + 1 := wrap_i64 (by omega) (by omega)
    generalize ws[i] = x at hat hdrop hld hxl
    obtain ⟨H1, q1, x1⟩ := R_reads (H := H) P (w := x) hxl
    have h18 := reads_18 x
    have hset : ∀ o, (H1 ++ [MObj.cells ⟨0, true, false⟩ [.int .i64 0, .int .i64 0, .int .i64 0]]).set H1.length o = H1 ++ [o] := fun o => by simp
    have e1 : ∀ o, Ext H (H1 ++ [o]) := fun o => x1.trans ⟨[o], rfl⟩
    rw [hdrop, List.any_cons]
    generalize readsL x = pe at q1 h18
    obtain ⟨p, e⟩ := pe
    simp only [] at q1 h18
    by_cases h : nestL x = true
    · have he := h18.2 h
      subst he
      refine .inl ⟨by rw [h]; rfl, H1 ++ [.cells ⟨0, true, false⟩ (partC p)], ?_, e1 _⟩
      rw [Rc_loop]
      simp [m41_0, hil', hld, w, q1, stx, partC]
    · have he : ¬ e = 18 := fun h' => h (h18.1 h')
      have hf : nestL x = false := by simpa using h
      rw [hf, Bool.false_or]
      rcases ih (i + 1) (H1 ++ [.cells ⟨0, true, false⟩ (partC p)]) (by omega) (row_ext' hr (e1 _)) with ⟨g1, H', g2, g3⟩ | ⟨g1, H', g2, g3⟩
      · refine .inl ⟨g1, H', ?_, (e1 _).trans g3⟩
        rw [Rc_loop]
        simp [m41_0, hil', hld, w, q1, stx, partC, he]
        simp [partC] at g2
        exact g2
      · refine .inr ⟨g1, H', ?_, (e1 _).trans g3⟩
        rw [Rc_loop]
        simp [m41_0, hil', hld, w, q1, stx, partC, he]
        simp [partC] at g2
        exact g2
theorem R_nested {t : TypeId} (P : TxP mp t) {ws : List Bs} (hws : ∀ w ∈ ws, w.length ≤ 100000) (hlen : ws.length ≤ 100001) {sa : Option Addr} {sn sc : Nat} (hr : Row 1 H (.slice sa sn sc) (sv ws)) :
    ∃ H', R mp 41 [.slice sa sn sc] H = some (.bool (ws.any nestL), H') ∧ Ext H H' := by
  rcases nested_loop P hws hlen ws.length 0 H (by omega) hr with ⟨h1, H', h2, h3⟩ | ⟨h1, H', h2, h3⟩
  all_goals
    rw [List.drop_zero] at h1
    rw [h1]
    simp at h2
    refine ⟨H', ?_, h3⟩
    rw [R_code P.i]
    simp [m41, h2]

theorem set_id {b : Nat} {o : MObj} (h : H[b]? = some o) : H.set b o = H := by
  apply List.ext_getElem?
  intro k
  by_cases hk : b = k
  · subst hk; rw [List.getElem?_set_self (List.getElem?_eq_some_iff.1 h).1, h]
  · rw [List.getElem?_set_ne hk]
theorem parts_len (l : List PartL) : (l.flatMap partC).length = l.length * 3 := flat_len fun x hx => rfl
theorem parts_one (l : List PartL) : (l.flatMap partC).all one = true := by
  induction l with
  | nil => rfl
  | cons p l ih => rw [List.flatMap_cons, List.all_append, ih]; rfl
def zTask : MObj := .cells ⟨0, true, false⟩ [.string ⟨#[]⟩, .int .i64 0, .int .i64 0, .int .i64 0, .int .i64 0, .slice none 0 0]
def TkA (b : Nat) (nm : ByteArray) (p d q cl : Int) (v : Value) (out : List PartL) : HP := Pt b ⟨0, true, false⟩ [.string nm, .int .i64 p, .int .i64 d, .int .i64 q, .int .i64 cl, v] * OwnA 3 v (out.flatMap partC)
theorem tasked_loop {t : TypeId} (P : TxP mp t) {ws : List Bs} (hws : ∀ w ∈ ws, w.length ≤ 100000) (hlen : ws.length ≤ 100001) {sa : Option Addr} {sn sc : Nat} {b2 b7 : Nat} {nm : ByteArray} {p d q cl bad : Int} :
    ∀ (k i : Nat) (H : MH) (G : List Nat) (out : List PartL) (v : Value), i + k = ws.length → out.length ≤ i → Stay 1 (.slice sa sn sc) (sv ws) H G → TkA b7 nm p d q cl v out H G → H[b2]? = some zTask → b2 ∉ G →
    (∃ ps, tailL (ws.drop i) = some ps ∧ ∃ (H' : MH) (G' : List Nat) (v' : Value), Rc mp (.loop m19_0) [(2, .pointer (some ⟨b2, 0, none⟩)), (4, .int .i64 bad), (7, .pointer (some ⟨b7, 0, none⟩)), (47, .slice sa sn sc), (48, .int .i64 (sn : Int)), (49, .int .i64 (i : Int))] H =
        some (.exit 0, [(2, .pointer (some ⟨b2, 0, none⟩)), (4, .int .i64 bad), (7, .pointer (some ⟨b7, 0, none⟩)), (47, .slice sa sn sc), (48, .int .i64 (sn : Int)), (49, .int .i64 (sn : Int)), (50, .bool false)], H') ∧ TkA b7 nm p d q cl v' (out ++ ps) H' G' ∧ Upd H G H' G') ∨
    (tailL (ws.drop i) = none ∧ ∃ (H' : MH) (G' : List Nat), Rc mp (.loop m19_0) [(2, .pointer (some ⟨b2, 0, none⟩)), (4, .int .i64 bad), (7, .pointer (some ⟨b7, 0, none⟩)), (47, .slice sa sn sc), (48, .int .i64 (sn : Int)), (49, .int .i64 (i : Int))] H =
        some (.ret, [(2, .pointer (some ⟨b2, 0, none⟩)), (3, .int .i64 bad)], H') ∧ Upd H G H' G') := by
  intro k
  induction k with
  | zero =>
    intro i H G out v hi ho hS hT hz hb
    have hn := hS.1.svn
    have : i = ws.length := by omega
    subst this
    refine .inl ⟨[], by rw [List.drop_length]; rfl, H, G, v, ?_, by simpa using hT, Upd.refl _ _⟩
    rw [Rc_loop]
    simp [m19_0, hn]
  | succ k ih =>
    intro i H G out v hi ho hS hT hz hb
    have hn := hS.1.svn
    have hil : i < ws.length := by omega
    have hil' : i < sn := by omega
    have hdrop : ws.drop i = ws[i] :: ws.drop (i + 1) := List.drop_eq_getElem_cons hil
    obtain ⟨b, o, j, cs, rfl, hB, hat⟩ := hS.1.sv (List.getElem?_eq_getElem hil)
    have hld := ld_at hB (o + i)
    rw [hat] at hld
    have hxl : ws[i].length ≤ 100000 := hws _ (List.getElem_mem hil)
    have w : IntKind.i64.wrap ((i : Int) + 1) = (i : Int) + 1 := wrap_i64 (by omega) (by omega)
    generalize ws[i] = x at hat hdrop hld hxl
    obtain ⟨H1, q1, x1⟩ := R_reads (H := H) P (w := x) hxl
    rw [hdrop]
    unfold tailL
    generalize readsL x = pe at q1
    obtain ⟨⟨pk, pl, pr⟩, e⟩ := pe
    simp only [partC] at q1
    have e1 : Ext H (H1 ++ [.cells ⟨0, true, false⟩ [.int .i64 pk, .int .i64 pl, .int .i64 pr]]) := x1.trans ⟨[_], rfl⟩
    have u1 := Upd.ext (F := G) e1
    have hz1 : (H1 ++ [MObj.cells ⟨0, true, false⟩ [.int .i64 pk, .int .i64 pl, .int .i64 pr]])[b2]? = some zTask := e1.get hz
    have hzs := set_id hz1
    unfold zTask at hzs hz1
    by_cases he : e = 0
    · subst he
      rw [if_pos rfl]
      have hT1 : TkA b7 nm p d q cl v out (H1 ++ [.cells ⟨0, true, false⟩ [.int .i64 pk, .int .i64 pl, .int .i64 pr]]) G := (Pt.good.star OwnA.good).ext hT e1
      have hP1 : (H1 ++ [MObj.cells ⟨0, true, false⟩ [.int .i64 pk, .int .i64 pl, .int .i64 pr]])[b7]? = some (.cells ⟨0, true, false⟩ [.string nm, .int .i64 p, .int .i64 d, .int .i64 q, .int .i64 cl, v]) := star_at hT1
      have hv1 : isUnk v = false := by
        obtain ⟨A, C, h1, h2, _⟩ := hT1
        rcases h2 with ⟨rfl, _⟩ | ⟨bb, nn, cc, cs', rfl, _⟩ <;> rfl
      obtain ⟨v', H2, H3, G3, a1, a2, a3, a4⟩ := push_fld (k := 5) (bytes := 24) hT1 rfl (by simp) (parts_one out) (xs := [.int .i64 pk, .int .i64 pl, .int .i64 pr]) rfl rfl (by omega) (by rw [parts_len]; omega) (by omega)
      have a3' : TkA b7 nm p d q cl v' (out ++ [⟨pk, pl, pr⟩]) H3 G3 := by
        unfold TkA
        rw [List.flatMap_append]
        simpa [partC] using a3
      have hb3 : b2 ∉ G3 := fun h => by
        rcases a4.new _ h with h | h
        · exact hb h
        · have := (List.getElem?_eq_some_iff.1 hz1).1; omega
      have hld5 := ld_at hP1 5
      simp at a1
      rcases ih (i + 1) H3 G3 (out ++ [⟨pk, pl, pr⟩]) v' (by omega) (by simp; omega) ((hS.upd u1).upd a4) a3' (a4.get hz1 hb) hb3 with ⟨ps, h1, H', G', v'', h2, h3, h4⟩ | ⟨h1, H', G', h2, h4⟩
      · refine .inl ⟨⟨pk, pl, pr⟩ :: ps, by rw [h1]; rfl, H', G', v'', ?_, by simpa using h3, u1.trans (a4.trans h4)⟩
        rw [Rc_loop]
        simp [m19_0, hil', hld, w, q1, stx, ldnx, hld5, hv1, a1, a2]
        exact h2
      · refine .inr ⟨by rw [h1]; rfl, H', G', ?_, u1.trans (a4.trans h4)⟩
        rw [Rc_loop]
        simp [m19_0, hil', hld, w, q1, stx, ldnx, hld5, hv1, a1, a2]
        exact h2
    · rw [if_neg he]
      refine .inr ⟨rfl, H1 ++ [.cells ⟨0, true, false⟩ [.int .i64 pk, .int .i64 pl, .int .i64 pr]], G, ?_, u1⟩
      rw [Rc_loop]
      simp [m19_0, hil', hld, w, q1, stx, he, hz1, hzs]
end
end Go.Mod
/- Package text: a task read. -/
set_option linter.unusedVariables false
set_option linter.unusedSimpArgs false
namespace Go.Mod
open Go.Lib

theorem numsL_len : ∀ {w : List Bs} {ns : List Int}, numsL w = some ns → ns.length = w.length
  | [], ns, h => by cases h; rfl
  | x :: l, ns, h => by
    unfold numsL at h
    split at h <;> first | contradiction | skip
    rename_i n m h1 h2
    cases h
    simp [numsL_len h2]
theorem tailL_len : ∀ {w : List Bs} {ps : List PartL}, tailL w = some ps → ps.length = w.length
  | [], ps, h => by cases h; rfl
  | x :: l, ps, h => by
    unfold tailL at h
    split at h <;> first | contradiction | skip
    obtain ⟨m, hm, rfl⟩ := Option.map_eq_some_iff.1 h
    simp [tailL_len hm]
section
variable {mp : FuncId → Option MDef} {H : MH}
theorem row_mid {ws : List Value} {a : Option Addr} {n c : Nat} (h : Row 1 H (.slice a n c) ws) {k m : Nat} (hk : k ≤ m) (hm : m ≤ n) (h0 : 0 < n) : ∃ a' n' c', mread (.sl 1 true true false) [.slice a n c, .int .i64 (k : Int), .int .i64 (m : Int)] H = some (.slice a' n' c') ∧ Row 1 H (.slice a' n' c') ((ws.drop k).take (m - k)) := by
  rcases h with ⟨h1, h2⟩ | ⟨b, o, m', d, i, cs, h1, h2, h3, h4, h5, h6⟩
  · cases h1; omega
  · cases h1
    have hs := sl_at h3 h4 true true false o n c [.int .i64 (k : Int), .int .i64 (m : Int)]
    refine ⟨some ⟨b, o + k, none⟩, m - k, c - k, ?_, .inr ⟨b, o + k, m - k, c - k, i, cs, rfl, by omega, h3, h4, by omega, ?_⟩⟩
    · rw [hs]
      have e1 : (0 : Int) ≤ (k : Int) := by omega
      have e2 : (k : Int) ≤ (m : Int) := by omega
      have e3 : (m : Int) ≤ (c : Int) := by omega
      simp only [slBound, e1, e2, e3, and_self, if_true, Option.map_some, Int.toNat_natCast, Nat.mul_one]
    · rw [← h6, List.drop_take, List.take_take, List.drop_drop]
      congr 1; omega
theorem row_dropE {ws : List Value} {a : Option Addr} {n c : Nat} (h : Row 1 H (.slice a n c) ws) {k : Nat} (hk : k ≤ n) : ∃ a' n' c', (∀ H1, Ext H H1 → mread (.sl 1 true false false) [.slice a n c, .int .i64 (k : Int)] H1 = some (.slice a' n' c')) ∧ Row 1 H (.slice a' n' c') (ws.drop k) := by
  obtain ⟨a', n', c', h1, h2⟩ := row_drop h hk
  refine ⟨a', n', c', fun H1 e => ?_, h2⟩
  obtain ⟨a2, n2, c2, g1, g2⟩ := row_drop (row_ext' h e) hk
  rw [g1]
  rcases h with ⟨h3, _⟩ | ⟨b, o, m, d, i, cs, h3, h4, h5, h6, h7, h8⟩
  · cases h3
    have : k = 0 := by omega
    subst this
    have e1 : mread (.sl 1 true false false) [.slice none 0 0, .int .i64 ((0 : Nat) : Int)] H = some (.slice none 0 0) := rfl
    have e2 : mread (.sl 1 true false false) [.slice none 0 0, .int .i64 ((0 : Nat) : Int)] H1 = some (.slice none 0 0) := rfl
    rw [e1] at h1; rw [e2] at g1
    rw [← h1, ← g1]
  · cases h3
    have s1 := sl_at h5 h6 true false false o n c [.int .i64 (k : Int)]
    have s2 := sl_at (e.get h5) h6 true false false o n c [.int .i64 (k : Int)]
    rw [s1] at h1
    rw [s2] at g1
    exact g1.symm.trans h1
theorem stay_ext {es : Nat} {H1 : MH} {v : Value} {l : List Value} {G : List Nat} (h : Row es H v l) (e : Ext H H1) (hG : ∀ id ∈ G, H.length ≤ id) : Stay es v l H1 G := by
  refine ⟨row_ext' h e, fun b o n c hv hb => ?_⟩
  have := hG b hb
  rcases h with ⟨h3, _⟩ | ⟨b', o', m, d, i, cs, h3, h4, h5, _⟩
  · rw [h3] at hv; cases hv
  · rw [h3] at hv; cases hv
    have := (List.getElem?_eq_some_iff.1 h5).1
    omega
theorem R_tasked {t : TypeId} (P : TxP mp t) (hf : mp 19 = some (.code m19)) {ws : List Bs} (hws : ∀ w ∈ ws, w.length ≤ 100000) (hne : ws ≠ []) (hlen : ws.length ≤ 100001) {sa : Option Addr} {sn sc : Nat} (hr : Row 1 H (.slice sa sn sc) (sv ws)) :
    ∃ H', Ext H H' ∧ ((taskL ws = none ∧ R mp 19 [.slice sa sn sc] H = some (.tuple #[.agg #[.string ⟨#[]⟩, .int .i64 0, .int .i64 0, .int .i64 0, .int .i64 0, .slice none 0 0], .int .i64 (badL ws)], H')) ∨
      ∃ tk a c, taskL ws = some tk ∧ R mp 19 [.slice sa sn sc] H = some (.tuple #[.agg (taskC (tk.at a c)).toArray, .int .i64 0], H') ∧ RowG 3 H' a tk.parts partC ∧ tk.parts.length ≤ 100001) := by
  have hn := hr.svn
  have hpos : 0 < ws.length := List.length_pos_iff.2 hne
  have e0 : Ext H (H ++ [zTask]) := ⟨_, rfl⟩
  have hr0 := row_ext' hr e0
  obtain ⟨a1, n1, c1, q1, r1⟩ := row_drop hr0 (k := 1) (by omega)
  have r1' : Row 1 (H ++ [zTask]) (.slice a1 n1 c1) (sv (ws.drop 1)) := by simpa [sv, List.map_drop] using r1
  obtain ⟨H1, g1, x1⟩ := R_nested P (fun x hx => hws x (List.mem_of_mem_drop hx)) (by simp; omega) r1'
  have hz1 : H1[H.length]? = some zTask := x1.get (by simp)
  have hE1 := e0.trans x1
  have hzs := set_id hz1
  have hr1 := row_ext' hr hE1
  have q1' : mread (.sl 1 true false false) [.slice sa sn sc, .int .i64 1] (H ++ [zTask]) = some (.slice a1 n1 c1) := q1
  unfold zTask at q1' g1 hz1 hzs
  have hbad : badL ws = if (ws.drop 1).any nestL = true then 18 else 10 := rfl
  generalize hany : (ws.drop 1).any nestL = nb at g1 hbad
  unfold taskL
  by_cases h6 : ws.length < 6
  · rw [if_pos h6]
    have h6' : (sn : Int) < 6 := by omega
    refine ⟨H1, hE1, .inl ⟨rfl, ?_⟩⟩
    rw [R_code hf, hbad]
    cases nb with
    | false => simp [m19, q1', g1, h6', stx, ldnx, hz1, hzs]
    | true => simp [m19, q1', g1, h6', stx, ldnx, hz1, hzs]
  · rw [if_neg h6]
    have h6' : ¬ (sn : Int) < 6 := by omega
    obtain ⟨a2, n2, c2, q2, r2⟩ := row_mid hr1 (k := 2) (m := 6) (by omega) (by omega) (by omega)
    have q2' : mread (.sl 1 true true false) [.slice sa sn sc, .int .i64 2, .int .i64 6] H1 = some (.slice a2 n2 c2) := q2
    have r2' : Row 1 H1 (.slice a2 n2 c2) (sv ((ws.drop 2).take 4)) := by simpa [sv, List.map_drop, List.map_take] using r2
    obtain ⟨a3, n3, cLACK3, H2, g3, x3, r3⟩ := R_nums P.g P.a P.b P.c (ws := (ws.drop 2).take 4) (fun x hx => hws x (List.mem_of_mem_drop (List.mem_of_mem_take hx))) (by simp; omega) r2'
    have hE2 := hE1.trans x3
    have hz2 := x3.get hz1
    have hzs2 := set_id hz2
    cases hq : numsL ((ws.drop 2).take 4) with
    | none =>
      rw [hq] at g3
      refine ⟨H2, hE2, .inl ⟨rfl, ?_⟩⟩
      rw [R_code hf, hbad]
      cases nb with
      | false => simp [m19, q1', g1, h6', q2', g3, stx, ldnx, hz2, hzs2]
      | true => simp [m19, q1', g1, h6', q2', g3, stx, ldnx, hz2, hzs2]
    | some ns =>
      have hl4 := numsL_len hq
      rw [hq] at g3 r3
      obtain ⟨x0, x1', x2, x3', rfl⟩ : ∃ p q r s, ns = [p, q, r, s] := by
        have : ns.length = 4 := by rw [hl4]; simp; omega
        match ns, this with
        | [p, q, r, s], _ => exact ⟨p, q, r, s, rfl⟩
      simp only [Option.getD_some, Option.isSome_some] at g3 r3
      have hn3 := row_len r3
      simp [i64s_len] at hn3
      subst hn3
      have e3 : ∀ o, Ext H2 (H2 ++ [o]) := fun o => ⟨[o], rfl⟩
      obtain ⟨b1, o1, rfl, l1, _⟩ := row_get (row_ext' r3 (e3 .dead)) (k := 0) (x := .int .i64 x0) rfl
      rw [Nat.add_zero] at l1
      obtain ⟨b1', o1', e1', l2, _⟩ := row_get (row_ext' r3 (e3 .dead)) (k := 1) (x := .int .i64 x1') rfl
      cases e1'
      obtain ⟨b1', o1', e1', l3, _⟩ := row_get (row_ext' r3 (e3 .dead)) (k := 2) (x := .int .i64 x2) rfl
      cases e1'
      obtain ⟨b1', o1', e1', l4, _⟩ := row_get (row_ext' r3 (e3 .dead)) (k := 3) (x := .int .i64 x3') rfl
      cases e1'
      have hr2 := row_ext' hr1 x3
      have hw1 : ws[1]? = some (ws.getD 1 []) := by rw [List.getD_eq_getElem?_getD, List.getElem?_eq_getElem (by omega)]; rfl
      obtain ⟨b4, o4, rfl, l5, _⟩ := row_get (row_ext' hr2 (e3 .dead)) (k := 1) (x := .string (B (ws.getD 1 []))) (by simp only [sv, List.getElem?_map, hw1]; rfl)
      generalize ws.getD 1 [] = nm at l5
      have hin : (1 : Int) < (sn : Int) := by omega
      -- the task's box
      obtain ⟨a6, n6, cLACK6, q6, r6⟩ := row_dropE hr2 (k := 6) (by omega)
      have q6' : mread (.sl 1 true false false) [.slice (some ⟨b4, o4, none⟩) sn sc, .int .i64 6] (H2 ++ [.cells ⟨0, true, false⟩ [.string (B nm), .int .i64 x0, .int .i64 x1', .int .i64 x2, .int .i64 x3', .slice none 0 0]]) = some (.slice a6 n6 cLACK6) := q6 _ (e3 _)
      have r6' : Row 1 H2 (.slice a6 n6 cLACK6) (sv (ws.drop 6)) := by simpa [sv, List.map_drop] using r6
      have hTk : TkA H2.length (B nm) x0 x1' x2 x3' (.slice none 0 0) [] (H2 ++ [.cells ⟨0, true, false⟩ [.string (B nm), .int .i64 x0, .int .i64 x1', .int .i64 x2, .int .i64 x3', .slice none 0 0]]) [H2.length] :=
        ⟨[H2.length], [], ⟨rfl, by simp⟩, .inl ⟨rfl, rfl, rfl⟩, by simp, by simp⟩
      have hlt2 : H.length < H2.length := (List.getElem?_eq_some_iff.1 hz2).1
      have hb3 : (H2 ++ [MObj.cells ⟨0, true, false⟩ [.string (B nm), .int .i64 x0, .int .i64 x1', .int .i64 x2, .int .i64 x3', .slice none 0 0]])[H2.length]? = some (.cells ⟨0, true, false⟩ [.string (B nm), .int .i64 x0, .int .i64 x1', .int .i64 x2, .int .i64 x3', .slice none 0 0]) := by simp
      rcases tasked_loop P (ws := ws.drop 6) (bad := badL ws) (b2 := H.length) (fun x hx => hws x (List.mem_of_mem_drop hx)) (by simp; omega) (ws.drop 6).length 0 _ [H2.length] [] (.slice none 0 0) (by omega) (by simp) (stay_ext r6' (e3 _) (by simp)) hTk ((e3 _).get hz2) (by simp; omega) with ⟨ps, h1, H', G', v', h2, h3, h4⟩ | ⟨h1, H', G', h2, h4⟩
      · rw [List.drop_zero] at h1
        rw [h1]
        have hE4 : Ext H2 H' := by
          have u : Upd H2 [] H' G' := ⟨Nat.le_trans (by simp) h4.len, fun id hid _ => by
            have := h4.same id (by simp; omega) (by simp; omega)
            rw [this, List.getElem?_append_left hid], fun id hid => by
            rcases h4.new id hid with h | h
            · simp at h; exact .inr (by omega)
            · simp at h; exact .inr (by omega)⟩
          exact u.toExt.1
        obtain ⟨A, C, hA, hC, hAC, hG⟩ := h3
        have hbox : H'[H2.length]? = some (.cells ⟨0, true, false⟩ [.string (B nm), .int .i64 x0, .int .i64 x1', .int .i64 x2, .int .i64 x3', v']) := hA.2
        have hrow := Own.row hC
        simp only [List.nil_append] at hrow
        obtain ⟨a7, n7, cLACK7, rfl, hl7⟩ := hrow.slice
        rw [parts_len] at hl7
        obtain ⟨hg, hgn⟩ := RowG.of hrow (by omega) fun x hx => ⟨rfl, rfl⟩
        have hz3 := hE4.get hz2
        have hset : ∀ o, (H'.set H.length o)[H.length]? = some o := fun o => List.getElem?_set_self (List.getElem?_eq_some_iff.1 hz3).1
        have hpl : ps.length ≤ 100001 := by have := tailL_len h1; simp at this; omega
        subst hgn
        refine ⟨H'.set H.length (.cells ⟨0, true, false⟩ [.string (B nm), .int .i64 x0, .int .i64 x1', .int .i64 x2, .int .i64 x3', .slice a7 ps.length cLACK7]), ext_set (hE2.trans hE4) (Nat.le_refl _), .inr ⟨_, a7, cLACK7, rfl, ?_, ?_, hpl⟩⟩
        · simp at h2
          rw [R_code hf]
          have hbad' := hbad
          cases nb with
          | false =>
            rw [if_neg (by decide)] at hbad'
            rw [hbad'] at h2
            simp [m19, q1', g1, h6', q2', g3, l1, l2, l3, l4, l5, hin, mdraw_full, stx, ldnx, hb3, q6', h2, hbox, hz3, hset, TaskL.at, taskC]
          | true =>
            rw [if_pos rfl] at hbad'
            rw [hbad'] at h2
            simp [m19, q1', g1, h6', q2', g3, l1, l2, l3, l4, l5, hin, mdraw_full, stx, ldnx, hb3, q6', h2, hbox, hz3, hset, TaskL.at, taskC]
        · have hrow2 : Row 3 (H'.set H.length (.cells ⟨0, true, false⟩ [.string (B nm), .int .i64 x0, .int .i64 x1', .int .i64 x2, .int .i64 x3', .slice a7 ps.length cLACK7])) (.slice a7 ps.length cLACK7) (ps.flatMap partC) := by
            refine Row.frame (Own.row hC) fun b o n c e => ?_
            rw [List.getElem?_set_ne]
            intro hbe
            rcases hC with ⟨h8, _⟩ | ⟨b', n', c', cs', h8, _, _, _, _, h9⟩
            · rw [e] at h8; cases h8
            · rw [e] at h8; cases h8
              have hbG : b ∈ G' := (hG b).2 (.inr (by rw [h9]; simp))
              rcases h4.new b hbG with h | h
              · simp at h; omega
              · simp at h; omega
          exact (RowG.of hrow2 (by omega) fun x hx => ⟨rfl, rfl⟩).1
      · rw [List.drop_zero] at h1
        rw [h1]
        have hE4 : Ext H2 H' := by
          have u : Upd H2 [] H' G' := ⟨Nat.le_trans (by simp) h4.len, fun id hid _ => by
            have := h4.same id (by simp; omega) (by simp; omega)
            rw [this, List.getElem?_append_left hid], fun id hid => by
            rcases h4.new id hid with h | h
            · simp at h; exact .inr (by omega)
            · simp at h; exact .inr (by omega)⟩
          exact u.toExt.1
        have hz3 := hE4.get hz2
        refine ⟨H', hE2.trans hE4, .inl ⟨rfl, ?_⟩⟩
        simp at h2
        rw [R_code hf]
        have hbad' := hbad
        cases nb with
        | false =>
          rw [if_neg (by decide)] at hbad'
          rw [hbad'] at h2 ⊢
          simp [m19, q1', g1, h6', q2', g3, l1, l2, l3, l4, l5, hin, mdraw_full, stx, ldnx, hb3, q6', h2, hz3]
        | true =>
          rw [if_pos rfl] at hbad'
          rw [hbad'] at h2 ⊢
          simp [m19, q1', g1, h6', q2', g3, l1, l2, l3, l4, l5, hin, mdraw_full, stx, ldnx, hb3, q6', h2, hz3]
end
end Go.Mod
/- Package text: the lines that have words. -/
set_option linter.unusedVariables false
set_option linter.unusedSimpArgs false
namespace Go.Mod
open Go.Lib

/-! ### what stays, by the size of an element -/
def KeepP (p : Nat → Prop) (H H' : MH) : Prop := ∀ (b : Nat) i cs, H[b]? = some (.cells i cs) → p i.es → H'[b]? = some (.cells i cs)
section
variable {p : Nat → Prop} {H H1 H2 : MH} {G G' : List Nat}
theorem KeepP.refl : KeepP p H H := fun _ _ _ h _ => h
theorem KeepP.trans (h : KeepP p H H1) (g : KeepP p H1 H2) : KeepP p H H2 := fun b i cs a c => g b i cs (h b i cs a c) c
theorem KeepP.ext (e : Ext H H1) : KeepP p H H1 := fun b i cs a _ => e.get a
theorem KeepP.upd (u : Upd H G H1 G') (hG : ∀ id ∈ G, ∀ i cs, H[id]? = some (.cells i cs) → ¬ p i.es) : KeepP p H H1 := fun b i cs a c => by
  have : b ∉ G := fun hb => hG b hb i cs a c
  exact u.get a this
theorem Row.keepP {es : Nat} {v : Value} {l : List Value} (h : Row es H v l) (k : KeepP p H H1) (hp : p es) : Row es H1 v l := h.keep fun b i cs a e => k b i cs a (e ▸ hp)
theorem own_es {es : Nat} {v : Value} {l : List Value} (h : OwnA es v l H G) : ∀ id ∈ G, ∀ i cs, H[id]? = some (.cells i cs) → i.es = es := by
  intro id hid i cs hi
  rcases h with ⟨_, _, rfl⟩ | ⟨b, n, c, cs', _, _, h3, _, _, rfl⟩
  · cases hid
  · simp at hid; subst hid; rw [h3] at hi; cases hi; rfl
end

/-- A line that has words, and where they lie. -/
structure RwL where
  at_ : Nat
  w : List Bs
  wa : Option Addr
  wc : Nat
def rwC (r : RwL) : List Value := [.int .i64 (r.at_ : Int), .slice r.wa r.w.length r.wc]
def rowsL : Nat → List Bs → List (Nat × List Bs)
  | _, [] => []
  | i, s :: l => if wordsOf s = [] then rowsL (i + 1) l else (i, wordsOf s) :: rowsL (i + 1) l
def RwL.plain (r : RwL) : Nat × List Bs := (r.at_, r.w)
def WordsAt (H : MH) (rs : List RwL) : Prop := ∀ r ∈ rs, Row 1 H (.slice r.wa r.w.length r.wc) (sv r.w)
theorem rw_len (l : List RwL) : (l.flatMap rwC).length = l.length * 2 := flat_len fun x hx => rfl
theorem rw_one (l : List RwL) : (l.flatMap rwC).all one = true := by
  induction l with
  | nil => rfl
  | cons p l ih => rw [List.flatMap_cons, List.all_append, ih]; rfl

section
variable {mp : FuncId → Option MDef} {H : MH}
theorem rows_loop (h18 : mp 39 = some (.code m39)) (h32 : mp 38 = some (.intr splitS)) (h34 : mp 54 = some (.intr (scalS cutG))) {ls : List Bs} (hls : ∀ w ∈ ls, w.length ≤ 100000) (hlen : ls.length ≤ 100001) {sa : Option Addr} {sn sc : Nat} :
    ∀ (k i : Nat) (H : MH) (G : List Nat) (out : List RwL) (a : Option Addr) (n c : Nat), i + k = ls.length → out.length ≤ i → Row 1 H (.slice sa sn sc) (sv ls) → OwnA 2 (.slice a n c) (out.flatMap rwC) H G → WordsAt H out →
    ∃ (H' : MH) (G' : List Nat) (rs : List RwL) (a' : Option Addr) (n' c' : Nat), Rc mp (.loop m16_0) [(3, .slice a n c), (7, .slice sa sn sc), (8, .int .i64 (sn : Int)), (9, .int .i64 (i : Int))] H =
        some (.exit 0, [(3, .slice a' n' c'), (7, .slice sa sn sc), (8, .int .i64 (sn : Int)), (9, .int .i64 (sn : Int)), (10, .bool false)], H') ∧ rs.map RwL.plain = rowsL i (ls.drop i) ∧ OwnA 2 (.slice a' n' c') ((out ++ rs).flatMap rwC) H' G' ∧ WordsAt H' (out ++ rs) ∧ Upd H G H' G' := by
  intro k
  induction k with
  | zero =>
    intro i H G out a n c hi ho hr hO hW
    have hn := hr.svn
    have : i = ls.length := by omega
    subst this
    refine ⟨H, G, [], a, n, c, ?_, by rw [List.drop_length]; rfl, by simpa using hO, by simpa using hW, Upd.refl _ _⟩
    rw [Rc_loop]
    simp [m16_0, hn]
  | succ k ih =>
    intro i H G out a n c hi ho hr hO hW
    have hn := hr.svn
    have hil : i < ls.length := by omega
    have hil' : i < sn := by omega
    have hdrop : ls.drop i = ls[i] :: ls.drop (i + 1) := List.drop_eq_getElem_cons hil
    obtain ⟨b, o, j, cs, rfl, hB, hat⟩ := hr.sv (List.getElem?_eq_getElem hil)
    have hld := ld_at hB (o + i)
    rw [hat] at hld
    have hxl : ls[i].length ≤ 100000 := hls _ (List.getElem_mem hil)
    have w : IntKind.i64.wrap ((i : Int) + 1) = (i : Int) + 1 := wrap_i64 (by omega) (by omega)
    generalize ls[i] = x at hat hdrop hld hxl
    obtain ⟨a1, n1, c1, H1, q1, r1, x1⟩ := R_words (H := H) h18 h32 h34 (l := x) hxl
    have hn1 := r1.svn
    rw [hdrop]
    unfold rowsL
    generalize wordsOf x = ws at r1 hn1
    by_cases hws : ws = []
    · subst hws
      simp at hn1
      subst hn1
      obtain ⟨H', G', rs, a', n', c', h1, h2, h3, h4, h5⟩ := ih (i + 1) H1 G out a n c (by omega) (by omega) (row_ext' hr x1) (OwnA.good.ext hO x1) (fun r hr => row_ext' (hW r hr) x1)
      refine ⟨H', G', rs, a', n', c', ?_, by rw [if_pos rfl]; exact h2, h3, h4, (Upd.ext x1).trans h5⟩
      rw [Rc_loop]
      simp [m16_0, hil', hld, w, q1]
      exact h1
    · have hn0 : ¬ n1 = 0 := by rw [hn1]; simpa using hws
      subst hn1
      obtain ⟨a2, n2, c2, H2, G2, e2, o2, u2⟩ := own_push1 (bytes := 32) (OwnA.good.ext hO x1) (rw_one out) (xs := [.int .i64 (i : Int), .slice a1 ws.length c1]) rfl rfl (by omega) (by rw [rw_len]; omega) (by omega)
      have k2 : KeepP (fun e => e = 1) H1 H2 := KeepP.upd u2 fun id hid i cs h => by rw [own_es (OwnA.good.ext hO x1) id hid i cs h]; decide
      have o2' : OwnA 2 (.slice a2 n2 c2) ((out ++ [RwL.mk i ws a1 c1]).flatMap rwC) H2 G2 := by
        rw [List.flatMap_append]; simpa [rwC] using o2
      have hW2 : WordsAt H2 (out ++ [RwL.mk i ws a1 c1]) := fun r hr' => by
        rcases List.mem_append.1 hr' with h | h
        · exact Row.keepP (row_ext' (hW r h) x1) k2 rfl
        · simp at h; subst h; exact Row.keepP r1 k2 rfl
      obtain ⟨H', G', rs, a', n', c', h1, h2, h3, h4, h5⟩ := ih (i + 1) H2 G2 (out ++ [RwL.mk i ws a1 c1]) a2 n2 c2 (by omega) (by simp; omega) (Row.keepP (row_ext' hr x1) k2 rfl) o2' hW2
      refine ⟨H', G', RwL.mk i ws a1 c1 :: rs, a', n', c', ?_, by rw [if_neg hws, List.map_cons, h2]; rfl, by simpa using h3, by simpa using h4, (Upd.ext x1).trans (u2.trans h5)⟩
      rw [Rc_loop]
      simp [m16_0, hil', hld, w, q1, hn0, hws, e2]
      exact h1
theorem R_rows (hf : mp 16 = some (.code m16)) (h18 : mp 39 = some (.code m39)) (h32 : mp 38 = some (.intr splitS)) (h34 : mp 54 = some (.intr (scalS cutG))) {ls : List Bs} (hls : ∀ w ∈ ls, w.length ≤ 100000) (hlen : ls.length ≤ 100001) {sa : Option Addr} {sn sc : Nat} (hr : Row 1 H (.slice sa sn sc) (sv ls)) :
    ∃ a n c rs H', R mp 16 [.slice sa sn sc] H = some (.slice a n c, H') ∧ Ext H H' ∧ Row 2 H' (.slice a n c) (rs.flatMap rwC) ∧ WordsAt H' rs ∧ rs.map RwL.plain = rowsL 0 ls := by
  obtain ⟨H', G', rs, a', n', c', h1, h2, h3, h4, h5⟩ := rows_loop h18 h32 h34 hls hlen ls.length 0 H [] [] none 0 0 (by omega) (by simp) hr (.inl ⟨rfl, rfl, rfl⟩) (fun r hr => by cases hr)
  simp at h1
  refine ⟨a', n', c', rs, H', ?_, h5.toExt.1, by simpa using Own.row h3, by simpa using h4, by simpa using h2⟩
  rw [R_code hf]
  simp [m16, h1]
end
end Go.Mod
/- Package text: the lines ahead of tasks: the protocol. -/
set_option linter.unusedVariables false
set_option linter.unusedSimpArgs false
namespace Go.Mod
open Go.Lib

def kProtocol : Bs := [112, 114, 111, 116, 111, 99, 111, 108]
def kCores : Bs := [99, 111, 114, 101, 115]
def kHomes : Bs := [104, 111, 109, 101, 115]
def kTask : Bs := [116, 97, 115, 107]
def kFair : Bs := [102, 97, 105, 114]
def kAgent : Bs := [97, 103, 101, 110, 116]
def kToken : Bs := [116, 111, 107, 101, 110]
def wordN : Nat → Bs
  | 1 => kFair
  | 2 => kAgent
  | 3 => kToken
  | _ => []
/-- A protocol's number. -/
def protoN (w : Bs) : Int := if w = kFair then 1 else if w = kAgent then 2 else if w = kToken then 3 else 0
theorem ba_refl (s : ByteArray) : (s == s) = true := by
  cases s with
  | mk d => show (d == d) = true; simp
section
variable {mp : FuncId → Option MDef} {H : MH}
theorem R_proto (hf : mp 27 = some (.code m27)) {n : Nat} (h : 1 ≤ n ∧ n ≤ 3) : R mp 27 [.int .i64 (n : Int)] H = some (.string (B (wordN n)), H) := by
  have e : ∀ k v, (k = 1 ∧ v = B kFair) ∨ (k = 2 ∧ v = B kAgent) ∨ (k = 3 ∧ v = B kToken) → mpure (.idxa 4 1 none) [.agg #[.string ⟨#[]⟩, .string ⟨#[102, 97, 105, 114]⟩, .string ⟨#[97, 103, 101, 110, 116]⟩, .string ⟨#[116, 111, 107, 101, 110]⟩], .int .i64 k] = some (.string v) := by
    rintro k v (⟨rfl, rfl⟩ | ⟨rfl, rfl⟩ | ⟨rfl, rfl⟩) <;> rfl
  obtain rfl | rfl | rfl : n = 1 ∨ n = 2 ∨ n = 3 := by omega
  · rw [R_code hf]
    simp [m27, wordN, e 1 (B kFair) (.inl ⟨rfl, rfl⟩)]
  · rw [R_code hf]
    simp [m27, wordN, e 2 (B kAgent) (.inr (.inl ⟨rfl, rfl⟩))]
  · rw [R_code hf]
    simp [m27, wordN, e 3 (B kToken) (.inr (.inr ⟨rfl, rfl⟩))]
theorem rw_ia {a : Option Addr} {rs : List RwL} (h : RowG 2 H a rs rwC) {k : Nat} (hk : k < rs.length) (c : Nat) : mpure (.ia 2) [.slice a rs.length c, .int .i64 (k : Int)] = some (.pointer (some ⟨adB a, adO a + k * 2, none⟩)) := by
  rw [h.ia, if_pos ⟨by omega, by omega⟩]; simp
theorem rw_ws {a : Option Addr} {rs : List RwL} (h : RowG 2 H a rs rwC) {k : Nat} {r : RwL} (hr : rs[k]? = some r) : mread (.ld none) [.pointer (some ⟨adB a, adO a + k * 2 + 1, none⟩)] H = some (.slice r.wa r.w.length r.wc) := by
  rw [h.rd hr H 1 (Ext.refl H) (by omega)]; rfl
theorem rw_at {a : Option Addr} {rs : List RwL} (h : RowG 2 H a rs rwC) {k : Nat} {r : RwL} (hr : rs[k]? = some r) : mread (.ld none) [.pointer (some ⟨adB a, adO a + k * 2, none⟩)] H = some (.int .i64 (r.at_ : Int)) := by
  have := h.rd hr H 0 (Ext.refl H) (by omega)
  rw [Nat.add_zero] at this
  rw [this]; rfl
def setC (p : Int) (x y : Value) : List Value := [.int .i64 p, x, y, .slice none 0 0]
/-- The loop over protocols. -/
theorem proto_step (h38 : mp 27 = some (.code m27)) {a : Option Addr} {rs : List RwL} {c b2 b5 : Nat} {r : RwL} {w : Bs} {n : Nat} {p : Int} (hr : RowG 2 H a rs rwC) (hrs : rs[0]? = some r) (hW : WordsAt H rs) (hw : r.w[1]? = some w) (hn : 1 ≤ n ∧ n ≤ 3)
    (hb : H[b5]? = some (.cells ⟨0, true, false⟩ (setC p (.slice none 0 0) (.slice none 0 0)))) :
    Rc mp (.loop m17_0) [(0, .slice a rs.length c), (2, .pointer (some ⟨b2, 0, none⟩)), (5, .pointer (some ⟨b5, 0, none⟩)), (6, .int .i64 (n : Int))] H =
    Rc mp (.loop m17_0) [(0, .slice a rs.length c), (2, .pointer (some ⟨b2, 0, none⟩)), (5, .pointer (some ⟨b5, 0, none⟩)), (6, .int .i64 ((n + 1 : Nat) : Int))] (if w = wordN n then H.set b5 (.cells ⟨0, true, false⟩ (setC n (.slice none 0 0) (.slice none 0 0))) else H) := by
  have hlt : 0 < rs.length := (List.getElem?_eq_some_iff.1 hrs).1
  have hlt' : (0 : Int) < (rs.length : Int) := by omega
  have i0 := rw_ia hr hlt c
  have l0 := rw_ws hr hrs
  obtain ⟨b, o, hwa, l1, h1⟩ := row_get (hW r (List.mem_of_getElem? hrs)) (k := 1) (x := .string (B w)) (by simp [sv, hw])
  rw [hwa] at l0
  have h1' : (1 : Int) < (r.w.length : Int) := by omega
  have hq := R_proto (H := H) h38 hn
  simp at i0 l0 l1
  have w1 : IntKind.i64.wrap ((n : Int) + 1) = (n : Int) + 1 := wrap_i64 (by omega) (by omega)
  have hn3 : (n : Int) ≤ 3 := by omega
  conv => lhs; rw [Rc_loop]
  by_cases hc : w = wordN n
  · rw [if_pos hc]
    simp [m17_0, hn3, i0, l0, l1, h1', hq, mdraw_full, ba_refl, hc, stx, hb, w1, setC]
  · rw [if_neg hc]
    simp [m17_0, hn3, i0, l0, l1, h1', hq, mdraw_full, ba_refl, hc, stx, hb, w1, setC]
end
end Go.Mod
/- Package text: the lines ahead of tasks. -/
set_option linter.unusedVariables false
set_option linter.unusedSimpArgs false
namespace Go.Mod
open Go.Lib

structure HeadR where
  p : Int
  cores : List Int
  homes : List Int
  k : Nat
  ok : Bool
def headL (l : List (Nat × List Bs)) : HeadR :=
  match l with
  | [] => ⟨0, [], [], 0, false⟩
  | (_, w0) :: l1 =>
    if ¬ (w0.getD 0 [] = kProtocol ∧ w0.length = 2) then ⟨0, [], [], 0, false⟩ else
    if protoN (w0.getD 1 []) = 0 then ⟨0, [], [], 0, false⟩ else
    match l1 with
    | [] => ⟨0, [], [], 1, false⟩
    | (_, w1) :: l2 =>
      if ¬ w1.getD 0 [] = kCores then ⟨0, [], [], 1, false⟩ else
      match numsL (w1.drop 1) with
      | none => ⟨0, [], [], 1, false⟩
      | some cs => if cs = [] then ⟨0, [], [], 1, false⟩ else
        match l2 with
        | [] => ⟨protoN (w0.getD 1 []), cs, [], 2, true⟩
        | (_, w2) :: _ => if ¬ w2.getD 0 [] = kHomes then ⟨protoN (w0.getD 1 []), cs, [], 2, true⟩ else
          match numsL (w2.drop 1) with
          | none => ⟨0, [], [], 2, false⟩
          | some hs => if hs = [] then ⟨0, [], [], 2, false⟩ else ⟨protoN (w0.getD 1 []), cs, hs, 3, true⟩

section
variable {mp : FuncId → Option MDef} {H : MH}
def HeadOk (mp : FuncId → Option MDef) (H : MH) (v : Value) (h : HeadR) : Prop :=
  ∃ x1 x2 pv H', R mp 17 [v] H = some (.tuple #[.agg (setC pv x1 x2).toArray, .int .i64 (h.k : Int), .bool h.ok], H') ∧ Ext H H' ∧ one x1 = true ∧ one x2 = true ∧
    (h.ok = true → pv = h.p ∧ Row 1 H' x1 (i64s h.cores) ∧ Row 1 H' x2 (i64s h.homes))
/-- What is known of the k-th row. -/
theorem rw_all {a : Option Addr} {rs : List RwL} {n : Nat} (hn : n = rs.length) (h : RowG 2 H a rs rwC) (hW : WordsAt H rs) {k : Nat} {r : RwL} (hr : rs[k]? = some r) (c : Nat) :
    mpure (.ia 2) [.slice a n c, .int .i64 (k : Int)] = some (.pointer (some ⟨adB a, adO a + k * 2, none⟩)) ∧ mread (.ld none) [.pointer (some ⟨adB a, adO a + k * 2 + 1, none⟩)] H = some (.slice r.wa r.w.length r.wc) ∧ Row 1 H (.slice r.wa r.w.length r.wc) (sv r.w) := by
  subst hn
  exact ⟨rw_ia h (List.getElem?_eq_some_iff.1 hr).1 c, rw_ws h hr, hW r (List.mem_of_getElem? hr)⟩
theorem RowG.keepP {α : Type} {w : Nat} {H1 : MH} {a : Option Addr} {l : List α} {g : α → List Value} {p : Nat → Prop} (h : RowG w H a l g) (k : KeepP p H H1) (hp : p w) : RowG w H1 a l g :=
  ⟨h.ad, fun j x hx => by
    obtain ⟨i, cs, h1, h2, h3⟩ := h.rec_ j x hx
    exact ⟨i, cs, k _ i cs h1 (h2 ▸ hp), h2, h3⟩, h.wid⟩
theorem keep_set {p : Nat → Prop} {b : Nat} {i : Info} {cs : List Value} {o : MObj} (hb : H[b]? = some (.cells i cs)) (hp : ¬ p i.es) : KeepP p H (H.set b o) := fun k j ds hk hj => by
  by_cases e : b = k
  · subst e; rw [hb] at hk; cases hk; exact absurd hj hp
  · rw [List.getElem?_set_ne e]; exact hk
def P123 (e : Nat) : Prop := e ≠ 0
theorem WordsAt.keepP {H1 : MH} {rs : List RwL} (h : WordsAt H rs) (k : KeepP P123 H H1) : WordsAt H1 rs := fun r hr => Row.keepP (h r hr) k (by unfold P123; omega)
theorem proto_loop (h38 : mp 27 = some (.code m27)) {a : Option Addr} {rs : List RwL} {n c b2 b5 : Nat} {r : RwL} {w : Bs} (hn : n = rs.length) (hr : RowG 2 H a rs rwC) (hrs : rs[0]? = some r) (hW : WordsAt H rs) (hw : r.w[1]? = some w)
    (hb : H[b5]? = some (.cells ⟨0, true, false⟩ (setC 0 (.slice none 0 0) (.slice none 0 0)))) :
    Rc mp (.loop m17_0) [(0, .slice a n c), (2, .pointer (some ⟨b2, 0, none⟩)), (5, .pointer (some ⟨b5, 0, none⟩)), (6, .int .i64 1)] H =
      some (.exit 0, [(0, .slice a n c), (2, .pointer (some ⟨b2, 0, none⟩)), (5, .pointer (some ⟨b5, 0, none⟩)), (6, .int .i64 4), (30, .bool false)], H.set b5 (.cells ⟨0, true, false⟩ (setC (protoN w) (.slice none 0 0) (.slice none 0 0)))) := by
  subst hn
  have hblt := (List.getElem?_eq_some_iff.1 hb).1
  have hend : ∀ X : MH, Rc mp (.loop m17_0) [(0, .slice a rs.length c), (2, .pointer (some ⟨b2, 0, none⟩)), (5, .pointer (some ⟨b5, 0, none⟩)), (6, .int .i64 ((3 + 1 : Nat) : Int))] X =
      some (.exit 0, [(0, .slice a rs.length c), (2, .pointer (some ⟨b2, 0, none⟩)), (5, .pointer (some ⟨b5, 0, none⟩)), (6, .int .i64 4), (30, .bool false)], X) := fun X => by
    rw [Rc_loop]; simp [m17_0]
  have kk : ∀ o, KeepP P123 H (H.set b5 o) := fun o => keep_set hb (by unfold P123; simp)
  have st : ∀ (q : Int) (m : Nat), 1 ≤ m ∧ m ≤ 3 → Rc mp (.loop m17_0) [(0, .slice a rs.length c), (2, .pointer (some ⟨b2, 0, none⟩)), (5, .pointer (some ⟨b5, 0, none⟩)), (6, .int .i64 (m : Int))] (H.set b5 (.cells ⟨0, true, false⟩ (setC q (.slice none 0 0) (.slice none 0 0)))) =
      Rc mp (.loop m17_0) [(0, .slice a rs.length c), (2, .pointer (some ⟨b2, 0, none⟩)), (5, .pointer (some ⟨b5, 0, none⟩)), (6, .int .i64 ((m + 1 : Nat) : Int))] (H.set b5 (.cells ⟨0, true, false⟩ (setC (if w = wordN m then (m : Int) else q) (.slice none 0 0) (.slice none 0 0)))) := fun q m hm => by
    rw [proto_step h38 (hr.keepP (kk _) (by unfold P123; omega)) hrs (hW.keepP (kk _)) hw hm (p := q) (List.getElem?_set_self hblt)]
    split
    · rw [List.set_set]
    · rfl
  have h0 := set_id hb
  have s1 := st 0 1 (by omega)
  rw [h0] at s1
  have e : (1 : Int) = ((1 : Nat) : Int) := rfl
  rw [e, s1, st _ 2 (by omega), st _ 3 (by omega), hend]
  congr 5
  unfold protoN wordN
  by_cases c1 : w = kFair
  · subst c1; simp [kFair, kAgent, kToken]
  · by_cases c2 : w = kAgent
    · subst c2; simp [kFair, kAgent, kToken]
    · by_cases cLACK3 : w = kToken
      · subst cLACK3; simp [kFair, kAgent, kToken]
      · simp [c1, c2, cLACK3]
theorem R_head {t : TypeId} (P : TxP mp t) (hf : mp 17 = some (.code m17)) (h38 : mp 27 = some (.code m27)) {a : Option Addr} {rs : List RwL} {n c : Nat} (hn : n = rs.length) (hr : RowG 2 H a rs rwC) (hW : WordsAt H rs) (hne : ∀ r ∈ rs, r.w ≠ []) (hsz : ∀ r ∈ rs, r.w.length ≤ 100000 ∧ ∀ w ∈ r.w, w.length ≤ 100000) :
    HeadOk mp H (.slice a n c) (headL (rs.map RwL.plain)) := by
  have E2 : ∀ X Y : MObj, Ext H (H ++ [X, Y]) := fun X Y => ⟨[X, Y], rfl⟩
  have hset : ∀ (X : MH), H.length < X.length → ∀ o, (X.set H.length o)[H.length]? = some o := fun X h o => List.getElem?_set_self h
  cases rs with
  | nil =>
    subst hn
    refine ⟨.slice none 0 0, .slice none 0 0, 0, H ++ [.cells ⟨0, true, false⟩ (setC 0 (.slice none 0 0) (.slice none 0 0)), .cells ⟨0, true, false⟩ (setC 0 (.slice none 0 0) (.slice none 0 0))], ?_, E2 _ _, rfl, rfl, fun h => by cases h⟩
    rw [R_code hf]
    simp [m17, headL, stx, ldnx, setC]
  | cons r0 rest =>
    have hn0 : ¬ n = 0 := by rw [hn]; simp
    have hne0 := hne r0 (by simp)
    obtain ⟨w00, hw00⟩ : ∃ x, r0.w[0]? = some x := ⟨_, List.getElem?_eq_getElem (List.length_pos_iff.2 hne0)⟩
    have hd00 : r0.w.getD 0 [] = w00 := by rw [List.getD_eq_getElem?_getD, hw00]; rfl
    simp only [List.map_cons, RwL.plain, headL]
    generalize hX : H ++ [MObj.cells ⟨0, true, false⟩ (setC 0 (.slice none 0 0) (.slice none 0 0)), .cells ⟨0, true, false⟩ (setC 0 (.slice none 0 0) (.slice none 0 0))] = X
    have eX : Ext H X := hX ▸ E2 _ _
    have hX2 : X[H.length]? = some (.cells ⟨0, true, false⟩ (setC 0 (.slice none 0 0) (.slice none 0 0))) := by rw [← hX]; simp
    have hX5 : X[H.length + 1]? = some (.cells ⟨0, true, false⟩ (setC 0 (.slice none 0 0) (.slice none 0 0))) := by rw [← hX]; simp
    have hrX := hr.ext eX
    have hWX : WordsAt X (r0 :: rest) := fun r h => row_ext' (hW r h) eX
    obtain ⟨i0, l0, g0⟩ := rw_all hn hrX hWX (k := 0) (r := r0) rfl c
    obtain ⟨b0, o0, hwa0, l00, _⟩ := row_get g0 (k := 0) (x := .string (B w00)) (by simp [sv, hw00])
    rw [hwa0] at l0
    simp at i0 l0 l00
    have hsetX := hset X (List.getElem?_eq_some_iff.1 hX2).1
    have hposN : 0 < r0.w.length := List.length_pos_iff.2 hne0
    have hn0' : ¬ (n : Int) = 0 := by omega
    have hpos0 : (0 : Int) < (r0.w.length : Int) := by have := List.length_pos_iff.2 hne0; omega
    have hXs := set_id hX2
    have hX' : H ++ [MObj.cells ⟨0, true, false⟩ [.int .i64 0, .slice none 0 0, .slice none 0 0, .slice none 0 0], .cells ⟨0, true, false⟩ [.int .i64 0, .slice none 0 0, .slice none 0 0, .slice none 0 0]] = X := hX
    by_cases h1 : r0.w.getD 0 [] = kProtocol ∧ r0.w.length = 2
    · rw [if_neg (fun h => h h1)]
      obtain ⟨hk, hl2⟩ := h1
      rw [hd00] at hk
      subst hk
      obtain ⟨w01, hw01⟩ : ∃ x, r0.w[1]? = some x := ⟨_, List.getElem?_eq_getElem (by omega)⟩
      have hd01 : r0.w.getD 1 [] = w01 := by rw [List.getD_eq_getElem?_getD, hw01]; rfl
      rw [hd01]
      have hloop := proto_loop h38 (b2 := H.length) (c := c) hn hrX rfl hWX hw01 hX5
      have hl2' : (r0.w.length : Int) = 2 := by omega
      generalize protoN w01 = p at hloop ⊢
      have hXlt : H.length + 1 < X.length := (List.getElem?_eq_some_iff.1 hX5).1
      have hX1e : Ext H (X.set (H.length + 1) (.cells ⟨0, true, false⟩ (setC p (.slice none 0 0) (.slice none 0 0)))) := ext_set eX (by omega)
      have k1 : KeepP P123 X (X.set (H.length + 1) (.cells ⟨0, true, false⟩ (setC p (.slice none 0 0) (.slice none 0 0)))) := keep_set hX5 (by unfold P123; simp)
      have hX15 : (X.set (H.length + 1) (.cells ⟨0, true, false⟩ (setC p (.slice none 0 0) (.slice none 0 0))))[H.length + 1]? = some (.cells ⟨0, true, false⟩ (setC p (.slice none 0 0) (.slice none 0 0))) := List.getElem?_set_self hXlt
      have hX12 : (X.set (H.length + 1) (.cells ⟨0, true, false⟩ (setC p (.slice none 0 0) (.slice none 0 0))))[H.length]? = some (.cells ⟨0, true, false⟩ (setC 0 (.slice none 0 0) (.slice none 0 0))) := by rw [List.getElem?_set_ne (by omega)]; exact hX2
      generalize hX1 : X.set (H.length + 1) (.cells ⟨0, true, false⟩ (setC p (.slice none 0 0) (.slice none 0 0))) = X1 at hloop hX1e k1 hX15 hX12
      have hset1 := hset X1 (List.getElem?_eq_some_iff.1 hX12).1
      unfold setC at hX15 hX12
      by_cases hp : p = 0
      · rw [if_pos hp]
        subst hp
        refine ⟨.slice none 0 0, .slice none 0 0, 0, X1.set H.length (.cells ⟨0, true, false⟩ (setC 0 (.slice none 0 0) (.slice none 0 0))), ?_, ext_set hX1e (Nat.le_refl _), rfl, rfl, fun h => by cases h⟩
        rw [R_code hf]
        simp [m17, hX', hn0, hn0', hposN, i0, l0, l00, hpos0, kProtocol, hl2, hl2', hloop, stx, ldx, ldnx, hX15, hX12, hset1, setC]
      · rw [if_neg hp]
        have hrX1 := hrX.keepP k1 (by unfold P123; omega)
        have hWX1 := hWX.keepP k1
        cases rest with
        | nil =>
          have hn1 : n = 1 := hn
          subst hn1
          refine ⟨.slice none 0 0, .slice none 0 0, p, X1.set H.length (.cells ⟨0, true, false⟩ (setC p (.slice none 0 0) (.slice none 0 0))), ?_, ext_set hX1e (Nat.le_refl _), rfl, rfl, fun h => by cases h⟩
          rw [R_code hf]
          simp [m17, hX', hn0, hn0', hposN, i0, l0, l00, hpos0, kProtocol, hl2, hl2', hloop, stx, ldx, ldnx, hX15, hX12, hset1, setC, hp]
        | cons r1 rest2 =>
          have hn1 : (1 : Int) < (n : Int) := by rw [hn]; simp; omega
          have hn1N : 1 < n := by omega
          have hne1 := hne r1 (by simp)
          obtain ⟨w10, hw10⟩ : ∃ x, r1.w[0]? = some x := ⟨_, List.getElem?_eq_getElem (List.length_pos_iff.2 hne1)⟩
          have hd10 : r1.w.getD 0 [] = w10 := by rw [List.getD_eq_getElem?_getD, hw10]; rfl
          have hposN1 : 0 < r1.w.length := List.length_pos_iff.2 hne1
          have hpos1 : (0 : Int) < (r1.w.length : Int) := by omega
          obtain ⟨i1, l1, g1⟩ := rw_all hn hrX1 hWX1 (k := 1) (r := r1) rfl c
          obtain ⟨b1, o1, hwa1, l10, _⟩ := row_get g1 (k := 0) (x := .string (B w10)) (by simp [sv, hw10])
          obtain ⟨a4, n4, cLACK4, q4, r4⟩ := row_drop g1 (k := 1) (by omega)
          have r4' : Row 1 X1 (.slice a4 n4 cLACK4) (sv (r1.w.drop 1)) := by simpa [sv, List.map_drop] using r4
          rw [hwa1] at l1
          rw [hwa1] at q4
          have q4' : mread (.sl 1 true false false) [.slice (some ⟨b1, o1, none⟩) r1.w.length r1.wc, .int .i64 1] X1 = some (.slice a4 n4 cLACK4) := q4
          simp at i1 l1 l10
          simp only [List.map_cons, RwL.plain, hd10]
          by_cases h2 : w10 = kCores
          · rw [if_neg (fun h => h h2)]
            subst h2
            obtain ⟨a5, n5, cLACK5, Y, q5, xY, r5⟩ := R_nums P.g P.a P.b P.c (ws := r1.w.drop 1) (fun x hx => (hsz r1 (by simp)).2 x (List.mem_of_mem_drop hx)) (by have := (hsz r1 (by simp)).1; simp; omega) r4'
            have hY5 := xY.get hX15
            have hY2 := xY.get hX12
            have hYlt : H.length + 1 < Y.length := (List.getElem?_eq_some_iff.1 hY5).1
            have hY1e : Ext H (Y.set (H.length + 1) (.cells ⟨0, true, false⟩ [.int .i64 p, .slice a5 n5 cLACK5, .slice none 0 0, .slice none 0 0])) := ext_set (hX1e.trans xY) (by omega)
            have k2 : KeepP P123 Y (Y.set (H.length + 1) (.cells ⟨0, true, false⟩ [.int .i64 p, .slice a5 n5 cLACK5, .slice none 0 0, .slice none 0 0])) := keep_set hY5 (by unfold P123; simp)
            have hY15 : (Y.set (H.length + 1) (.cells ⟨0, true, false⟩ [.int .i64 p, .slice a5 n5 cLACK5, .slice none 0 0, .slice none 0 0]))[H.length + 1]? = some (.cells ⟨0, true, false⟩ [.int .i64 p, .slice a5 n5 cLACK5, .slice none 0 0, .slice none 0 0]) := List.getElem?_set_self hYlt
            have hY12 : (Y.set (H.length + 1) (.cells ⟨0, true, false⟩ [.int .i64 p, .slice a5 n5 cLACK5, .slice none 0 0, .slice none 0 0]))[H.length]? = some (.cells ⟨0, true, false⟩ [.int .i64 0, .slice none 0 0, .slice none 0 0, .slice none 0 0]) := by rw [List.getElem?_set_ne (by omega)]; exact hY2
            generalize hY1 : Y.set (H.length + 1) (.cells ⟨0, true, false⟩ [.int .i64 p, .slice a5 n5 cLACK5, .slice none 0 0, .slice none 0 0]) = Y1 at hY1e k2 hY15 hY12
            have hset2 := hset Y1 (List.getElem?_eq_some_iff.1 hY12).1
            have r5' := Row.keepP r5 k2 (by unfold P123; omega)
            have hl5 := row_len r5
            rw [i64s_len] at hl5
            have fail : ∀ (h : HeadR), h = ⟨0, [], [], 1, false⟩ → (numsL (r1.w.drop 1) = none ∨ numsL (r1.w.drop 1) = some []) → HeadOk mp H (.slice a n c) h := by
              rintro h rfl hq
              refine ⟨.slice a5 n5 cLACK5, .slice none 0 0, p, Y1.set H.length (.cells ⟨0, true, false⟩ (setC p (.slice a5 n5 cLACK5) (.slice none 0 0))), ?_, ext_set hY1e (Nat.le_refl _), rfl, rfl, fun h => by cases h⟩
              rw [R_code hf]
              rcases hq with hq | hq
              · rw [hq] at q5
                simp [m17, hX', hn0, hn0', hposN, i0, l0, l00, hpos0, kProtocol, hl2, hl2', hloop, stx, ldx, ldnx, hX15, hX12, setC, hp, hn1, hn1N, i1, l1, l10, hpos1, hposN1, kCores, q4', q5, hY5, hY1, hY15, hY12, hset2]
              · rw [hq] at q5 hl5
                simp at hl5
                subst hl5
                simp [m17, hX', hn0, hn0', hposN, i0, l0, l00, hpos0, kProtocol, hl2, hl2', hloop, stx, ldx, ldnx, hX15, hX12, setC, hp, hn1, hn1N, i1, l1, l10, hpos1, hposN1, kCores, q4', q5, hY5, hY1, hY15, hY12, hset2]
            cases hq : numsL (r1.w.drop 1) with
            | none => exact fail _ rfl (.inl hq)
            | some cs =>
              simp only []
              by_cases hcs : cs = []
              · rw [if_pos hcs]
                exact fail _ rfl (.inr (hcs ▸ hq))
              · rw [if_neg hcs]
                rw [hq] at q5 hl5 r5 r5'
                simp only [Option.getD_some, Option.isSome_some] at q5 hl5 r5 r5'
                have hn5 : ¬ n5 = 0 := by rw [hl5]; simpa using hcs
                have hn5' : ¬ (n5 : Int) = 0 := by omega
                have hfe : ∀ o, Ext H (Y1.set H.length o) := fun o => ext_set hY1e (Nat.le_refl _)
                have kfin : ∀ o, KeepP P123 Y1 (Y1.set H.length o) := fun o => keep_set hY12 (by unfold P123; simp)
                cases rest2 with
                | nil =>
                  have hn2 : n = 2 := hn
                  subst hn2
                  refine ⟨.slice a5 n5 cLACK5, .slice none 0 0, p, Y1.set H.length (.cells ⟨0, true, false⟩ (setC p (.slice a5 n5 cLACK5) (.slice none 0 0))), ?_, hfe _, rfl, rfl, fun _ => ⟨rfl, Row.keepP r5' (kfin _) (by unfold P123; omega), .inl ⟨rfl, rfl⟩⟩⟩
                  rw [R_code hf]
                  simp [m17, hX', hn0, hn0', hposN, i0, l0, l00, hpos0, kProtocol, hl2, hl2', hloop, stx, ldx, ldnx, hX15, hX12, setC, hp, hn1, hn1N, i1, l1, l10, hpos1, hposN1, kCores, q4', q5, hY5, hY1, hY15, hY12, hset2, hn5, hn5']
                | cons r2 rest3 =>
                  have hn2 : ¬ (n : Int) = 2 := by rw [hn]; simp; omega
                  have hn2N : ¬ n = 2 := by omega
                  have hlt2 : (2 : Int) < (n : Int) := by rw [hn]; simp; omega
                  have hne2 := hne r2 (by simp)
                  obtain ⟨w20, hw20⟩ : ∃ x, r2.w[0]? = some x := ⟨_, List.getElem?_eq_getElem (List.length_pos_iff.2 hne2)⟩
                  have hd20 : r2.w.getD 0 [] = w20 := by rw [List.getD_eq_getElem?_getD, hw20]; rfl
                  have hposN2 : 0 < r2.w.length := List.length_pos_iff.2 hne2
                  have hpos2 : (0 : Int) < (r2.w.length : Int) := by omega
                  have kY : KeepP P123 X1 Y1 := (KeepP.ext xY).trans k2
                  obtain ⟨i2, l2, g2⟩ := rw_all hn (hrX1.keepP kY (by unfold P123; omega)) (hWX1.keepP kY) (k := 2) (r := r2) rfl c
                  obtain ⟨b2, o2, hwa2, l20, _⟩ := row_get g2 (k := 0) (x := .string (B w20)) (by simp [sv, hw20])
                  obtain ⟨a6, n6, cLACK6, q6, r6⟩ := row_drop g2 (k := 1) (by omega)
                  have r6' : Row 1 Y1 (.slice a6 n6 cLACK6) (sv (r2.w.drop 1)) := by simpa [sv, List.map_drop] using r6
                  rw [hwa2] at l2
                  rw [hwa2] at q6
                  have q6' : mread (.sl 1 true false false) [.slice (some ⟨b2, o2, none⟩) r2.w.length r2.wc, .int .i64 1] Y1 = some (.slice a6 n6 cLACK6) := q6
                  simp at i2 l2 l20
                  simp only [List.map_cons, RwL.plain, hd20]
                  by_cases h3 : w20 = kHomes
                  · rw [if_neg (fun h => h h3)]
                    subst h3
                    obtain ⟨a7, n7, cLACK7, Z, q7, xZ, r7⟩ := R_nums P.g P.a P.b P.c (ws := r2.w.drop 1) (fun x hx => (hsz r2 (by simp)).2 x (List.mem_of_mem_drop hx)) (by have := (hsz r2 (by simp)).1; simp; omega) r6'
                    have hZ5 := xZ.get hY15
                    have hZ2 := xZ.get hY12
                    have hZlt : H.length + 1 < Z.length := (List.getElem?_eq_some_iff.1 hZ5).1
                    have hZ1e : Ext H (Z.set (H.length + 1) (.cells ⟨0, true, false⟩ [.int .i64 p, .slice a5 n5 cLACK5, .slice a7 n7 cLACK7, .slice none 0 0])) := ext_set (hY1e.trans xZ) (by omega)
                    have k3 : KeepP P123 Z (Z.set (H.length + 1) (.cells ⟨0, true, false⟩ [.int .i64 p, .slice a5 n5 cLACK5, .slice a7 n7 cLACK7, .slice none 0 0])) := keep_set hZ5 (by unfold P123; simp)
                    have hZ15 : (Z.set (H.length + 1) (.cells ⟨0, true, false⟩ [.int .i64 p, .slice a5 n5 cLACK5, .slice a7 n7 cLACK7, .slice none 0 0]))[H.length + 1]? = some (.cells ⟨0, true, false⟩ [.int .i64 p, .slice a5 n5 cLACK5, .slice a7 n7 cLACK7, .slice none 0 0]) := List.getElem?_set_self hZlt
                    have hZ12 : (Z.set (H.length + 1) (.cells ⟨0, true, false⟩ [.int .i64 p, .slice a5 n5 cLACK5, .slice a7 n7 cLACK7, .slice none 0 0]))[H.length]? = some (.cells ⟨0, true, false⟩ [.int .i64 0, .slice none 0 0, .slice none 0 0, .slice none 0 0]) := by rw [List.getElem?_set_ne (by omega)]; exact hZ2
                    generalize hZ1 : Z.set (H.length + 1) (.cells ⟨0, true, false⟩ [.int .i64 p, .slice a5 n5 cLACK5, .slice a7 n7 cLACK7, .slice none 0 0]) = Z1 at hZ1e k3 hZ15 hZ12
                    have hset3 := hset Z1 (List.getElem?_eq_some_iff.1 hZ12).1
                    have r7' := Row.keepP r7 k3 (by unfold P123; omega)
                    have hl7 := row_len r7
                    rw [i64s_len] at hl7
                    have hfe2 : ∀ o, Ext H (Z1.set H.length o) := fun o => ext_set hZ1e (Nat.le_refl _)
                    have kfin2 : ∀ o, KeepP P123 Z1 (Z1.set H.length o) := fun o => keep_set hZ12 (by unfold P123; simp)
                    have kZ : KeepP P123 Y1 Z1 := (KeepP.ext xZ).trans k3
                    cases hq2 : numsL (r2.w.drop 1) with
                    | none =>
                      rw [hq2] at q7
                      refine ⟨.slice a5 n5 cLACK5, .slice a7 n7 cLACK7, p, Z1.set H.length (.cells ⟨0, true, false⟩ (setC p (.slice a5 n5 cLACK5) (.slice a7 n7 cLACK7))), ?_, hfe2 _, rfl, rfl, fun h => by cases h⟩
                      rw [R_code hf]
                      simp [m17, hX', hn0, hn0', hposN, i0, l0, l00, hpos0, kProtocol, hl2, hl2', hloop, stx, ldx, ldnx, hX15, hX12, setC, hp, hn1, hn1N, i1, l1, l10, hpos1, hposN1, kCores, q4', q5, hY5, hY1, hY15, hY12, hset2, hn5, hn5', hn2, hn2N, hlt2, i2, l2, l20, hpos2, hposN2, kHomes, q6', q7, hZ5, hZ1, hZ15, hZ12, hset3]
                    | some hs =>
                      rw [hq2] at q7 hl7 r7 r7'
                      simp only [Option.getD_some, Option.isSome_some] at q7 hl7 r7 r7'
                      simp only []
                      by_cases hhs : hs = []
                      · rw [if_pos hhs]
                        subst hhs
                        simp at hl7
                        subst hl7
                        refine ⟨.slice a5 n5 cLACK5, .slice a7 0 cLACK7, p, Z1.set H.length (.cells ⟨0, true, false⟩ (setC p (.slice a5 n5 cLACK5) (.slice a7 0 cLACK7))), ?_, hfe2 _, rfl, rfl, fun h => by cases h⟩
                        rw [R_code hf]
                        simp [m17, hX', hn0, hn0', hposN, i0, l0, l00, hpos0, kProtocol, hl2, hl2', hloop, stx, ldx, ldnx, hX15, hX12, setC, hp, hn1, hn1N, i1, l1, l10, hpos1, hposN1, kCores, q4', q5, hY5, hY1, hY15, hY12, hset2, hn5, hn5', hn2, hn2N, hlt2, i2, l2, l20, hpos2, hposN2, kHomes, q6', q7, hZ5, hZ1, hZ15, hZ12, hset3]
                      · rw [if_neg hhs]
                        have hn7 : ¬ n7 = 0 := by rw [hl7]; simpa using hhs
                        have hn7' : ¬ (n7 : Int) = 0 := by omega
                        refine ⟨.slice a5 n5 cLACK5, .slice a7 n7 cLACK7, p, Z1.set H.length (.cells ⟨0, true, false⟩ (setC p (.slice a5 n5 cLACK5) (.slice a7 n7 cLACK7))), ?_, hfe2 _, rfl, rfl, fun _ => ⟨rfl, Row.keepP (Row.keepP r5' kZ (by unfold P123; omega)) (kfin2 _) (by unfold P123; omega), Row.keepP r7' (kfin2 _) (by unfold P123; omega)⟩⟩
                        rw [R_code hf]
                        simp [m17, hX', hn0, hn0', hposN, i0, l0, l00, hpos0, kProtocol, hl2, hl2', hloop, stx, ldx, ldnx, hX15, hX12, setC, hp, hn1, hn1N, i1, l1, l10, hpos1, hposN1, kCores, q4', q5, hY5, hY1, hY15, hY12, hset2, hn5, hn5', hn2, hn2N, hlt2, i2, l2, l20, hpos2, hposN2, kHomes, q6', q7, hZ5, hZ1, hZ15, hZ12, hset3, hn7, hn7']
                  · rw [if_pos h3]
                    have h3' : ¬ w20 = [104, 111, 109, 101, 115] := h3
                    refine ⟨.slice a5 n5 cLACK5, .slice none 0 0, p, Y1.set H.length (.cells ⟨0, true, false⟩ (setC p (.slice a5 n5 cLACK5) (.slice none 0 0))), ?_, hfe _, rfl, rfl, fun _ => ⟨rfl, Row.keepP r5' (kfin _) (by unfold P123; omega), .inl ⟨rfl, rfl⟩⟩⟩
                    rw [R_code hf]
                    simp [m17, hX', hn0, hn0', hposN, i0, l0, l00, hpos0, kProtocol, hl2, hl2', hloop, stx, ldx, ldnx, hX15, hX12, setC, hp, hn1, hn1N, i1, l1, l10, hpos1, hposN1, kCores, q4', q5, hY5, hY1, hY15, hY12, hset2, hn5, hn5', hn2, hn2N, hlt2, i2, l2, l20, hpos2, hposN2, h3']
          · rw [if_pos h2]
            have h2' : ¬ w10 = [99, 111, 114, 101, 115] := h2
            refine ⟨.slice none 0 0, .slice none 0 0, p, X1.set H.length (.cells ⟨0, true, false⟩ (setC p (.slice none 0 0) (.slice none 0 0))), ?_, ext_set hX1e (Nat.le_refl _), rfl, rfl, fun h => by cases h⟩
            rw [R_code hf]
            simp [m17, hX', hn0, hn0', hposN, i0, l0, l00, hpos0, kProtocol, hl2, hl2', hloop, stx, ldx, ldnx, hX15, hX12, hset1, setC, hp, hn1, hn1N, i1, l1, l10, hpos1, hposN1, h2']
    · rw [if_pos h1]
      rw [hd00] at h1
      refine ⟨.slice none 0 0, .slice none 0 0, 0, X, ?_, eX, rfl, rfl, fun h => by cases h⟩
      rw [R_code hf]
      unfold setC at hX2 hX5 hXs
      by_cases h2 : w00 = kProtocol
      · have h3 : ¬ (r0.w.length : Int) = 2 := fun h => h1 ⟨h2, by omega⟩
        have h3' : ¬ r0.w.length = 2 := fun h => h1 ⟨h2, h⟩
        simp [m17, hX', hn0, hn0', hposN, i0, l0, l00, hpos0, h2, kProtocol, h3, h3', stx, ldnx, hX5, hX2, hXs, setC]
      · have h2' : ¬ w00 = [112, 114, 111, 116, 111, 99, 111, 108] := h2
        simp [m17, hX', hn0, hn0', hposN, i0, l0, l00, hpos0, h2', stx, ldnx, hX5, hX2, hXs, setC]
end
end Go.Mod

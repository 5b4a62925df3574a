/- Package text: a task's words. -/
import Derived.Test.YthpeamllfledkaaDoorTxB
set_option linter.unusedVariables false
set_option linter.unusedSimpArgs false
namespace Go.Mod
open Go.Lib

theorem reads_18 (w : Bs) : (readsL w).2 = 18 ↔ nestL w = true := by
  unfold readsL
  split
  · rename_i h; simp [h]
  · rename_i h
    split <;> simp [h]
/-- The parts of words, if all are. -/
def tailL : List Bs → Option (List PartL)
  | [] => some []
  | x :: l => if (readsL x).2 = 0 then (tailL l).map ((readsL x).1 :: ·) else none
/-- A task, if the words are one. -/
def taskL (w : List Bs) : Option TaskL :=
  if w.length < 6 then none else
  match numsL ((w.drop 2).take 4) with
  | none => none
  | some n => match tailL (w.drop 6) with
    | none => none
    | some ps => some ⟨B (w.getD 1 []), n.getD 0 0, n.getD 1 0, n.getD 2 0, n.getD 3 0, none, 0, ps⟩
def badL (w : List Bs) : Int := if (w.drop 1).any nestL = true then 18 else 10
def TaskL.at (t : TaskL) (a : Option Addr) (c : Nat) : TaskL := { t with pa := a, pc := c }

section
variable {mp : FuncId → Option MDef} {H : MH}
theorem nested_loop {t : TypeId} (P : TxP mp t) {ws : List Bs} (hws : ∀ w ∈ ws, w.length ≤ 100000) (hlen : ws.length ≤ 100001) {sa : Option Addr} {sn sc : Nat} :
    ∀ (k i : Nat) (H : MH), i + k = ws.length → Row 1 H (.slice sa sn sc) (sv ws) →
    (((ws.drop i).any nestL = true ∧ ∃ H', Rc mp (.loop m60_0) [(7, .slice sa sn sc), (8, .int .i64 (sn : Int)), (9, .int .i64 (i : Int))] H = some (.ret, [(2, .bool true)], H') ∧ Ext H H') ∨
     ((ws.drop i).any nestL = false ∧ ∃ H', Rc mp (.loop m60_0) [(7, .slice sa sn sc), (8, .int .i64 (sn : Int)), (9, .int .i64 (i : Int))] H = some (.exit 0, [(7, .slice sa sn sc), (8, .int .i64 (sn : Int)), (9, .int .i64 (sn : Int)), (10, .bool false)], H') ∧ Ext H H')) := by
  intro k
  induction k with
  | zero =>
    intro i H hi hr
    have hn := hr.svn
    have : i = ws.length := by omega
    subst this
    refine .inr ⟨by rw [List.drop_length]; rfl, H, ?_, Ext.refl _⟩
    rw [Rc_loop]
    simp [m60_0, hn]
  | succ k ih =>
    intro i H hi hr
    have hn := hr.svn
    have hil : i < ws.length := by omega
    have hil' : i < sn := by omega
    have hdrop : ws.drop i = ws[i] :: ws.drop (i + 1) := List.drop_eq_getElem_cons hil
    obtain ⟨b, o, j, cs, rfl, hB, hat⟩ := hr.sv (List.getElem?_eq_getElem hil)
    have hld := ld_at hB (o + i)
    rw [hat] at hld
    have hxl : ws[i].length ≤ 100000 := hws _ (List.getElem_mem hil)
    have w : IntKind.i64.wrap ((i : Int) + 1) = (i : Int) + 1 := wrap_i64 (by omega) (by omega)
    generalize ws[i] = x at hat hdrop hld hxl
    obtain ⟨H1, q1, x1⟩ := R_reads (H := H) P (w := x) hxl
    have h18 := reads_18 x
    have hset : ∀ o, (H1 ++ [MObj.cells ⟨0, true, false⟩ [.int .i64 0, .int .i64 0, .int .i64 0]]).set H1.length o = H1 ++ [o] := fun o => by simp
    have e1 : ∀ o, Ext H (H1 ++ [o]) := fun o => x1.trans ⟨[o], rfl⟩
    rw [hdrop, List.any_cons]
    generalize readsL x = pe at q1 h18
    obtain ⟨p, e⟩ := pe
    simp only [] at q1 h18
    by_cases h : nestL x = true
    · have he := h18.2 h
      subst he
      refine .inl ⟨by rw [h]; rfl, H1 ++ [.cells ⟨0, true, false⟩ (partC p)], ?_, e1 _⟩
      rw [Rc_loop]
      simp [m60_0, hil', hld, w, q1, stx, partC]
    · have he : ¬ e = 18 := fun h' => h (h18.1 h')
      have hf : nestL x = false := by simpa using h
      rw [hf, Bool.false_or]
      rcases ih (i + 1) (H1 ++ [.cells ⟨0, true, false⟩ (partC p)]) (by omega) (row_ext' hr (e1 _)) with ⟨g1, H', g2, g3⟩ | ⟨g1, H', g2, g3⟩
      · refine .inl ⟨g1, H', ?_, (e1 _).trans g3⟩
        rw [Rc_loop]
        simp [m60_0, hil', hld, w, q1, stx, partC, he]
        simp [partC] at g2
        exact g2
      · refine .inr ⟨g1, H', ?_, (e1 _).trans g3⟩
        rw [Rc_loop]
        simp [m60_0, hil', hld, w, q1, stx, partC, he]
        simp [partC] at g2
        exact g2
theorem R_nested {t : TypeId} (P : TxP mp t) {ws : List Bs} (hws : ∀ w ∈ ws, w.length ≤ 100000) (hlen : ws.length ≤ 100001) {sa : Option Addr} {sn sc : Nat} (hr : Row 1 H (.slice sa sn sc) (sv ws)) :
    ∃ H', R mp 60 [.slice sa sn sc] H = some (.bool (ws.any nestL), H') ∧ Ext H H' := by
  rcases nested_loop P hws hlen ws.length 0 H (by omega) hr with ⟨h1, H', h2, h3⟩ | ⟨h1, H', h2, h3⟩
  all_goals
    rw [List.drop_zero] at h1
    rw [h1]
    simp at h2
    refine ⟨H', ?_, h3⟩
    rw [R_code P.i]
    simp [m60, h2]

theorem set_id {b : Nat} {o : MObj} (h : H[b]? = some o) : H.set b o = H := by
  apply List.ext_getElem?
  intro k
  by_cases hk : b = k
  · subst hk; rw [List.getElem?_set_self (List.getElem?_eq_some_iff.1 h).1, h]
  · rw [List.getElem?_set_ne hk]
theorem parts_len (l : List PartL) : (l.flatMap partC).length = l.length * 3 := flat_len fun x hx => rfl
theorem parts_one (l : List PartL) : (l.flatMap partC).all one = true := by
  induction l with
  | nil => rfl
  | cons p l ih => rw [List.flatMap_cons, List.all_append, ih]; rfl
def zTask : MObj := .cells ⟨0, true, false⟩ [.string ⟨#[]⟩, .int .i64 0, .int .i64 0, .int .i64 0, .int .i64 0, .slice none 0 0]
def TkA (b : Nat) (nm : ByteArray) (p d q cl : Int) (v : Value) (out : List PartL) : HP := Pt b ⟨0, true, false⟩ [.string nm, .int .i64 p, .int .i64 d, .int .i64 q, .int .i64 cl, v] * OwnA 3 v (out.flatMap partC)
theorem tasked_loop {t : TypeId} (P : TxP mp t) {ws : List Bs} (hws : ∀ w ∈ ws, w.length ≤ 100000) (hlen : ws.length ≤ 100001) {sa : Option Addr} {sn sc : Nat} {b2 b7 : Nat} {nm : ByteArray} {p d q cl bad : Int} :
    ∀ (k i : Nat) (H : MH) (G : List Nat) (out : List PartL) (v : Value), i + k = ws.length → out.length ≤ i → Stay 1 (.slice sa sn sc) (sv ws) H G → TkA b7 nm p d q cl v out H G → H[b2]? = some zTask → b2 ∉ G →
    (∃ ps, tailL (ws.drop i) = some ps ∧ ∃ (H' : MH) (G' : List Nat) (v' : Value), Rc mp (.loop m45_0) [(2, .pointer (some ⟨b2, 0, none⟩)), (4, .int .i64 bad), (7, .pointer (some ⟨b7, 0, none⟩)), (47, .slice sa sn sc), (48, .int .i64 (sn : Int)), (49, .int .i64 (i : Int))] H =
        some (.exit 0, [(2, .pointer (some ⟨b2, 0, none⟩)), (4, .int .i64 bad), (7, .pointer (some ⟨b7, 0, none⟩)), (47, .slice sa sn sc), (48, .int .i64 (sn : Int)), (49, .int .i64 (sn : Int)), (50, .bool false)], H') ∧ TkA b7 nm p d q cl v' (out ++ ps) H' G' ∧ Upd H G H' G') ∨
    (tailL (ws.drop i) = none ∧ ∃ (H' : MH) (G' : List Nat), Rc mp (.loop m45_0) [(2, .pointer (some ⟨b2, 0, none⟩)), (4, .int .i64 bad), (7, .pointer (some ⟨b7, 0, none⟩)), (47, .slice sa sn sc), (48, .int .i64 (sn : Int)), (49, .int .i64 (i : Int))] H =
        some (.ret, [(2, .pointer (some ⟨b2, 0, none⟩)), (3, .int .i64 bad)], H') ∧ Upd H G H' G') := by
  intro k
  induction k with
  | zero =>
    intro i H G out v hi ho hS hT hz hb
    have hn := hS.1.svn
    have : i = ws.length := by omega
    subst this
    refine .inl ⟨[], by rw [List.drop_length]; rfl, H, G, v, ?_, by simpa using hT, Upd.refl _ _⟩
    rw [Rc_loop]
    simp [m45_0, hn]
  | succ k ih =>
    intro i H G out v hi ho hS hT hz hb
    have hn := hS.1.svn
    have hil : i < ws.length := by omega
    have hil' : i < sn := by omega
    have hdrop : ws.drop i = ws[i] :: ws.drop (i + 1) := List.drop_eq_getElem_cons hil
    obtain ⟨b, o, j, cs, rfl, hB, hat⟩ := hS.1.sv (List.getElem?_eq_getElem hil)
    have hld := ld_at hB (o + i)
    rw [hat] at hld
    have hxl : ws[i].length ≤ 100000 := hws _ (List.getElem_mem hil)
    have w : IntKind.i64.wrap ((i : Int) + 1) = (i : Int) + 1 := wrap_i64 (by omega) (by omega)
    generalize ws[i] = x at hat hdrop hld hxl
    obtain ⟨H1, q1, x1⟩ := R_reads (H := H) P (w := x) hxl
    rw [hdrop]
    unfold tailL
    generalize readsL x = pe at q1
    obtain ⟨⟨pk, pl, pr⟩, e⟩ := pe
    simp only [partC] at q1
    have e1 : Ext H (H1 ++ [.cells ⟨0, true, false⟩ [.int .i64 pk, .int .i64 pl, .int .i64 pr]]) := x1.trans ⟨[_], rfl⟩
    have u1 := Upd.ext (F := G) e1
    have hz1 : (H1 ++ [MObj.cells ⟨0, true, false⟩ [.int .i64 pk, .int .i64 pl, .int .i64 pr]])[b2]? = some zTask := e1.get hz
    have hzs := set_id hz1
    unfold zTask at hzs hz1
    by_cases he : e = 0
    · subst he
      rw [if_pos rfl]
      have hT1 : TkA b7 nm p d q cl v out (H1 ++ [.cells ⟨0, true, false⟩ [.int .i64 pk, .int .i64 pl, .int .i64 pr]]) G := (Pt.good.star OwnA.good).ext hT e1
      have hP1 : (H1 ++ [MObj.cells ⟨0, true, false⟩ [.int .i64 pk, .int .i64 pl, .int .i64 pr]])[b7]? = some (.cells ⟨0, true, false⟩ [.string nm, .int .i64 p, .int .i64 d, .int .i64 q, .int .i64 cl, v]) := star_at hT1
      have hv1 : isUnk v = false := by
        obtain ⟨A, C, h1, h2, _⟩ := hT1
        rcases h2 with ⟨rfl, _⟩ | ⟨bb, nn, cc, cs', rfl, _⟩ <;> rfl
      obtain ⟨v', H2, H3, G3, a1, a2, a3, a4⟩ := push_fld (k := 5) (bytes := 24) hT1 rfl (by simp) (parts_one out) (xs := [.int .i64 pk, .int .i64 pl, .int .i64 pr]) rfl rfl (by omega) (by rw [parts_len]; omega) (by omega)
      have a3' : TkA b7 nm p d q cl v' (out ++ [⟨pk, pl, pr⟩]) H3 G3 := by
        unfold TkA
        rw [List.flatMap_append]
        simpa [partC] using a3
      have hb3 : b2 ∉ G3 := fun h => by
        rcases a4.new _ h with h | h
        · exact hb h
        · have := (List.getElem?_eq_some_iff.1 hz1).1; omega
      have hld5 := ld_at hP1 5
      simp at a1
      rcases ih (i + 1) H3 G3 (out ++ [⟨pk, pl, pr⟩]) v' (by omega) (by simp; omega) ((hS.upd u1).upd a4) a3' (a4.get hz1 hb) hb3 with ⟨ps, h1, H', G', v'', h2, h3, h4⟩ | ⟨h1, H', G', h2, h4⟩
      · refine .inl ⟨⟨pk, pl, pr⟩ :: ps, by rw [h1]; rfl, H', G', v'', ?_, by simpa using h3, u1.trans (a4.trans h4)⟩
        rw [Rc_loop]
        simp [m45_0, hil', hld, w, q1, stx, ldnx, hld5, hv1, a1, a2]
        exact h2
      · refine .inr ⟨by rw [h1]; rfl, H', G', ?_, u1.trans (a4.trans h4)⟩
        rw [Rc_loop]
        simp [m45_0, hil', hld, w, q1, stx, ldnx, hld5, hv1, a1, a2]
        exact h2
    · rw [if_neg he]
      refine .inr ⟨rfl, H1 ++ [.cells ⟨0, true, false⟩ [.int .i64 pk, .int .i64 pl, .int .i64 pr]], G, ?_, u1⟩
      rw [Rc_loop]
      simp [m45_0, hil', hld, w, q1, stx, he, hz1, hzs]
end
end Go.Mod

/- Package text: tasks, line by line. -/
import Derived.Test.YthpeamllfledkaaDoorTxG
set_option linter.unusedVariables false
set_option linter.unusedSimpArgs false
namespace Go.Mod
open Go.Lib

def tasksL : List (Nat × List Bs) → List TaskL ⊕ (Nat × Int)
  | [] => .inl []
  | (i, w) :: l => if ¬ w.getD 0 [] = kTask then .inr (i, 10) else match taskL w with
    | none => .inr (i, badL w)
    | some t => match tasksL l with
      | .inl ts => .inl (t :: ts)
      | .inr e => .inr e
def TaskL.plain (t : TaskL) : TaskL := t.at none 0
def zSetC : List Value := [.int .i64 0, .slice none 0 0, .slice none 0 0, .slice none 0 0]
def zSet : MObj := .cells ⟨0, true, false⟩ [.int .i64 0, .slice none 0 0, .slice none 0 0, .slice none 0 0]
def SetA (b : Nat) (p : Int) (x1 x2 v : Value) (out : List TaskL) : HP := Pt b ⟨0, true, false⟩ [.int .i64 p, x1, x2, v] * OwnA 6 v (out.flatMap taskC)
def PartsAt (H : MH) (l : List TaskL) : Prop := ∀ t ∈ l, RowG 3 H t.pa t.parts partC ∧ t.parts.length ≤ 100001 ∧ t.name.size ≤ 100000
def P13 (e : Nat) : Prop := e = 1 ∨ e = 2 ∨ e = 3
theorem tasks_len (l : List TaskL) : (l.flatMap taskC).length = l.length * 6 := flat_len fun x hx => rfl
theorem tasks_one (l : List TaskL) : (l.flatMap taskC).all one = true := by
  induction l with
  | nil => rfl
  | cons p l ih => rw [List.flatMap_cons, List.all_append, ih]; rfl
theorem taskL_plain {w : List Bs} {t : TaskL} (h : taskL w = some t) (a : Option Addr) (c : Nat) : (t.at a c).plain = t ∧ (t.at a c).name.size = (w.getD 1 []).length := by
  unfold taskL at h
  split at h <;> first | contradiction | skip
  split at h <;> first | contradiction | skip
  split at h <;> first | contradiction | skip
  cases h
  exact ⟨rfl, by simp [TaskL.at]⟩
section
variable {mp : FuncId → Option MDef} {H : MH}
theorem setA_es {b : Nat} {p : Int} {x1 x2 v : Value} {out : List TaskL} {G : List Nat} (h : SetA b p x1 x2 v out H G) : ∀ id ∈ G, ∀ i cs, H[id]? = some (.cells i cs) → ¬ P13 i.es := by
  obtain ⟨A, C, hA, hC, _, hG⟩ := h
  intro id hid i cs hi hp
  rcases (hG id).1 hid with h | h
  · rw [hA.1] at h; simp at h; subst h
    rw [hA.2] at hi; cases hi
    unfold P13 at hp; simp at hp
  · have := own_es hC id h i cs hi
    unfold P13 at hp; omega
theorem PartsAt.keepP {H1 : MH} {l : List TaskL} (h : PartsAt H l) (k : KeepP P13 H H1) : PartsAt H1 l := fun t ht => ⟨(h t ht).1.keepP k (by unfold P13; omega), (h t ht).2⟩
theorem WordsAt.keep13 {H1 : MH} {rs : List RwL} (h : WordsAt H rs) (k : KeepP P13 H H1) : WordsAt H1 rs := fun r hr => Row.keepP (h r hr) k (by unfold P13; omega)
theorem rw_wid (l : List RwL) : ∀ x ∈ l, (rwC x).length = 2 ∧ (rwC x).all one = true := fun x _ => ⟨rfl, rfl⟩
theorem parse_loop {t : TypeId} (P : TxP mp t) (h45 : mp 45 = some (.code m45)) {rs : List RwL} (hne : ∀ r ∈ rs, r.w ≠ []) (hsz : ∀ r ∈ rs, r.w.length ≤ 100000 ∧ ∀ w ∈ r.w, w.length ≤ 100000) (hlen : rs.length ≤ 100001) {sa : Option Addr} {sn sc : Nat} {b2 b7 : Nat} {p : Int} {x1 x2 v5 v6 : Value} {k8 : Int} (h1u : isUnk x1 = false) :
    ∀ (k i : Nat) (H : MH) (G : List Nat) (out : List TaskL) (v : Value), i + k = rs.length → out.length ≤ i → Row 2 H (.slice sa sn sc) (rs.flatMap rwC) → WordsAt H rs → SetA b7 p x1 x2 v out H G → PartsAt H out → H[b2]? = some zSet → b2 ∉ G →
    (∃ ts, tasksL ((rs.drop i).map RwL.plain) = .inl ts ∧ ∃ (H' : MH) (G' : List Nat) (v' : Value) (ts' : List TaskL),
      Rc mp (.loop m28_0) [(2, .pointer (some ⟨b2, 0, none⟩)), (5, v5), (6, v6), (7, .pointer (some ⟨b7, 0, none⟩)), (8, .int .i64 k8), (40, .slice sa sn sc), (41, .int .i64 (sn : Int)), (42, .int .i64 (i : Int))] H =
        some (.exit 0, [(2, .pointer (some ⟨b2, 0, none⟩)), (5, v5), (6, v6), (7, .pointer (some ⟨b7, 0, none⟩)), (8, .int .i64 k8), (40, .slice sa sn sc), (41, .int .i64 (sn : Int)), (42, .int .i64 (sn : Int)), (43, .bool false)], H') ∧
        SetA b7 p x1 x2 v' (out ++ ts') H' G' ∧ ts'.map TaskL.plain = ts ∧ PartsAt H' (out ++ ts') ∧ Upd H G H' G') ∨
    (∃ e, tasksL ((rs.drop i).map RwL.plain) = .inr e ∧ ∃ (H' : MH) (G' : List Nat),
      Rc mp (.loop m28_0) [(2, .pointer (some ⟨b2, 0, none⟩)), (5, v5), (6, v6), (7, .pointer (some ⟨b7, 0, none⟩)), (8, .int .i64 k8), (40, .slice sa sn sc), (41, .int .i64 (sn : Int)), (42, .int .i64 (i : Int))] H =
        some (.ret, [(2, .pointer (some ⟨b2, 0, none⟩)), (3, .int .i64 (e.1 : Int)), (4, .int .i64 e.2)], H') ∧ Upd H G H' G') := by
  intro k
  induction k with
  | zero =>
    intro i H G out v hi ho hr hW hS hP hz hb
    obtain ⟨hg, hn⟩ := RowG.of hr (by omega) (rw_wid rs)
    have : i = rs.length := by omega
    subst this
    refine .inl ⟨[], by rw [List.drop_length]; rfl, H, G, v, [], ?_, by simpa using hS, rfl, by simpa using hP, Upd.refl _ _⟩
    rw [Rc_loop]
    simp [m28_0, hn]
  | succ k ih =>
    intro i H G out v hi ho hr hW hS hP hz hb
    obtain ⟨hg, hn⟩ := RowG.of hr (by omega) (rw_wid rs)
    have hil : i < rs.length := by omega
    have hil' : i < sn := by omega
    have hdrop : rs.drop i = rs[i] :: rs.drop (i + 1) := List.drop_eq_getElem_cons hil
    have hget := List.getElem?_eq_getElem hil
    have hmem := List.getElem_mem hil
    have hia := rw_ia hg hil sc
    rw [← hn] at hia
    have hrdn := hg.rdn hget H (Ext.refl H)
    have hwrow := hW _ hmem
    have hwne := hne _ hmem
    have hwsz := hsz _ hmem
    have w : IntKind.i64.wrap ((i : Int) + 1) = (i : Int) + 1 := wrap_i64 (by omega) (by omega)
    rw [hdrop, List.map_cons]
    generalize rs[i] = r at hget hmem hrdn hwrow hwne hwsz
    simp only [rwC] at hrdn
    obtain ⟨w0, hw0⟩ : ∃ x, r.w[0]? = some x := ⟨_, List.getElem?_eq_getElem (List.length_pos_iff.2 hwne)⟩
    have hd0 : r.w.getD 0 [] = w0 := by rw [List.getD_eq_getElem?_getD, hw0]; rfl
    have hpos : (0 : Int) < (r.w.length : Int) := by have := List.length_pos_iff.2 hwne; omega
    have hposN : 0 < r.w.length := List.length_pos_iff.2 hwne
    have e1 : Ext H (H ++ [.cells ⟨0, true, false⟩ [.int .i64 (r.at_ : Int), .slice r.wa r.w.length r.wc]]) := ⟨_, rfl⟩
    obtain ⟨b0, o0, hwa, l0, _⟩ := row_get (row_ext' hwrow e1) (k := 0) (x := .string (B w0)) (by simp [sv, hw0])
    have hwrow1 := row_ext' hwrow e1
    have hz1 := e1.get hz
    have hzs := set_id hz1
    unfold zSet at hz1 hzs
    simp only [tasksL, RwL.plain, hd0]
    rw [hwa] at hrdn e1 l0 hwrow1 hz1 hzs
    rw [Nat.add_zero] at l0
    simp at l0
    by_cases ht : w0 = kTask
    · rw [if_neg (fun h => h ht)]
      subst ht
      obtain ⟨H1, xe, hT⟩ := R_tasked P h45 (ws := r.w) hwsz.2 hwne (by omega) hwrow1
      have hb11 : (H ++ [MObj.cells ⟨0, true, false⟩ [.int .i64 (r.at_ : Int), .slice (some ⟨b0, o0, none⟩) r.w.length r.wc]])[H.length]? = some (.cells ⟨0, true, false⟩ [.int .i64 (r.at_ : Int), .slice (some ⟨b0, o0, none⟩) r.w.length r.wc]) := by simp
      have E12 : ∀ o, Ext H (H1 ++ [o]) := fun o => (e1.trans xe).trans ⟨[o], rfl⟩
      have E11 : ∀ o, Ext (H ++ [MObj.cells ⟨0, true, false⟩ [.int .i64 (r.at_ : Int), .slice (some ⟨b0, o0, none⟩) r.w.length r.wc]]) (H1 ++ [o]) := fun o => xe.trans ⟨[o], rfl⟩
      rcases hT with ⟨hT1, hT2⟩ | ⟨tk, a, c, hT1, hT2, hT3, hT4⟩
      · rw [hT1]
        have hbe : badL r.w = 10 ∨ badL r.w = 18 := by unfold badL; split <;> simp
        generalize badL r.w = bad at hT2 hbe
        have hb0 : ¬ bad = 0 := by omega
        have hz2 := (E11 (.cells ⟨0, true, false⟩ [.string ⟨#[]⟩, .int .i64 0, .int .i64 0, .int .i64 0, .int .i64 0, .slice none 0 0])).get hz1
        have hzs2 := set_id hz2
        have hb2' := (E11 (.cells ⟨0, true, false⟩ [.string ⟨#[]⟩, .int .i64 0, .int .i64 0, .int .i64 0, .int .i64 0, .slice none 0 0])).get hb11
        refine .inr ⟨(r.at_, bad), rfl, _, G, ?_, Upd.ext (E12 (.cells ⟨0, true, false⟩ [.string ⟨#[]⟩, .int .i64 0, .int .i64 0, .int .i64 0, .int .i64 0, .slice none 0 0]))⟩
        rw [Rc_loop]
        simp [m28_0, hil', hia, hrdn, stx, ldx, l0, hpos, hposN, kTask, mdraw_full, hT2, hb0, hz2, hzs2, hb2', w]
      · rw [hT1]
        have hpl := taskL_plain hT1 a c
        have hnm : (tk.at a c).name.size ≤ 100000 := by
          rw [hpl.2]
          by_cases hl1 : 1 < r.w.length
          · rw [List.getD_eq_getElem?_getD, List.getElem?_eq_getElem hl1]
            exact hwsz.2 _ (List.getElem_mem _)
          · rw [List.getD_eq_getElem?_getD, List.getElem?_eq_none (by omega)]; simp
        simp only []
        have hS1 : SetA b7 p x1 x2 v out (H1 ++ [.cells ⟨0, true, false⟩ (taskC (tk.at a c))]) G := (Pt.good.star OwnA.good).ext hS (E12 _)
        have hP1 : (H1 ++ [MObj.cells ⟨0, true, false⟩ (taskC (tk.at a c))])[b7]? = some (.cells ⟨0, true, false⟩ [.int .i64 p, x1, x2, v]) := star_at hS1
        have hv1 : isUnk v = false := by
          obtain ⟨A, C, h1, h2, _⟩ := hS1
          rcases h2 with ⟨rfl, _⟩ | ⟨bb, nn, cc, cs', rfl, _⟩ <;> rfl
        obtain ⟨v', H2, H3, G3, a1, a2, a3, a4⟩ := push_fld (k := 3) (bytes := 72) hS1 rfl (by simp) (tasks_one out) (xs := taskC (tk.at a c)) rfl rfl (by omega) (by rw [tasks_len]; omega) (by omega)
        have k3 : KeepP P13 (H1 ++ [.cells ⟨0, true, false⟩ (taskC (tk.at a c))]) H3 := KeepP.upd a4 (setA_es hS1)
        have kE : KeepP P13 H (H1 ++ [.cells ⟨0, true, false⟩ (taskC (tk.at a c))]) := KeepP.ext (E12 _)
        have kH := kE.trans k3
        have a3' : SetA b7 p x1 x2 v' (out ++ [tk.at a c]) H3 G3 := by
          unfold SetA
          rw [List.flatMap_append]
          simpa using a3
        have hz2 := (E12 (.cells ⟨0, true, false⟩ (taskC (tk.at a c)))).get hz
        have hb3 : b2 ∉ G3 := fun h => by
          rcases a4.new _ h with h | h
          · exact hb h
          · have := (List.getElem?_eq_some_iff.1 hz2).1; omega
        have hP3 : PartsAt H3 (out ++ [tk.at a c]) := fun t ht => by
          rcases List.mem_append.1 ht with h | h
          · exact (hP.keepP kH) t h
          · simp at h; subst h
            exact ⟨(RowG.ext hT3 ⟨[_], rfl⟩).keepP k3 (by unfold P13; omega), hT4, hnm⟩
        have hld3 := ld_at hP1 3
        have hU := Upd.ext (F := G) (E12 (.cells ⟨0, true, false⟩ (taskC (tk.at a c))))
        rcases ih (i + 1) H3 G3 (out ++ [tk.at a c]) v' (by omega) (by simp; omega) (Row.keepP hr kH (by unfold P13; omega)) (hW.keep13 kH) a3' hP3 (a4.get hz2 hb) hb3 with ⟨ts, h1, H', G', v'', ts', h2, h3, h4, h5, h6⟩ | ⟨e, h1, H', G', h2, h6⟩
        · have h1' : tasksL ((rs.drop (i + 1)).map RwL.plain) = .inl ts := h1
          refine .inl ⟨tk :: ts, by rw [h1'], H', G', v'', tk.at a c :: ts', ?_, by simpa using h3, by rw [List.map_cons, h4, hpl.1], by simpa using h5, hU.trans (a4.trans h6)⟩
          simp only [taskC, TaskL.at] at hT2 a1 hld3
          simp at a1
          rw [Rc_loop]
          simp [m28_0, hil', hia, hrdn, stx, ldx, ldnx, l0, hpos, hposN, kTask, hT2, hld3, hv1, a1, a2, w]
          exact h2
        · have h1' : tasksL ((rs.drop (i + 1)).map RwL.plain) = .inr e := h1
          refine .inr ⟨e, by rw [h1'], H', G', ?_, hU.trans (a4.trans h6)⟩
          simp only [taskC, TaskL.at] at hT2 a1 hld3
          simp at a1
          rw [Rc_loop]
          simp [m28_0, hil', hia, hrdn, stx, ldx, ldnx, l0, hpos, hposN, kTask, hT2, hld3, hv1, a1, a2, w]
          exact h2
    · rw [if_pos ht]
      have ht' : ¬ w0 = [116, 97, 115, 107] := ht
      refine .inr ⟨(r.at_, 10), rfl, _, G, ?_, Upd.ext e1⟩
      rw [Rc_loop]
      simp [m28_0, hil', hia, hrdn, stx, ldx, l0, hpos, hposN, ht', mdraw_full, hz1, hzs, w]
end
end Go.Mod

/- Package text: tasks, line by line. -/
import Derived.Test.YthpeamllfledkaaGreatDoorGs2
import Derived.Test.YthpeamllfledkaaGreatDoorGs1
import Derived.Test.YthpeamllfledkaaGreatDoorGrF
set_option linter.unusedVariables false
set_option linter.unusedSimpArgs false
namespace Go.Mod
open Go.Lib

def tasksL : List (Nat × List Bs) → List TaskL ⊕ (Nat × Int)
  | [] => .inl []
  | (i, w) :: l => if ¬ w.getD 0 [] = kTask then .inr (i, 10) else match taskL w with
    | none => .inr (i, badL w)
    | some t => match tasksL l with
      | .inl ts => .inl (t :: ts)
      | .inr e => .inr e
def TaskL.plain (t : TaskL) : TaskL := t.at none 0
def zSetC : List Value := [.int .i64 0, .slice none 0 0, .slice none 0 0, .slice none 0 0]
def zSet : MObj := .cells ⟨0, true, false⟩ [.int .i64 0, .slice none 0 0, .slice none 0 0, .slice none 0 0]
def SetA (b : Nat) (p : Int) (x1 x2 v : Value) (out : List TaskL) : HP := Pt b ⟨0, true, false⟩ [.int .i64 p, x1, x2, v] * OwnA 6 v (out.flatMap taskC)
def PartsAt (H : MH) (l : List TaskL) : Prop := ∀ t ∈ l, RowG 3 H t.pa t.parts partC ∧ t.parts.length ≤ 100001 ∧ t.name.size ≤ 100000
def P13 (e : Nat) : Prop := e = 1 ∨ e = 2 ∨ e = 3
theorem tasks_len (l : List TaskL) : (l.flatMap taskC).length = l.length * 6 := flat_len fun x hx => rfl
theorem tasks_one (l : List TaskL) : (l.flatMap taskC).all one = true := by
  induction l with
  | nil => rfl
  | cons p l ih => rw [List.flatMap_cons, List.all_append, ih]; rfl
theorem taskL_plain {w : List Bs} {t : TaskL} (h : taskL w = some t) (a : Option Addr) (c : Nat) : (t.at a c).plain = t ∧ (t.at a c).name.size = (w.getD 1 []).length := by
  unfold taskL at h
  split at h <;> first | contradiction | skip
  split at h <;> first | contradiction | skip
  split at h <;> first | contradiction | skip
  cases h
  exact ⟨rfl, by simp [TaskL.at]⟩
section
variable {mp : FuncId → Option MDef} {H : MH}
theorem setA_es {b : Nat} {p : Int} {x1 x2 v : Value} {out : List TaskL} {G : List Nat} (h : SetA b p x1 x2 v out H G) : ∀ id ∈ G, ∀ i cs, H[id]? = some (.cells i cs) → ¬ P13 i.es := by
  obtain ⟨A, C, hA, hC, _, hG⟩ := h
  intro id hid i cs hi hp
  rcases (hG id).1 hid with h | h
  · rw [hA.1] at h; simp at h; subst h
    rw [hA.2] at hi; cases hi
    unfold P13 at hp; simp at hp
  · have := own_es hC id h i cs hi
    unfold P13 at hp; omega
theorem PartsAt.keepP {H1 : MH} {l : List TaskL} (h : PartsAt H l) (k : KeepP P13 H H1) : PartsAt H1 l := fun t ht => ⟨(h t ht).1.keepP k (by unfold P13; omega), (h t ht).2⟩
theorem WordsAt.keep13 {H1 : MH} {rs : List RwL} (h : WordsAt H rs) (k : KeepP P13 H H1) : WordsAt H1 rs := fun r hr => Row.keepP (h r hr) k (by unfold P13; omega)
theorem rw_wid (l : List RwL) : ∀ x ∈ l, (rwC x).length = 2 ∧ (rwC x).all one = true := fun x _ => ⟨rfl, rfl⟩
theorem parse_loop {t : TypeId} (P : TxP mp t) (h45 : mp 19 = some (.code m19)) {rs : List RwL} (hne : ∀ r ∈ rs, r.w ≠ []) (hsz : ∀ r ∈ rs, r.w.length ≤ 100000 ∧ ∀ w ∈ r.w, w.length ≤ 100000) (hlen : rs.length ≤ 100001) {sa : Option Addr} {sn sc : Nat} {b2 b7 : Nat} {p : Int} {x1 x2 v5 v6 : Value} {k8 : Int} (h1u : isUnk x1 = false) :
    ∀ (k i : Nat) (H : MH) (G : List Nat) (out : List TaskL) (v : Value), i + k = rs.length → out.length ≤ i → Row 2 H (.slice sa sn sc) (rs.flatMap rwC) → WordsAt H rs → SetA b7 p x1 x2 v out H G → PartsAt H out → H[b2]? = some zSet → b2 ∉ G →
    (∃ ts, tasksL ((rs.drop i).map RwL.plain) = .inl ts ∧ ∃ (H' : MH) (G' : List Nat) (v' : Value) (ts' : List TaskL),
      Rc mp (.loop m7_0) [(2, .pointer (some ⟨b2, 0, none⟩)), (5, v5), (6, v6), (7, .pointer (some ⟨b7, 0, none⟩)), (8, .int .i64 k8), (40, .slice sa sn sc), (41, .int .i64 (sn : Int)), (42, .int .i64 (i : Int))] H =
        some (.exit 0, [(2, .pointer (some ⟨b2, 0, none⟩)), (5, v5), (6, v6), (7, .pointer (some ⟨b7, 0, none⟩)), (8, .int .i64 k8), (40, .slice sa sn sc), (41, .int .i64 (sn : Int)), (42, .int .i64 (sn : Int)), (43, .bool false)], H') ∧
        SetA b7 p x1 x2 v' (out ++ ts') H' G' ∧ ts'.map TaskL.plain = ts ∧ PartsAt H' (out ++ ts') ∧ Upd H G H' G') ∨
    (∃ e, tasksL ((rs.drop i).map RwL.plain) = .inr e ∧ ∃ (H' : MH) (G' : List Nat),
      Rc mp (.loop m7_0) [(2, .pointer (some ⟨b2, 0, none⟩)), (5, v5), (6, v6), (7, .pointer (some ⟨b7, 0, none⟩)), (8, .int .i64 k8), (40, .slice sa sn sc), (41, .int .i64 (sn : Int)), (42, .int .i64 (i : Int))] H =
        some (.ret, [(2, .pointer (some ⟨b2, 0, none⟩)), (3, .int .i64 (e.1 : Int)), (4, .int .i64 e.2)], H') ∧ Upd H G H' G') := by
  intro k
  induction k with
  | zero =>
    intro i H G out v hi ho hr hW hS hP hz hb
    obtain ⟨hg, hn⟩ := RowG.of hr (by omega) (rw_wid rs)
    have : i = rs.length := by omega
    subst this
    refine .inl ⟨[], by rw [List.drop_length]; rfl, H, G, v, [], ?_, by simpa using hS, rfl, by simpa using hP, Upd.refl _ _⟩
    rw [Rc_loop]
    simp [m7_0, hn]
  | succ k ih =>
    intro i H G out v hi ho hr hW hS hP hz hb
    obtain ⟨hg, hn⟩ := RowG.of hr (by omega) (rw_wid rs)
    have hil : i < rs.length := by omega
    have hil' : i < sn := by omega
    have hdrop : rs.drop i = rs[i] :: rs.drop (i + 1) := List.drop_eq_getElem_cons hil
    have hget := List.getElem?_eq_getElem hil
    have hmem := List.getElem_mem hil
    have hia := rw_ia hg hil sc
    rw [← hn] at hia
    have hrdn := hg.rdn hget H (Ext.refl H)
    have hwrow := hW _ hmem
    have hwne := hne _ hmem
    have hwsz := hsz _ hmem
    have w : IntKind.i64.wrap ((i : Int) + 1) = (i : Int) + 1 := wrap_i64 (by omega) (by omega)
    rw [hdrop, List.map_cons]
    generalize rs[i] = r at hget hmem hrdn hwrow hwne hwsz
    simp only [rwC] at hrdn
    obtain ⟨w0, hw0⟩ : ∃ x, r.w[0]? = some x := ⟨_, List.getElem?_eq_getElem (List.length_pos_iff.2 hwne)⟩
    have hd0 : r.w.getD 0 [] = w0 := by rw [List.getD_eq_getElem?_getD, hw0]; rfl
    have hpos : (0 : Int) < (r.w.length : Int) := by have := List.length_pos_iff.2 hwne; omega
    have hposN : 0 < r.w.length := List.length_pos_iff.2 hwne
    have e1 : Ext H (H ++ [.cells ⟨0, true, false⟩ [.int .i64 (r.at_ : Int), .slice r.wa r.w.length r.wc]]) := ⟨_, rfl⟩
    obtain ⟨b0, o0, hwa, l0, _⟩ := row_get (row_ext' hwrow e1) (k := 0) (x := .string (B w0)) (by simp [sv, hw0])
    have hwrow1 := row_ext' hwrow e1
    have hz1 := e1.get hz
    have hzs := set_id hz1
    unfold zSet at hz1 hzs
    simp only [tasksL, RwL.plain, hd0]
    rw [hwa] at hrdn e1 l0 hwrow1 hz1 hzs
    rw [Nat.add_zero] at l0
    simp at l0
    by_cases ht : w0 = kTask
    · rw [if_neg (fun h => h ht)]
      subst ht
      obtain ⟨H1, xe, hT⟩ := R_tasked P h45 (ws := r.w) hwsz.2 hwne (by omega) hwrow1
      have hb11 : (H ++ [MObj.cells ⟨0, true, false⟩ [.int .i64 (r.at_ : Int), .slice (some ⟨b0, o0, none⟩) r.w.length r.wc]])[H.length]? = some (.cells ⟨0, true, false⟩ [.int .i64 (r.at_ : Int), .slice (some ⟨b0, o0, none⟩) r.w.length r.wc]) := by simp
      have E12 : ∀ o, Ext H (H1 ++ [o]) := fun o => (e1.trans xe).trans ⟨[o], rfl⟩
      have E11 : ∀ o, Ext (H ++ [MObj.cells ⟨0, true, false⟩ [.int .i64 (r.at_ : Int), .slice (some ⟨b0, o0, none⟩) r.w.length r.wc]]) (H1 ++ [o]) := fun o => xe.trans ⟨[o], rfl⟩
      rcases hT with ⟨hT1, hT2⟩ | ⟨tk, a, c, hT1, hT2, hT3, hT4⟩
      · rw [hT1]
        have hbe : badL r.w = 10 ∨ badL r.w = 18 := by unfold badL; split <;> simp
        generalize badL r.w = bad at hT2 hbe
        have hb0 : ¬ bad = 0 := by omega
        have hz2 := (E11 (.cells ⟨0, true, false⟩ [.string ⟨#[]⟩, .int .i64 0, .int .i64 0, .int .i64 0, .int .i64 0, .slice none 0 0])).get hz1
        have hzs2 := set_id hz2
        have hb2' := (E11 (.cells ⟨0, true, false⟩ [.string ⟨#[]⟩, .int .i64 0, .int .i64 0, .int .i64 0, .int .i64 0, .slice none 0 0])).get hb11
        refine .inr ⟨(r.at_, bad), rfl, _, G, ?_, Upd.ext (E12 (.cells ⟨0, true, false⟩ [.string ⟨#[]⟩, .int .i64 0, .int .i64 0, .int .i64 0, .int .i64 0, .slice none 0 0]))⟩
        rw [Rc_loop]
        simp [m7_0, hil', hia, hrdn, stx, ldx, l0, hpos, hposN, kTask, mdraw_full, hT2, hb0, hz2, hzs2, hb2', w]
      · rw [hT1]
        have hpl := taskL_plain hT1 a c
        have hnm : (tk.at a c).name.size ≤ 100000 := by
          rw [hpl.2]
          by_cases hl1 : 1 < r.w.length
          · rw [List.getD_eq_getElem?_getD, List.getElem?_eq_getElem hl1]
            exact hwsz.2 _ (List.getElem_mem _)
          · rw [List.getD_eq_getElem?_getD, List.getElem?_eq_none (by omega)]; simp
        simp only []
        have hS1 : SetA b7 p x1 x2 v out (H1 ++ [.cells ⟨0, true, false⟩ (taskC (tk.at a c))]) G := (Pt.good.star OwnA.good).ext hS (E12 _)
        have hP1 : (H1 ++ [MObj.cells ⟨0, true, false⟩ (taskC (tk.at a c))])[b7]? = some (.cells ⟨0, true, false⟩ [.int .i64 p, x1, x2, v]) := star_at hS1
        have hv1 : isUnk v = false := by
          obtain ⟨A, C, h1, h2, _⟩ := hS1
          rcases h2 with ⟨rfl, _⟩ | ⟨bb, nn, cc, cs', rfl, _⟩ <;> rfl
        obtain ⟨v', H2, H3, G3, a1, a2, a3, a4⟩ := push_fld (k := 3) (bytes := 72) hS1 rfl (by simp) (tasks_one out) (xs := taskC (tk.at a c)) rfl rfl (by omega) (by rw [tasks_len]; omega) (by omega)
        have k3 : KeepP P13 (H1 ++ [.cells ⟨0, true, false⟩ (taskC (tk.at a c))]) H3 := KeepP.upd a4 (setA_es hS1)
        have kE : KeepP P13 H (H1 ++ [.cells ⟨0, true, false⟩ (taskC (tk.at a c))]) := KeepP.ext (E12 _)
        have kH := kE.trans k3
        have a3' : SetA b7 p x1 x2 v' (out ++ [tk.at a c]) H3 G3 := by
          unfold SetA
          rw [List.flatMap_append]
          simpa using a3
        have hz2 := (E12 (.cells ⟨0, true, false⟩ (taskC (tk.at a c)))).get hz
        have hb3 : b2 ∉ G3 := fun h => by
          rcases a4.new _ h with h | h
          · exact hb h
          · have := (List.getElem?_eq_some_iff.1 hz2).1; omega
        have hP3 : PartsAt H3 (out ++ [tk.at a c]) := fun t ht => by
          rcases List.mem_append.1 ht with h | h
          · exact (hP.keepP kH) t h
          · simp at h; subst h
            exact ⟨(RowG.ext hT3 ⟨[_], rfl⟩).keepP k3 (by unfold P13; omega), hT4, hnm⟩
        have hld3 := ld_at hP1 3
        have hU := Upd.ext (F := G) (E12 (.cells ⟨0, true, false⟩ (taskC (tk.at a c))))
        rcases ih (i + 1) H3 G3 (out ++ [tk.at a c]) v' (by omega) (by simp; omega) (Row.keepP hr kH (by unfold P13; omega)) (hW.keep13 kH) a3' hP3 (a4.get hz2 hb) hb3 with ⟨ts, h1, H', G', v'', ts', h2, h3, h4, h5, h6⟩ | ⟨e, h1, H', G', h2, h6⟩
        · have h1' : tasksL ((rs.drop (i + 1)).map RwL.plain) = .inl ts := h1
          refine .inl ⟨tk :: ts, by rw [h1'], H', G', v'', tk.at a c :: ts', ?_, by simpa using h3, by rw [List.map_cons, h4, hpl.1], by simpa using h5, hU.trans (a4.trans h6)⟩
          simp only [taskC, TaskL.at] at hT2 a1 hld3
          simp at a1
          rw [Rc_loop]
          simp [m7_0, hil', hia, hrdn, stx, ldx, ldnx, l0, hpos, hposN, kTask, hT2, hld3, hv1, a1, a2, w]
          exact h2
        · have h1' : tasksL ((rs.drop (i + 1)).map RwL.plain) = .inr e := h1
          refine .inr ⟨e, by rw [h1'], H', G', ?_, hU.trans (a4.trans h6)⟩
          simp only [taskC, TaskL.at] at hT2 a1 hld3
          simp at a1
          rw [Rc_loop]
          simp [m7_0, hil', hia, hrdn, stx, ldx, ldnx, l0, hpos, hposN, kTask, hT2, hld3, hv1, a1, a2, w]
          exact h2
    · rw [if_pos ht]
      have ht' : ¬ w0 = [116, 97, 115, 107] := ht
      refine .inr ⟨(r.at_, 10), rfl, _, G, ?_, Upd.ext e1⟩
      rw [Rc_loop]
      simp [m7_0, hil', hia, hrdn, stx, ldx, l0, hpos, hposN, ht', mdraw_full, hz1, hzs, w]
end
end Go.Mod
/- Package text: sets parsed: what is said. -/
set_option linter.unusedVariables false
set_option linter.unusedSimpArgs false
namespace Go.Mod
open Go.Lib

def plainSet (p : Int) (cores homes : List Int) (ts : List TaskL) : SetL := ⟨p, cores, none, 0, homes, none, 0, ts, none, 0⟩
def SetL.plain (s : SetL) : SetL := plainSet s.proto s.cores s.homes (s.tasks.map TaskL.plain)
theorem taskE_plain (s : SetL) (i : Nat) (t : TaskL) : taskE s.plain i t.plain = taskE s i t := by
  unfold taskE
  have h1 : formOk t.plain = formOk t := rfl
  have h2 : (∃ o ∈ s.plain.tasks.take i, o.name = t.plain.name ∨ o.prio = t.plain.prio) ↔ ∃ o ∈ s.tasks.take i, o.name = t.name ∨ o.prio = t.prio := by
    show (∃ o ∈ (s.tasks.map TaskL.plain).take i, _) ↔ _
    rw [← List.map_take]
    constructor
    · rintro ⟨o, ho, h⟩
      obtain ⟨x, hx, rfl⟩ := List.mem_map.1 ho
      exact ⟨x, hx, h⟩
    · rintro ⟨o, ho, h⟩
      exact ⟨o.plain, List.mem_map_of_mem ho, h⟩
  have h3 : t.plain.cluster = t.cluster := rfl
  have h4 : t.plain.parts = t.parts := rfl
  have h5 : s.plain.cores = s.cores := rfl
  have h6 : s.plain.homes = s.homes := rfl
  rw [h1, h3, h4, h5, h6]
  simp only [h2]
theorem firstE_plain (s : SetL) : ∀ (l : List TaskL) (i : Nat), firstE s.plain i (l.map TaskL.plain) = firstE s i l
  | [], i => rfl
  | t :: l, i => by
    simp only [List.map_cons, firstE, taskE_plain, firstE_plain s l (i + 1)]
theorem checkE_plain (s : SetL) : checkE s.plain = checkE s := by
  unfold checkE
  have h1 : s.plain.proto = s.proto := rfl
  have h2 : s.plain.cores = s.cores := rfl
  have h3 : s.plain.homes = s.homes := rfl
  have h4 : s.plain.tasks = s.tasks.map TaskL.plain := rfl
  have h5 : firstE s.plain 0 (s.tasks.map TaskL.plain) = firstE s 0 s.tasks := firstE_plain s s.tasks 0
  rw [h1, h2, h3, h4, h5]
  simp only [List.length_map, List.map_eq_nil_iff]
theorem firstE_lt (s : SetL) : ∀ (l : List TaskL) (i : Nat), (firstE s i l).1 = -1 ∧ (firstE s i l).2 = 0 ∨ ∃ j : Nat, (firstE s i l).1 = (j : Int) ∧ i ≤ j ∧ j < i + l.length
  | [], i => .inl ⟨rfl, rfl⟩
  | t :: l, i => by
    unfold firstE
    split
    · rcases firstE_lt s l (i + 1) with h | ⟨j, h1, h2, h3⟩
      · exact .inl h
      · exact .inr ⟨j, h1, by omega, by simp; omega⟩
    · exact .inr ⟨i, rfl, by omega, by simp⟩
theorem checkE_cases (s : SetL) : ((checkE s).1 = -1 ∧ ((checkE s).2 = 0 ∨ (checkE s).2 = 10 ∨ (checkE s).2 = 16 ∨ (checkE s).2 = 11 ∨ (checkE s).2 = 14)) ∨ ∃ j : Nat, (checkE s).1 = (j : Int) ∧ j < s.tasks.length := by
  unfold checkE
  split
  · exact .inl ⟨rfl, .inr (.inl rfl)⟩
  split
  · exact .inl ⟨rfl, .inr (.inr (.inl rfl))⟩
  split
  · exact .inl ⟨rfl, .inr (.inr (.inr (.inl rfl)))⟩
  split
  · exact .inl ⟨rfl, .inr (.inr (.inr (.inr rfl)))⟩
  rcases firstE_lt s s.tasks 0 with h | ⟨j, h1, _, h3⟩
  · exact .inl ⟨h.1, .inl h.2⟩
  · exact .inr ⟨j, h1, by omega⟩

def atL (rows : List (Nat × List Bs)) (k all : Nat) : Int := match rows[k]? with
  | some r => (r.1 : Int)
  | none => (all : Int)
/-- What a text is: which line isn't so, and how; or a set, and how many lines there are. -/
noncomputable def parseL (l : Bs) : (Int × Int) ⊕ (SetL × Nat) :=
  if 2000 < l.length then .inl (0, 11) else
  let lines := trimE (cutAt 10 l)
  let rows := rowsL 0 lines
  let h := headL rows
  if h.ok = false then .inl (atL rows h.k lines.length, 10) else
  match tasksL (rows.drop h.k) with
  | .inr e => .inl ((e.1 : Int), e.2)
  | .inl ts =>
    let c := checkE (plainSet h.p h.cores h.homes ts)
    if c.2 = 0 then .inr (plainSet h.p h.cores h.homes ts, lines.length) else
    if 0 ≤ c.1 then .inl (atL rows (h.k + c.1.toNat) lines.length, c.2) else
    if c.2 = 14 ∨ c.2 = 11 then .inl ((lines.length : Int), c.2) else .inl (atL rows 1 lines.length, c.2)

theorem rowsL_mem : ∀ (ls : List Bs) (i : Nat), ∀ r ∈ rowsL i ls, r.2 ≠ [] ∧ ∃ s ∈ ls, r.2 = wordsOf s
  | [], _, r, h => by cases h
  | s :: l, i, r, h => by
    unfold rowsL at h
    split at h
    · obtain ⟨h1, t, ht, h2⟩ := rowsL_mem l (i + 1) r h
      exact ⟨h1, t, by simp [ht], h2⟩
    · rename_i hw
      rcases List.mem_cons.1 h with rfl | h
      · exact ⟨hw, s, by simp, rfl⟩
      · obtain ⟨h1, t, ht, h2⟩ := rowsL_mem l (i + 1) r h
        exact ⟨h1, t, by simp [ht], h2⟩
theorem rowsL_len : ∀ (ls : List Bs) (i : Nat), (rowsL i ls).length ≤ ls.length
  | [], _ => by simp [rowsL]
  | s :: l, i => by
    have := rowsL_len l (i + 1)
    unfold rowsL
    split <;> simp <;> omega
theorem words_bound (s : Bs) : (wordsOf s).length ≤ s.length + 1 ∧ ∀ w ∈ wordsOf s, w.length ≤ s.length := by
  have h4 := cutAt_len 32 (s.takeWhile (· ≠ 35))
  have h5 := tw_len s (· ≠ 35)
  have h6 := List.length_filter_le (fun x : List UInt8 => decide (x ≠ [])) (cutAt 32 (s.takeWhile (· ≠ 35)))
  unfold wordsOf noE
  refine ⟨by omega, fun w hw => ?_⟩
  have := cutAt_mem_len 32 _ w (List.mem_filter.1 hw).1
  omega
theorem trimE_mem : ∀ {p : List Bs} {x : Bs}, x ∈ trimE p → x ∈ p
  | [], x, h => by cases h
  | [y], x, h => by
    rw [trimE_one] at h
    split at h
    · cases h
    · exact h
  | y :: z :: t, x, h => by
    rw [trimE_cons (by simp)] at h
    rcases List.mem_cons.1 h with rfl | h
    · simp
    · exact List.mem_cons_of_mem _ (trimE_mem h)
theorem trimE_len (p : List Bs) : (trimE p).length ≤ p.length := by
  by_cases h : p = []
  · subst h; simp [trimE]
  · rw [trimE_eq h]; split <;> simp <;> omega
theorem headL_bounds (l : List (Nat × List Bs)) (hl : ∀ r ∈ l, r.2.length ≤ 100000) : (headL l).cores.length ≤ 100000 ∧ (headL l).homes.length ≤ 100000 ∧ ((headL l).ok = true → 2 ≤ (headL l).k ∧ (headL l).k ≤ l.length) := by
  unfold headL
  split
  · simp
  rename_i i0 w0 l1
  split
  · simp
  split
  · simp
  split
  · simp
  rename_i i1 w1 l2
  split
  · simp
  split
  · simp
  rename_i cs hcs
  have h1 := numsL_len hcs
  have h2 := hl (i1, w1) (by simp)
  split
  · simp
  split
  · simp at h1 h2 ⊢; omega
  rename_i i2 w2 l3
  have h3 := hl (i2, w2) (by simp)
  split
  · simp at h1 h2 ⊢; omega
  split
  · simp
  rename_i hs hhs
  have h4 := numsL_len hhs
  split
  · simp
  · simp at h1 h2 h3 h4 ⊢; omega
theorem tasksL_len : ∀ {l : List (Nat × List Bs)} {ts : List TaskL}, tasksL l = .inl ts → ts.length = l.length
  | [], ts, h => by cases h; rfl
  | (i, w) :: l, ts, h => by
    unfold tasksL at h
    split at h <;> first | contradiction | skip
    split at h <;> first | contradiction | skip
    split at h <;> first | contradiction | skip
    rename_i ts' hts
    cases h
    simp [tasksL_len hts]
end Go.Mod
/- Package text: Parse. -/
set_option linter.unusedVariables false
set_option linter.unusedSimpArgs false
namespace Go.Mod
open Go.Lib

/-- A set of nought, a line, how it is wrong. -/
def errW (n e : Int) : Value := .tuple #[.agg #[.int .i64 0, .slice none 0 0, .slice none 0 0, .slice none 0 0], .int .i64 n, .int .i64 e]
section
variable {mp : FuncId → Option MDef} {H : MH}
theorem R_line (hf : mp 18 = some (.code m18)) {a : Option Addr} {rs : List RwL} {n c : Nat} (hn : n = rs.length) (hr : RowG 2 H a rs rwC) (k all : Nat) : R mp 18 [.slice a n c, .int .i64 (k : Int), .int .i64 (all : Int)] H = some (.int .i64 (atL (rs.map RwL.plain) k all), H) := by
  rw [R_code hf]
  unfold atL
  by_cases h : k < rs.length
  · have hk := List.getElem?_eq_getElem h
    have i0 := rw_ia hr h c
    rw [← hn] at i0
    have l0 := rw_at hr hk
    have h1 : ¬ (n : Int) ≤ (k : Int) := by omega
    rw [List.getElem?_map, hk]
    generalize rs[k] = r at hk l0
    simp [m18, h1, i0, l0, RwL.plain]
  · have h1 : (n : Int) ≤ (k : Int) := by omega
    rw [List.getElem?_eq_none (by simp; omega)]
    simp [m18, h1]
/-- What package text's Parse leans on. -/
structure TxQ (mp : FuncId → Option MDef) (t : TypeId) : Prop where
  P : TxP mp t
  a : mp 15 = some (.code m15)
  b : mp 39 = some (.code m39)
  c : mp 54 = some (.intr (scalS cutG))
  d : mp 16 = some (.code m16)
  e : mp 17 = some (.code m17)
  f : mp 27 = some (.code m27)
  g : mp 18 = some (.code m18)
  h : mp 19 = some (.code m19)
  i : mp 7 = some (.code m7)
  k : ChkP mp 43 58 59 60 76 44 62 61 63 77 64 45 20
/-- What Parse hands back. -/
def Parsed (H : MH) (x : Option (Value × MH)) (l : Bs) : Prop :=
  match parseL l with
  | .inl e => ∃ H', x = some (errW e.1 e.2, H') ∧ Ext H H'
  | .inr s => ∃ s' H', x = some (.tuple #[.agg s'.cells.toArray, .int .i64 (s.2 : Int), .int .i64 0], H') ∧ Ext H H' ∧ SetAt H' s' ∧ s'.plain = s.1
theorem intC_flat (l : List Int) : l.flatMap intC = i64s l := by
  induction l with
  | nil => rfl
  | cons x l ih => rw [List.flatMap_cons, ih]; rfl
theorem row_dropG {α : Type} {w : Nat} {l : List α} {g : α → List Value} {a : Option Addr} {n c : Nat} (hw0 : 0 < w) (hw : ∀ x ∈ l, (g x).length = w ∧ (g x).all one = true) (h : Row w H (.slice a n c) (l.flatMap g)) {k : Nat} (hk : k ≤ n) : ∃ a' n' c', mread (.sl w true false false) [.slice a n c, .int .i64 (k : Int)] H = some (.slice a' n' c') ∧ Row w H (.slice a' n' c') ((l.drop k).flatMap g) := by
  have hn := h.gn (fun x hx => (hw x hx).1) hw0
  rcases h with ⟨h1, h2⟩ | ⟨b, o, m, d, i, cs, h1, h2, h3, h4, h5, h6⟩
  · cases h1
    have : k = 0 := by omega
    subst this
    exact ⟨none, 0, 0, rfl, .inl ⟨rfl, by rw [List.drop_zero, h2]⟩⟩
  · cases h1
    have hs := sl_at h3 h4 true false false o n c [.int .i64 (k : Int)]
    have e1 : (0 : Int) ≤ (k : Int) := by omega
    have e2 : (k : Int) ≤ (n : Int) := by omega
    have hm : (n - k) * w + k * w = n * w := by rw [← Nat.add_mul]; congr 1; omega
    refine ⟨some ⟨b, o + k * w, none⟩, n - k, c - k, ?_, .inr ⟨b, o + k * w, n - k, c - k, i, cs, rfl, by omega, h3, h4, by omega, ?_⟩⟩
    · rw [hs]
      simp only [slBound, e1, e2, and_self, if_true, Option.map_some, Int.toNat_natCast]
    · have hfl : ∀ (k : Nat) (l : List α), (∀ x ∈ l, (g x).length = w) → (l.drop k).flatMap g = (l.flatMap g).drop (k * w) := by
        intro k
        induction k with
        | zero => intro l _; simp
        | succ k ih =>
          intro l hl
          cases l with
          | nil => simp
          | cons x l =>
            rw [List.drop_succ_cons, ih l (fun y hy => hl y (by simp [hy])), List.flatMap_cons, List.drop_append, hl x (by simp)]
            have e : (k + 1) * w - w = k * w := by rw [Nat.add_mul]; omega
            rw [e, List.drop_of_length_le (l := g x) (by rw [hl x (by simp), Nat.add_mul]; omega), List.nil_append]
      rw [hfl k l fun x hx => (hw x hx).1, ← h6, List.drop_take, List.drop_drop]
      congr 1
      omega
theorem R_parse {t : TypeId} (Q : TxQ mp t) (l : Bs) : Parsed H (R mp 7 [.string (B l)] H) l := by
  have P := Q.P
  unfold Parsed parseL
  have e0 : Ext H (H ++ [zSet]) := ⟨_, rfl⟩
  by_cases hbig : 2000 < l.length
  · rw [if_pos hbig]
    have hbig' : (2000 : Int) < (l.length : Int) := by omega
    refine ⟨_, ?_, e0⟩
    rw [R_code Q.i]
    simp [m7, hbig, hbig', stx, ldnx, zSet, errW]
  rw [if_neg hbig]
  have hbig' : ¬ (2000 : Int) < (l.length : Int) := by omega
  obtain ⟨a1, n1, c1, H1, q1, r1, x1⟩ := R_lines (mp := mp) (H := H ++ [zSet]) Q.a P.d (l := l) (by omega)
  have hlt : (trimE (cutAt 10 l)).length ≤ 2001 := by have h1 := trimE_len (cutAt 10 l); have h2 := cutAt_len 10 l; omega
  have hlm : ∀ w ∈ trimE (cutAt 10 l), w.length ≤ 2000 := fun w hw => by have := cutAt_mem_len 10 l w (trimE_mem hw); omega
  have hn1 := r1.svn
  simp only []
  generalize trimE (cutAt 10 l) = lines at r1 hlt hlm hn1 ⊢
  obtain ⟨a2, n2, c2, rs, H2, q2, x2, r2, hW2, hrs⟩ := R_rows (mp := mp) (H := H1) Q.d Q.b P.d Q.c (ls := lines) (fun w hw => by have := hlm w hw; omega) (by omega) r1
  have hrl := rowsL_len lines 0
  rw [← hrs] at hrl ⊢
  rw [List.length_map] at hrl
  have hmem : ∀ r ∈ rs, r.w ≠ [] ∧ r.w.length ≤ 2001 ∧ ∀ w ∈ r.w, w.length ≤ 2000 := fun r hr => by
    have h1 := rowsL_mem lines 0 r.plain (hrs ▸ List.mem_map_of_mem hr)
    obtain ⟨h2, s, hs, h3⟩ := h1
    have h4 := hlm s hs
    have h5 := words_bound s
    have h6 : r.w = wordsOf s := h3
    exact ⟨h2, by rw [h6]; omega, fun w hw => by rw [h6] at hw; have := h5.2 w hw; omega⟩
  obtain ⟨hg2, hn2⟩ := RowG.of r2 (by omega) (rw_wid rs)
  obtain ⟨y1, y2, pv, H3, q3, x3, o1, o2, hok⟩ := R_head (mp := mp) (H := H2) P Q.e Q.f hn2 hg2 hW2 (fun r hr => (hmem r hr).1) (fun r hr => ⟨by have := (hmem r hr).2.1; omega, fun w hw => by have := (hmem r hr).2.2 w hw; omega⟩) (c := c2)
  have hbd := headL_bounds (rs.map RwL.plain) (fun r hr => by
    obtain ⟨x, hx, rfl⟩ := List.mem_map.1 hr
    have := (hmem x hx).2.1
    show x.w.length ≤ _
    omega)
  rw [List.length_map] at hbd
  generalize headL (rs.map RwL.plain) = h at q3 hok hbd ⊢
  have E3 : Ext H H3 := ((e0.trans x1).trans x2).trans x3
  have hz0 : (H ++ [zSet])[H.length]? = some zSet := by simp
  have hz3 := x3.get (x2.get (x1.get hz0))
  have E4 : ∀ o, Ext H (H3 ++ [o]) := fun o => E3.trans ⟨[o], rfl⟩
  have hz4 : ∀ o, (H3 ++ [o])[H.length]? = some zSet := fun o => (show Ext H3 (H3 ++ [o]) from ⟨[o], rfl⟩).get hz3
  have u1 : isUnk y1 = false := by cases y1 <;> first | rfl | (cases o1; done)
  have u2 : isUnk y2 = false := by cases y2 <;> first | rfl | (cases o2; done)
  have hzs4 := set_id (hz4 (.cells ⟨0, true, false⟩ (setC pv y1 y2)))
  have hzb := hz4 (.cells ⟨0, true, false⟩ (setC pv y1 y2))
  have q1' : R mp 15 [.string (B l)] (H ++ [.cells ⟨0, true, false⟩ [.int .i64 0, .slice none 0 0, .slice none 0 0, .slice none 0 0]]) = some (.slice a1 n1 c1, H1) := q1
  simp only [setC] at q3 hzs4 hzb
  unfold zSet at hzs4 hzb
  by_cases hk : h.ok = false
  · rw [if_pos hk]
    have hq4 := R_line (mp := mp) (H := H3 ++ [.cells ⟨0, true, false⟩ [.int .i64 pv, y1, y2, .slice none 0 0]]) Q.g hn2 ((hg2.ext x3).ext ⟨[_], rfl⟩) (c := c2) h.k lines.length
    rw [← hn1] at hq4 ⊢
    rw [hk] at q3
    refine ⟨_, ?_, E4 (.cells ⟨0, true, false⟩ [.int .i64 pv, y1, y2, .slice none 0 0])⟩
    rw [R_code Q.i]
    simp [m7, hbig, hbig', q1', q2, q3, stx, ldx, ldnx, u1, u2, o1, o2, hq4, hzb, hzs4, errW]
  · rw [if_neg hk]
    have hk' : h.ok = true := by simpa using hk
    obtain ⟨hp, hy1, hy2⟩ := hok hk'
    subst hp
    rw [hk'] at q3
    obtain ⟨hk2, hkl⟩ := hbd.2.2 hk'
    have e4 : Ext H3 (H3 ++ [.cells ⟨0, true, false⟩ [.int .i64 h.p, y1, y2, .slice none 0 0]]) := ⟨_, rfl⟩
    obtain ⟨a4, n4, cLACK4, q4, r4⟩ := row_dropG (by omega) (rw_wid rs) (row_ext' (row_ext' r2 x3) e4) (k := h.k) (by omega)
    have hW4 : WordsAt (H3 ++ [.cells ⟨0, true, false⟩ [.int .i64 h.p, y1, y2, .slice none 0 0]]) (rs.drop h.k) := fun r hr => row_ext' (row_ext' (hW2 r (List.mem_of_mem_drop hr)) x3) e4
    have hS4 : SetA H3.length h.p y1 y2 (.slice none 0 0) [] (H3 ++ [.cells ⟨0, true, false⟩ [.int .i64 h.p, y1, y2, .slice none 0 0]]) [H3.length] :=
      ⟨[H3.length], [], ⟨rfl, by simp⟩, .inl ⟨rfl, rfl, rfl⟩, by simp, by simp⟩
    have hlt3 : H.length < H3.length := (List.getElem?_eq_some_iff.1 hz3).1
    have hz4' := hz4 (.cells ⟨0, true, false⟩ [.int .i64 h.p, y1, y2, .slice none 0 0])
    have ext_of : ∀ {H' : MH} {G' : List Nat}, Upd (H3 ++ [.cells ⟨0, true, false⟩ [.int .i64 h.p, y1, y2, .slice none 0 0]]) [H3.length] H' G' → Ext H3 H' := fun {H' G'} u => by
      have u' : Upd H3 [] H' G' := ⟨Nat.le_trans (by simp) u.len, fun id hid _ => by
        have := u.same id (by simp; omega) (by simp; omega)
        rw [this, List.getElem?_append_left hid], fun id hid => by
        rcases u.new id hid with h | h
        · simp at h; exact .inr (by omega)
        · simp at h; exact .inr (by omega)⟩
      exact u'.toExt.1
    have hmd : (rs.map RwL.plain).drop h.k = (rs.drop h.k).map RwL.plain := by rw [List.map_drop]
    rw [hmd]
    have hloop := parse_loop P Q.h (rs := rs.drop h.k) (fun r hr => (hmem r (List.mem_of_mem_drop hr)).1) (fun r hr => ⟨by have := (hmem r (List.mem_of_mem_drop hr)).2.1; omega, fun w hw => by have := (hmem r (List.mem_of_mem_drop hr)).2.2 w hw; omega⟩) (by simp; omega) (sa := a4) (sn := n4) (sc := cLACK4) (b2 := H.length) (b7 := H3.length) (p := h.p) (x1 := y1) (x2 := y2) (v5 := .slice a1 n1 c1) (v6 := .slice a2 n2 c2) (k8 := (h.k : Int)) u1 (rs.drop h.k).length 0 _ [H3.length] [] (.slice none 0 0) (by omega) (by simp) r4 hW4 hS4 (fun t ht => by cases ht) hz4' (by simp; omega)
    rw [List.drop_zero] at hloop
    rcases hloop with ⟨ts, g1, H', G', v', ts', g2, g3, g4, g5, g6⟩ | ⟨e, g1, H', G', g2, g6⟩
    · rw [g1]
      simp only []
      have e5 := ext_of g6
      have hz5 := g6.get hz4' (by simp; omega)
      simp only [List.nil_append] at g3 g5
      have g3' := g3
      obtain ⟨A, C, hA, hC, hAC, hG⟩ := g3'
      have hbox : H'[H3.length]? = some (.cells ⟨0, true, false⟩ [.int .i64 h.p, y1, y2, v']) := hA.2
      obtain ⟨ca, cn, cc, rfl, hcl⟩ := hy1.slice
      obtain ⟨ha, hn', hc', rfl, hhl⟩ := hy2.slice
      rw [i64s_len] at hcl hhl
      have hrow6 := Own.row hC
      obtain ⟨ta, tn, tc, rfl, htl⟩ := hrow6.slice
      rw [tasks_len] at htl
      have htc : tn ≤ tc := by
        rcases hC with ⟨e, _⟩ | ⟨b, n', c', cs', e, h1, _⟩
        · cases e; omega
        · cases e; exact h1
      have htn : tn = ts'.length := by omega
      have hcn : cn = h.cores.length := by omega
      have hhn : hn' = h.homes.length := by omega
      subst htn hcn hhn
      have hts : ts'.length ≤ 2001 := by
        have h1 := tasksL_len g1
        rw [← g4] at h1
        simp at h1; omega
      have hgc := RowG.of (w := 1) (g := intC) (l := h.cores) (by rw [intC_flat]; exact hy1) (by omega) (fun x hx => ⟨rfl, rfl⟩)
      have hgh := RowG.of (w := 1) (g := intC) (l := h.homes) (by rw [intC_flat]; exact hy2) (by omega) (fun x hx => ⟨rfl, rfl⟩)
      have hgt := RowG.of hrow6 (by omega) (fun x hx => ⟨rfl, rfl⟩)
      have hAt : SetAt H' ⟨h.p, h.cores, ca, cc, h.homes, ha, hc', ts', ta, tc⟩ := by
        refine ⟨(hgc.1).ext e5, (hgh.1).ext e5, hgt.1, fun t ht => (g5 t ht).1, by show h.cores.length ≤ _; omega, by show h.homes.length ≤ _; omega, by show ts'.length ≤ _; omega, htc, fun t ht => ?_⟩
        have h1 := (g5 t ht).2.1
        have h2 := (g5 t ht).2.2
        exact ⟨by omega, by omega⟩
      have hpl : (⟨h.p, h.cores, ca, cc, h.homes, ha, hc', ts', ta, tc⟩ : SetL).plain = plainSet h.p h.cores h.homes ts := by
        show plainSet h.p h.cores h.homes (ts'.map TaskL.plain) = _
        rw [g4]
      have hce := checkE_plain ⟨h.p, h.cores, ca, cc, h.homes, ha, hc', ts', ta, tc⟩
      rw [hpl] at hce
      have hcc := checkE_cases ⟨h.p, h.cores, ca, cc, h.homes, ha, hc', ts', ta, tc⟩
      obtain ⟨H5, hck, e6⟩ := G_checkP Q.k hAt (Ext.refl H')
      rw [← hce] at hcc hck
      have hck' : R mp 20 [.agg #[.int .i64 h.p, .slice ca h.cores.length cc, .slice ha h.homes.length hc', .slice ta ts'.length tc]] H' = some (.tuple #[.int .i64 (checkE (plainSet h.p h.cores h.homes ts)).1, .int .i64 (checkE (plainSet h.p h.cores h.homes ts)).2], H5) := hck
      clear hck
      have hck := hck'
      generalize checkE (plainSet h.p h.cores h.homes ts) = ck at hck hcc ⊢
      obtain ⟨c1', c2'⟩ := ck
      simp only [] at hck hcc ⊢
      have hz6 := e6.get hz5
      have hb6 := e6.get hbox
      have hset6 : ∀ o, (H5.set H.length o)[H.length]? = some o := fun o => List.getElem?_set_self (List.getElem?_eq_some_iff.1 hz6).1
      have hzs6 := set_id hz6
      have E6 : Ext H H5 := (E3.trans e5).trans e6
      unfold zSet at hz6 hzs6
      have hg5 : RowG 2 H5 a2 rs rwC := ((hg2.ext x3).ext e5).ext e6
      simp at g2
      by_cases hc0 : c2' = 0
      · rw [if_pos hc0]
        subst hc0
        have kS : KeepP P13 H5 (H5.set H.length (.cells ⟨0, true, false⟩ [.int .i64 h.p, .slice ca h.cores.length cc, .slice ha h.homes.length hc', .slice ta ts'.length tc])) := keep_set hz6 (by unfold P13; simp)
        have kS6 : KeepP (fun e => e = 6) H5 (H5.set H.length (.cells ⟨0, true, false⟩ [.int .i64 h.p, .slice ca h.cores.length cc, .slice ha h.homes.length hc', .slice ta ts'.length tc])) := keep_set hz6 (by simp)
        have hA5 := hAt.ext e6
        refine ⟨⟨h.p, h.cores, ca, cc, h.homes, ha, hc', ts', ta, tc⟩, H5.set H.length (.cells ⟨0, true, false⟩ [.int .i64 h.p, .slice ca h.cores.length cc, .slice ha h.homes.length hc', .slice ta ts'.length tc]), ?_, ext_set E6 (Nat.le_refl _),
          ⟨hA5.cores.keepP kS (by unfold P13; omega), hA5.homes.keepP kS (by unfold P13; omega), hA5.tasks.keepP kS6 rfl, fun t ht => (hA5.parts t ht).keepP kS (by unfold P13; omega), hA5.few⟩, hpl⟩
        rw [← hn1]
        rw [R_code Q.i]
        simp [m7, hbig, hbig', q1', q2, q3, stx, ldx, ldnx, u1, u2, o1, o2, q4, g2, hbox, hck, hz6, hb6, hset6, SetL.cells]
      · rw [if_neg hc0]
        have hset0 : ∀ o, Ext H (H5.set H.length o) := fun o => ext_set E6 (Nat.le_refl _)
        by_cases hc1 : 0 ≤ c1'
        · rw [if_pos hc1]
          obtain ⟨j, hj1, hj2⟩ : ∃ j : Nat, c1' = (j : Int) ∧ j < ts'.length := by
            rcases hcc with h | h
            · omega
            · obtain ⟨j, h1, h2⟩ := h; exact ⟨j, h1, h2⟩
          subst hj1
          have hjl : h.k + j < rs.length := by
            have h1 := tasksL_len g1
            rw [← g4] at h1
            simp at h1; omega
          have i5 := rw_ia hg5 hjl c2
          rw [← hn2] at i5
          have l5 := rw_at hg5 (List.getElem?_eq_getElem hjl)
          have hat : atL (rs.map RwL.plain) (h.k + j) lines.length = ((rs[h.k + j]).at_ : Int) := by
            unfold atL
            rw [List.getElem?_map, List.getElem?_eq_getElem hjl]; rfl
          have w5 : IntKind.i64.wrap ((h.k : Int) + (j : Int)) = ((h.k + j : Nat) : Int) := by rw [wrap_i64 (by omega) (by omega)]; omega
          simp only [Int.toNat_natCast]
          rw [hat]
          generalize rs[h.k + j] = r at l5
          generalize h.k + j = m at i5 l5 w5
          refine ⟨H5, ?_, E6⟩
          rw [R_code Q.i]
          simp [m7, hbig, hbig', q1', q2, q3, stx, ldx, ldnx, u1, u2, o1, o2, q4, g2, hbox, hck, hc0, hz6, hzs6, i5, l5, w5, mdraw_full, errW]
        · rw [if_neg hc1]
          by_cases hc2 : c2' = 14 ∨ c2' = 11
          · rw [if_pos hc2]
            rw [← hn1]
            refine ⟨H5, ?_, E6⟩
            rw [R_code Q.i]
            rcases hc2 with rfl | rfl
            · simp [m7, hbig, hbig', q1', q2, q3, stx, ldx, ldnx, u1, u2, o1, o2, q4, g2, hbox, hck, hc1, hz6, hzs6, errW]
            · simp [m7, hbig, hbig', q1', q2, q3, stx, ldx, ldnx, u1, u2, o1, o2, q4, g2, hbox, hck, hc1, hz6, hzs6, errW]
          · rw [if_neg hc2]
            have h1l : 1 < rs.length := by omega
            have i5 := rw_ia hg5 h1l c2
            rw [← hn2] at i5
            have l5 := rw_at hg5 (List.getElem?_eq_getElem h1l)
            have hat : atL (rs.map RwL.plain) 1 lines.length = ((rs[1]).at_ : Int) := by
              unfold atL
              rw [List.getElem?_map, List.getElem?_eq_getElem h1l]; rfl
            rw [hat]
            generalize rs[1] = r at l5
            simp at i5 l5
            have hc3 : ¬ c2' = 14 := fun h => hc2 (.inl h)
            have hc4 : ¬ c2' = 11 := fun h => hc2 (.inr h)
            refine ⟨H5, ?_, E6⟩
            rw [R_code Q.i]
            simp [m7, hbig, hbig', q1', q2, q3, stx, ldx, ldnx, u1, u2, o1, o2, q4, g2, hbox, hck, hc0, hc1, hc3, hc4, hz6, hzs6, i5, l5, mdraw_full, errW]
    · rw [g1]
      have e5 := ext_of g6
      have hz5 := g6.get hz4' (by simp; omega)
      unfold zSet at hz5
      simp at g2
      refine ⟨H', ?_, E3.trans e5⟩
      rw [R_code Q.i]
      simp [m7, hbig, hbig', q1', q2, q3, stx, ldx, ldnx, u1, u2, o1, o2, q4, g2, hz5, errW]
end
end Go.Mod
/- WordsEmpty: blanks alone are no words; lines may be empty, but the last one. -/
set_option linter.unusedVariables false
set_option linter.unusedSimpArgs false
namespace Go.Mod

theorem B_add (l : List UInt8) (a : Array UInt8) : B l ++ (⟨a⟩ : ByteArray) = B (l ++ a.toList) := by rw [B_mk, B_append]
theorem size_mk (a : Array UInt8) : (⟨a⟩ : ByteArray).size = a.size := rfl
theorem cutAt_rep (c : UInt8) (r : List UInt8) : ∀ n : Nat, cutAt c (List.replicate n c ++ r) = List.replicate n [] ++ cutAt c r
  | 0 => by simp
  | n + 1 => by
    rw [List.replicate_succ, List.cons_append]
    conv => lhs; unfold cutAt
    rw [if_pos rfl, cutAt_rep c r n, List.replicate_succ, List.cons_append]
theorem noE_rep (n : Nat) (p : List (List UInt8)) : noE (List.replicate n [] ++ p) = noE p := by
  unfold noE
  rw [List.filter_append, List.filter_eq_nil_iff.2 (by intro x hx; simp [List.eq_of_mem_replicate hx]), List.nil_append]
theorem tw_app {a r : List UInt8} (h : (35 : UInt8) ∉ a) : (a ++ r).takeWhile (· ≠ 35) = a ++ r.takeWhile (· ≠ 35) :=
  List.takeWhile_append_of_pos fun x hx => by simp; rintro rfl; exact h hx
theorem rep_no {n : Nat} {c d : UInt8} (h : d ≠ c) : d ∉ List.replicate n c := fun hm => h (List.eq_of_mem_replicate hm)
theorem cut_blank (p : Nat) : cutAt 32 (List.replicate p 32) = List.replicate p [] ++ [[]] := by
  have := cutAt_rep 32 [] p
  rw [List.append_nil] at this
  rw [this]; rfl
theorem words_blank (p : Nat) : wordsOf (List.replicate p 32) = [] := by
  unfold wordsOf
  have := tw_app (r := []) (rep_no (n := p) (c := 32) (d := 35) (by decide))
  rw [List.append_nil] at this
  rw [this]
  simp only [List.takeWhile_nil, List.append_nil]
  rw [cut_blank, noE_rep]; rfl
theorem words_mark (p : Nat) (r : List UInt8) : wordsOf (List.replicate p 32 ++ 35 :: r) = [] := by
  have h := words_blank p
  unfold wordsOf at h ⊢
  rw [tw_app (rep_no (by decide))]
  simp only [List.takeWhile_cons, ne_eq, not_true_eq_false, decide_false, Bool.false_eq_true, if_false, List.append_nil]
  rw [cut_blank, noE_rep]; rfl
theorem words_x (p : Nat) : (wordsOf (List.replicate p 32 ++ [120] ++ List.replicate p 32)).length = 1 := by
  have hno : (35 : UInt8) ∉ List.replicate p 32 ++ [120] ++ List.replicate p 32 := by
    simp only [List.mem_append, not_or]
    exact ⟨⟨rep_no (by decide), by decide⟩, rep_no (by decide)⟩
  unfold wordsOf
  have := tw_app (r := []) hno
  rw [List.append_nil] at this
  rw [this]
  simp only [List.takeWhile_nil, List.append_nil]
  rw [List.append_assoc, cutAt_rep, noE_rep]
  cases p with
  | zero => rfl
  | succ p =>
    rw [List.replicate_succ]
    show (noE (cutAt 32 ([120] ++ 32 :: List.replicate p 32))).length = 1
    rw [cutAt_app (by decide), cut_blank]
    unfold noE
    simp [List.filter_eq_nil_iff]
theorem trimE_rep (n : Nat) (x : List UInt8) : trimE (List.replicate n [] ++ [x]) = List.replicate n [] ++ (if x = [] then [] else [x]) := by
  induction n with
  | zero => simp [trimE]
  | succ n ih => rw [List.replicate_succ, List.cons_append, trimE_cons (by simp), ih]; rfl
theorem lines_rep (q : Nat) : (trimE (cutAt 10 (List.replicate q 10))).length = q := by
  have := cutAt_rep 10 [] q
  rw [List.append_nil] at this
  rw [this]
  show (trimE (List.replicate q [] ++ [[]])).length = q
  rw [trimE_rep]; simp
theorem lines_x (q : Nat) : (trimE (cutAt 10 (List.replicate q 10 ++ [120]))).length = q + 1 := by
  rw [cutAt_rep]
  show (trimE (List.replicate q [] ++ [[120]])).length = q + 1
  rw [trimE_rep]; simp

end Go.Mod
/- WordsNumbers: each number is read as it is told; a nought ahead, a sign, an eighth digit are not read. -/
set_option linter.unusedVariables false
set_option linter.unusedSimpArgs false
namespace Go.Mod
open Go.Lib

/-- Cells of a row of bytes. -/
def u8v (bs : List UInt8) : List Value := bs.map fun b => .int .u8 (b.toNat : Int)
@[simp] theorem u8v_len (bs : List UInt8) : (u8v bs).length = bs.length := by simp [u8v]
theorem push_B (l : List UInt8) (b : UInt8) : (B l).push b = B (l ++ [b]) := by
  unfold B
  show ByteArray.mk (l.toArray.push b) = _
  congr 1
  apply Array.ext'
  simp
theorem strOf_u8 : ∀ (bs l : List UInt8), strOf (B l) (u8v bs) = some (B (l ++ bs))
  | [], l => by simp [u8v, strOf]
  | b :: bs, l => by
    have h : (UInt8.ofNat ((b.toNat : Int)).toNat) = b := by simp
    show strOf ((B l).push (UInt8.ofNat ((b.toNat : Int)).toNat)) (u8v bs) = _
    rw [h, push_B, strOf_u8 bs (l ++ [b])]
    simp
theorem strOf_u8' (bs : List UInt8) : strOf .empty (u8v bs) = some (B bs) := strOf_u8 bs []
theorem strb_u8 {H : MH} {b : Nat} {i : Info} {bs : List UInt8} (h : H[b]? = some (.cells i (u8v bs))) {n : Nat} (hn : n = bs.length) (m : Nat) : mread .strb [.slice (some ⟨b, 0, none⟩) n m] H = some (.string (B bs)) := by
  rw [strb_at h (by simp; omega) m, List.drop_zero, List.take_of_length_le (by simp; omega), strOf_u8']; rfl

/-! ### digits -/
def isD (c : UInt8) : Prop := 48 ≤ c.toNat ∧ c.toNat ≤ 57
instance (c : UInt8) : Decidable (isD c) := by unfold isD; exact inferInstance
theorem ofNat_D {d : Nat} (h : d < 10) : (UInt8.ofNat (48 + d)).toNat = 48 + d := by
  rw [UInt8.toNat_ofNat']; omega
theorem dec_D : ∀ (f n : Nat), ∀ c ∈ decD f n, isD c
  | 0, n, c, h => by simp [decD] at h
  | f + 1, n, c, h => by
    unfold decD at h
    split at h
    · rename_i hn
      obtain rfl := List.mem_singleton.1 h
      unfold isD; rw [ofNat_D hn]; omega
    · rcases List.mem_append.1 h with h | h
      · exact dec_D f _ c h
      · obtain rfl := List.mem_singleton.1 h
        unfold isD; rw [ofNat_D (Nat.mod_lt _ (by omega))]; omega
theorem dec_len : ∀ (f n : Nat), (decD f n).length ≤ f
  | 0, n => by simp [decD]
  | f + 1, n => by
    unfold decD
    split
    · simp
    · have := dec_len f (n / 10)
      simp; omega
theorem dec_pos : ∀ (f n : Nat), n < 10 ^ f → 0 < f → 0 < (decD f n).length
  | 0, n, _, h => by omega
  | f + 1, n, h, _ => by
    unfold decD
    split <;> simp
theorem dec_head : ∀ (f n : Nat), n < 10 ^ f → 0 < n → ∀ c, (decD f n)[0]? = some c → c.toNat ≠ 48
  | 0, n, h, h0, c, hc => by simp at h; omega
  | f + 1, n, h, h0, c, hc => by
    unfold decD at hc
    split at hc
    · rename_i hn
      have hc : some (UInt8.ofNat (48 + n)) = some c := hc
      cases hc
      rw [ofNat_D hn]; omega
    · rename_i hn
      have hlt : n / 10 < 10 ^ f := by rw [Nat.pow_succ] at h; omega
      have hf : 0 < f := by
        cases f with
        | zero => simp at h; omega
        | succ f => omega
      have hp := dec_pos f (n / 10) hlt hf
      rw [List.getElem?_append_left hp] at hc
      exact dec_head f (n / 10) hlt (by omega) c hc
theorem parse_app : ∀ (l : List UInt8) (acc u : Nat) (c : UInt8), parseUint10 acc l = .ok u → isD c → u < 10 ^ 17 → parseUint10 acc (l ++ [c]) = .ok (u * 10 + (c.toNat - 48))
  | [], acc, u, c, h, hc, hu => by
    simp only [parseUint10] at h
    injection h with h
    subst h
    show parseUint10 acc [c] = _
    simp only [parseUint10]
    have hc' : 48 ≤ c.toNat ∧ c.toNat ≤ 57 := hc
    rw [if_pos hc', if_neg (by omega), if_neg (by omega)]
  | x :: l, acc, u, c, h, hc, hu => by
    rw [List.cons_append]
    simp only [parseUint10] at h ⊢
    split at h
    · rename_i h1
      rw [if_pos h1]
      split at h
      · cases h
      · rename_i h2
        rw [if_neg h2]
        split at h
        · cases h
        · rename_i h3
          rw [if_neg h3]
          exact parse_app l _ u c h hc hu
    · cases h
theorem parse_dec : ∀ (f n : Nat), n < 10 ^ f → 0 < f → f ≤ 17 → parseUint10 0 (decD f n) = .ok n
  | 0, n, _, h, _ => by omega
  | f + 1, n, h, _, hf17 => by
    unfold decD
    split
    · rename_i hn
      simp only [parseUint10]
      rw [ofNat_D hn, if_pos (by omega), if_neg (by omega), if_neg (by omega)]
      congr 1; omega
    · rename_i hn
      have hlt : n / 10 < 10 ^ f := by rw [Nat.pow_succ] at h; omega
      have hf : 0 < f := by
        cases f with
        | zero => simp at h; omega
        | succ f => omega
      have h17 : n / 10 < 10 ^ 17 := Nat.lt_of_lt_of_le hlt (Nat.pow_le_pow_right (by omega) (by omega))
      rw [parse_app _ _ _ _ (parse_dec f (n / 10) hlt hf (by omega)) (by unfold isD; rw [ofNat_D (Nat.mod_lt _ (by omega))]; omega) h17]
      rw [ofNat_D (Nat.mod_lt _ (by omega))]
      congr 1; omega
theorem num_dec {n : Nat} (h : n < 10 ^ 7) : numL (decD 7 n) = some (n : Int) := by
  have hp := dec_pos 7 n h (by omega)
  have hl := dec_len 7 n
  have hd := dec_D 7 n
  have hpar := parse_dec 7 n h (by omega) (by omega)
  have ha : atoiAll (decD 7 n) = .ok (n : Int) := by
    cases hs : decD 7 n with
    | nil => rw [hs] at hp; simp at hp
    | cons c r =>
      rw [hs] at hpar hd
      have hc := hd c (by simp)
      unfold isD at hc
      unfold atoiAll
      simp only
      rw [if_neg (by omega), show parseMag (c :: r) = .ok n by unfold parseMag; rw [if_neg (by simp), hpar]]
      simp only
      rw [if_neg (by omega), if_neg (by omega), if_neg (by omega)]
  unfold numL
  rw [ha]
  simp only
  rw [if_pos ⟨hl, by omega, by simp⟩]
theorem num_some {l : List UInt8} (h : (numL l).isSome = true) : ∃ v : Nat, v < 10 ^ 7 ∧ decD 7 v = l ∧ l.length ≤ 7 := by
  unfold numL at h
  split at h
  · rename_i v hv
    split at h
    · rename_i hc
      have := atoi_lt hv hc.2.1
      have hp : (10 : Int) ^ l.length ≤ 10 ^ 7 := by exact_mod_cast Nat.pow_le_pow_right (by omega) hc.1
      refine ⟨v.toNat, by omega, hc.2.2, hc.1⟩
    · cases h
  · cases h
theorem num_nought {n : Nat} (h : n < 10 ^ 7) : (numL (48 :: decD 7 n)).isSome = false := by
  rw [Bool.eq_false_iff]
  intro hs
  obtain ⟨v, hv, e, _⟩ := num_some hs
  have hp := dec_pos 7 n h (by omega)
  by_cases h0 : 0 < v
  · exact dec_head 7 v hv h0 48 (by rw [e]; rfl) rfl
  · have : v = 0 := by omega
    subst this
    have : (decD 7 0).length = 1 := rfl
    rw [e] at this
    simp at this
    rw [this] at hp; simp at hp
theorem num_sign (n : Nat) : (numL (45 :: decD 7 n)).isSome = false := by
  rw [Bool.eq_false_iff]
  intro hs
  obtain ⟨v, hv, e, _⟩ := num_some hs
  have := dec_D 7 v 45 (by rw [e]; simp)
  exact absurd this.1 (by decide)
theorem num_long {l : List UInt8} (h : 7 < l.length) : (numL l).isSome = false := by
  rw [Bool.eq_false_iff]
  intro hs
  obtain ⟨v, hv, e, hl⟩ := num_some hs
  omega
theorem num_odd {n : Nat} (h : n < 10 ^ 7) (c : UInt8) : (numL ((decD 7 n).take ((decD 7 n).length - 1) ++ [c])).isSome = decide (isD c) := by
  have hno : ¬ isD c → (numL ((decD 7 n).take ((decD 7 n).length - 1) ++ [c])).isSome = false := fun hc => by
    rw [Bool.eq_false_iff]
    intro hs
    obtain ⟨v, hv, e, _⟩ := num_some hs
    exact hc (dec_D 7 v c (by rw [e]; simp))
  by_cases hc : isD c
  · have hcb := hc
    unfold isD at hcb
    have hcc : UInt8.ofNat (48 + (c.toNat - 48)) = c := by
      rw [show 48 + (c.toNat - 48) = c.toNat by omega]; simp
    have e : (decD 7 n).take ((decD 7 n).length - 1) ++ [c] = decD 7 (n / 10 * 10 + (c.toNat - 48)) := by
      by_cases hn : n < 10
      · have h1 : decD 7 n = [UInt8.ofNat (48 + n)] := by unfold decD; rw [if_pos hn]
        rw [h1]
        have h0 : n / 10 * 10 + (c.toNat - 48) = c.toNat - 48 := by omega
        rw [h0]
        unfold decD
        rw [if_pos (by omega), hcc]; rfl
      · have h1 : decD 7 n = decD 6 (n / 10) ++ [UInt8.ofNat (48 + n % 10)] := by conv => lhs; unfold decD; rw [if_neg hn]
        rw [h1]
        simp only [List.length_append, List.length_singleton, Nat.add_sub_cancel, List.take_left]
        conv => rhs; unfold decD
        rw [if_neg (by omega), show (n / 10 * 10 + (c.toNat - 48)) / 10 = n / 10 by omega, show (n / 10 * 10 + (c.toNat - 48)) % 10 = c.toNat - 48 by omega, hcc]
    rw [e, num_dec (by omega), decide_eq_true hc]; rfl
  · rw [hno hc, decide_eq_false hc]
theorem dec_first {n : Nat} (h : n < 10 ^ 7) : (decD 7 n).length = 1 ∨ ∃ c, (decD 7 n)[0]? = some c ∧ (c.toNat : Int) ≠ 48 := by
  by_cases h0 : 0 < n
  · have hp := dec_pos 7 n h (by omega)
    refine .inr ⟨_, List.getElem?_eq_getElem hp, ?_⟩
    have := dec_head 7 n h h0 _ (List.getElem?_eq_getElem hp)
    omega
  · have : n = 0 := by omega
    subst this
    exact .inl rfl
end Go.Mod
/- The document's words: Num. -/
set_option linter.unusedVariables false
set_option linter.unusedSimpArgs false
namespace Go.Mod
open Go.Lib

def dval (l : List UInt8) : Nat := l.foldl (fun a c => 10 * a + (c.toNat - 48)) 0
theorem dval_snoc (l : List UInt8) (c : UInt8) : dval (l ++ [c]) = 10 * dval l + (c.toNat - 48) := by simp [dval]
theorem ofNat_isD {c : UInt8} (h : isD c) : UInt8.ofNat (48 + (c.toNat - 48)) = c := by
  unfold isD at h
  rw [show 48 + (c.toNat - 48) = c.toNat by omega]; simp
theorem snoc_of {l : List UInt8} (h : l ≠ []) : ∃ m c, l = m ++ [c] := ⟨l.dropLast, l.getLast h, (List.dropLast_concat_getLast h).symm⟩
theorem dec_dval : ∀ (f : Nat) (l : List UInt8), l ≠ [] → (∀ c ∈ l, isD c) → (∀ c, l[0]? = some c → c.toNat ≠ 48) → l.length ≤ f → decD f (dval l) = l ∧ 0 < dval l
  | 0, l, h, _, _, hf => by
    have := List.length_pos_iff.2 h
    omega
  | f + 1, l, h, hd, h0, hf => by
    obtain ⟨m, c, rfl⟩ := snoc_of h
    have hc := hd c (by simp)
    have hcb := hc
    unfold isD at hcb
    rw [dval_snoc]
    by_cases hm : m = []
    · subst hm
      have := h0 c rfl
      have hz : dval [] = 0 := rfl
      rw [hz]
      refine ⟨?_, by omega⟩
      unfold decD
      rw [if_pos (by omega), show 48 + (10 * 0 + (c.toNat - 48)) = 48 + (c.toNat - 48) by omega, ofNat_isD hc]; rfl
    · have hmp := List.length_pos_iff.2 hm
      obtain ⟨i1, i2⟩ := dec_dval f m hm (fun x hx => hd x (by simp [hx])) (fun x hx => h0 x (by rw [List.getElem?_append_left hmp]; exact hx)) (by simp at hf; omega)
      refine ⟨?_, by omega⟩
      unfold decD
      rw [if_neg (by omega), show (10 * dval m + (c.toNat - 48)) / 10 = dval m by omega, show (10 * dval m + (c.toNat - 48)) % 10 = c.toNat - 48 by omega, i1, ofNat_isD hc]
theorem dval_lt : ∀ (n : Nat) (l : List UInt8), l.length = n → (∀ c ∈ l, isD c) → dval l < 10 ^ n
  | 0, l, h, _ => by
    have : l = [] := List.length_eq_zero_iff.1 h
    subst this; decide
  | n + 1, l, h, hd => by
    obtain ⟨m, c, rfl⟩ := snoc_of (l := l) (by rintro rfl; simp at h)
    have := dval_lt n m (by simpa using h) (fun x hx => hd x (by simp [hx]))
    have hc := hd c (by simp)
    unfold isD at hc
    rw [dval_snoc, Nat.pow_succ]; omega
theorem num_canon {l : List UInt8} (h : l ≠ []) (h7 : l.length ≤ 7) (hd : ∀ c ∈ l, isD c) (h0 : l.length = 1 ∨ ∀ c, l[0]? = some c → c.toNat ≠ 48) : numL l = some (dval l : Int) := by
  have hlt := dval_lt _ l rfl hd
  have h10 : 10 ^ l.length ≤ 10 ^ 7 := Nat.pow_le_pow_right (by omega) h7
  have e : decD 7 (dval l) = l := by
    by_cases hz : ∀ c, l[0]? = some c → c.toNat ≠ 48
    · exact (dec_dval 7 l h hd hz h7).1
    · have h1 := h0.resolve_right hz
      obtain ⟨c, rfl⟩ : ∃ c, l = [c] := by
        match l, h1 with
        | [c], _ => exact ⟨c, rfl⟩
      have hc := hd c (by simp)
      have hcb := hc
      unfold isD at hcb
      have : dval [c] = c.toNat - 48 := by simp [dval]
      rw [this]
      unfold decD
      rw [if_pos (by omega), ofNat_isD hc]
  have := num_dec (n := dval l) (by omega)
  rwa [e] at this
theorem num_bad {l : List UInt8} (h : l = [] ∨ 7 < l.length ∨ (1 < l.length ∧ l[0]? = some 48) ∨ ∃ c ∈ l, ¬ isD c) : numL l = none := by
  cases hn : numL l with
  | none => rfl
  | some v =>
    exfalso
    obtain ⟨v, hv, e, h7⟩ := num_some (l := l) (by rw [hn]; rfl)
    have hp := dec_pos 7 v hv (by omega)
    rw [e] at hp
    rcases h with rfl | h | ⟨h, h0⟩ | ⟨c, hc, hd⟩
    · simp at hp
    · omega
    · by_cases hv0 : 0 < v
      · exact dec_head 7 v hv hv0 48 (by rw [e]; exact h0) rfl
      · have : v = 0 := by omega
        subst this
        have h1 : (decD 7 0).length = 1 := rfl
        rw [e] at h1; omega
    · exact hd (dec_D 7 v c (by rw [e]; exact hc))
section
variable {mp : FuncId → Option MDef} {H : MH}
theorem numR_loop {l : List UInt8} (hl : l.length ≤ 7) : ∀ (m i : Nat), i + m = l.length → (∀ c ∈ l.take i, isD c) →
    ((∀ c ∈ l, isD c) ∧ Rc mp (.loop m46_0) [(0, .string (B l)), (4, .int .i64 (dval (l.take i) : Int)), (5, .int .i64 (i : Int))] H = some (.exit 0, [(0, .string (B l)), (4, .int .i64 (dval l : Int)), (5, .int .i64 (l.length : Int)), (27, .bool false)], H)) ∨
    ((∃ c ∈ l, ¬ isD c) ∧ Rc mp (.loop m46_0) [(0, .string (B l)), (4, .int .i64 (dval (l.take i) : Int)), (5, .int .i64 (i : Int))] H = some (.ret, [(2, .int .i64 0), (3, .bool false)], H)) := by
  intro m
  induction m with
  | zero =>
    intro i hi hg
    have : i = l.length := by omega
    subst this
    rw [List.take_length] at hg ⊢
    refine .inl ⟨hg, ?_⟩
    rw [Rc_loop]
    simp [m46_0]
  | succ m ih =>
    intro i hi hg
    have hil : i < l.length := by omega
    have hgx := List.getElem?_eq_getElem hil
    have hmem : l[i] ∈ l := List.getElem_mem hil
    have w : IntKind.i64.wrap ((i : Int) + 1) = (i : Int) + 1 := wrap_i64 (by omega) (by omega)
    generalize hz : l[i] = z at hgx hmem
    by_cases h1 : z.toNat < 48
    · refine .inr ⟨⟨z, hmem, fun h => by unfold isD at h; omega⟩, ?_⟩
      have n1 : (z.toNat : Int) < 48 := by omega
      rw [Rc_loop]
      simp [m46_0, hil, hz, n1]
    · by_cases h2 : 57 < z.toNat
      · refine .inr ⟨⟨z, hmem, fun h => by unfold isD at h; omega⟩, ?_⟩
        have n1 : ¬ (z.toNat : Int) < 48 := by omega
        have n2 : (57 : Int) < (z.toNat : Int) := by omega
        rw [Rc_loop]
        simp [m46_0, hil, hz, n1, n2]
      · have n1 : ¬ (z.toNat : Int) < 48 := by omega
        have n2 : ¬ (57 : Int) < (z.toNat : Int) := by omega
        have hD : isD z := by unfold isD; omega
        have hlt := dval_lt _ (l.take i) rfl hg
        have h10 : 10 ^ (l.take i).length ≤ 10 ^ 7 := Nat.pow_le_pow_right (by omega) (by simp; omega)
        have hsn : l.take (i + 1) = l.take i ++ [z] := by rw [List.take_add_one, hgx]; rfl
        have wa : IntKind.i64.wrap (10 * (dval (l.take i) : Int)) = 10 * (dval (l.take i) : Int) := wrap_i64 (by omega) (by omega)
        have wb : IntKind.u8.wrap ((z.toNat : Int) - 48) = (z.toNat : Int) - 48 := by rw [IntKind.wrap_u8]; omega
        have wc : IntKind.i64.wrap ((z.toNat : Int) - 48) = (z.toNat : Int) - 48 := wrap_i64 (by omega) (by omega)
        have wd : IntKind.i64.wrap (10 * (dval (l.take i) : Int) + ((z.toNat : Int) - 48)) = (dval (l.take (i + 1)) : Int) := by
          rw [wrap_i64 (by omega) (by omega), hsn, dval_snoc]; omega
        have hg' : ∀ c ∈ l.take (i + 1), isD c := by
          rw [hsn]
          intro c hc
          rcases List.mem_append.1 hc with hc | hc
          · exact hg c hc
          · simp at hc; subst hc; exact hD
        rcases ih (i + 1) (by omega) hg' with ⟨q1, q2⟩ | ⟨q1, q2⟩
        · refine .inl ⟨q1, ?_⟩
          rw [Rc_loop]
          simp [m46_0, hil, hz, n1, n2, w, wa, wb, wc, wd]
          exact q2
        · refine .inr ⟨q1, ?_⟩
          rw [Rc_loop]
          simp [m46_0, hil, hz, n1, n2, w, wa, wb, wc, wd]
          exact q2
end
end Go.Mod
/- The document's words: Words, Name. -/
set_option linter.unusedVariables false
set_option linter.unusedSimpArgs false
namespace Go.Mod

theorem noE_trimE : ∀ p : List (List UInt8), noE (trimE p) = noE p
  | [] => rfl
  | [x] => by
    unfold trimE
    split
    · rename_i h; subst h; rfl
    · rfl
  | x :: y :: t => by
    rw [trimE_cons (by simp)]
    have := noE_trimE (y :: t)
    unfold noE at this ⊢
    rw [List.filter_cons, List.filter_cons, this]
section
variable {mp : FuncId → Option MDef} {H : MH}
theorem m21_eq : m68 = cNameR := rfl
theorem m20_eq : m62 = cNameP := rfl
theorem scan_loop {l : List UInt8} (hl : l.length ≤ 100000) : ∀ (m i : Nat), i + m = l.length → (∀ b ∈ l.take i, b ≠ 35) →
    ∃ e, e ≤ l.length ∧ l.takeWhile (· ≠ 35) = l.take e ∧ Rc mp (.loop m21_1) [(0, .string (B l)), (3, .int .i64 (i : Int))] H = some (.exit 0, [(0, .string (B l)), (3, .int .i64 (e : Int)), (16, .bool false)], H) := by
  intro m
  induction m with
  | zero =>
    intro i hi hg
    have : i = l.length := by omega
    subst this
    rw [List.take_length] at hg
    refine ⟨l.length, Nat.le_refl _, ?_, ?_⟩
    · rw [List.take_length]
      have := List.takeWhile_append_of_pos (p := fun b : UInt8 => decide (b ≠ 35)) (l₁ := l) (l₂ := []) (fun b hb => by simpa using hg b hb)
      simpa using this
    · rw [Rc_loop]
      simp [m21_1]
  | succ m ih =>
    intro i hi hg
    have hil : i < l.length := by omega
    have hgx := List.getElem?_eq_getElem hil
    have w : IntKind.i64.wrap ((i : Int) + 1) = (i : Int) + 1 := wrap_i64 (by omega) (by omega)
    have hdrop : l.drop i = l[i] :: l.drop (i + 1) := List.drop_eq_getElem_cons hil
    generalize hz : l[i] = z at hgx hdrop
    by_cases h1 : z = 35
    · refine ⟨i, by omega, ?_, ?_⟩
      · have := List.takeWhile_append_of_pos (p := fun b : UInt8 => decide (b ≠ 35)) (l₁ := l.take i) (l₂ := l.drop i) (fun b hb => by simpa using hg b hb)
        rw [List.take_append_drop, hdrop, h1] at this
        rw [this]; simp
      · have hz1 : (z.toNat : Int) = 35 := by rw [h1]; rfl
        rw [Rc_loop]
        simp [m21_1, hil, hz, hz1]
    · have n1 : ¬ (z.toNat : Int) = 35 := fun e => h1 (UInt8.toNat_inj.1 (by show z.toNat = 35; omega))
      obtain ⟨e, q1, q2, q3⟩ := ih (i + 1) (by omega) (by
        intro b hb
        rw [List.take_add_one, hgx] at hb
        rcases List.mem_append.1 hb with hb | hb
        · exact hg b hb
        · simp at hb; subst hb; exact h1)
      refine ⟨e, q1, q2, ?_⟩
      rw [Rc_loop]
      simp [m21_1, hil, hz, n1, w]
      exact q3
theorem R_wordsR (hf : mp 21 = some (.code m21)) (h33 : mp 37 = some (.code m37)) {l : List UInt8} (hl : l.length ≤ 100000) : GivesS H (R mp 21 [.string (B l)] H) (wordsOf l) := by
  obtain ⟨e, h1, h2, h3⟩ := scan_loop (mp := mp) (H := H) hl l.length 0 (by omega) (by simp)
  unfold wordsOf
  rw [h2]
  obtain ⟨a1, n1, c1, H1, q1, v1, x1⟩ := R_cutR (H := H) h33 (b := 32) (l := l.take e) (by simp; omega) (q := 32) rfl
  rw [← noE_trimE]
  have hlen : (trimE (cutAt 32 (l.take e))).length ≤ 100001 := by
    have h4 := cutAt_len 32 (l.take e)
    have h5 := trimE_eq (cutAt_ne 32 (l.take e))
    rw [h5]
    split <;> simp at h4 ⊢ <;> omega
  generalize trimE (cutAt 32 (l.take e)) = p at v1 hlen ⊢
  obtain ⟨H2, G2, a2, n2, c2, q2, o2, u2⟩ := wordsR_loop (mp := mp) hlen p.length 0 H1 [] [] none 0 0 (by omega) (by simp) ⟨v1, by simp⟩ (.inl ⟨rfl, rfl, rfl⟩)
  simp at q2 o2 h3
  refine ⟨a2, n2, c2, H2, ?_, Own.row o2, x1.trans u2.toExt.1⟩
  have hle : (e : Int) ≤ (l.length : Int) := by omega
  rw [R_code hf]
  simp [m21, h3, h1, q1, q2]
end
end Go.Mod

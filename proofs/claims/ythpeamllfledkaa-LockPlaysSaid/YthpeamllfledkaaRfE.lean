/- The document's locks: those that are let in. -/
import Derived.Test.YthpeamllfledkaaRfD
set_option linter.unusedVariables false
set_option linter.unusedSimpArgs false
namespace Go.Mod
open Classical

def farr (f : Nat → Nat) : List Value := (List.range 3).map fun c => Value.int .i64 (f c)
def narr (N : Nat → Bool) : List Value := (List.range 6).map fun t => Value.bool (N t)
theorem farr_at {f : Nat → Nat} {c : Nat} (h : c < 3) : (farr f)[c]? = some (.int .i64 (f c)) := by simp [farr, h]
theorem narr_at {N : Nat → Bool} {t : Nat} (h : t < 6) : (narr N)[t]? = some (.bool (N t)) := by simp [narr, h]
theorem farr_len {f : Nat → Nat} : (farr f).length = 3 := by simp [farr]
theorem narr_len {N : Nat → Bool} : (narr N).length = 6 := by simp [narr]
theorem farr_set {f g : Nat → Nat} {c : Nat} (h : c < 3) (hg : ∀ q, g q = if q = c then f q + 1 else f q) : (farr f).set c (.int .i64 ((f c : Int) + 1)) = farr g := by
  apply List.ext_getElem?
  intro q
  rcases Nat.lt_or_ge q 3 with hq | hq
  · rw [farr_at hq, hg]
    by_cases e : c = q
    · subst e
      rw [List.getElem?_set_self (by rw [farr_len]; omega), if_pos rfl]; rfl
    · rw [List.getElem?_set_ne e, farr_at hq, if_neg fun h => e h.symm]
  · rw [List.getElem?_eq_none (by rw [List.length_set, farr_len]; omega), List.getElem?_eq_none (by rw [farr_len]; omega)]
theorem narr_set {N M : Nat → Bool} {t : Nat} (h : t < 6) (hM : ∀ q, M q = if q = t then true else N q) : (narr N).set t (.bool true) = narr M := by
  apply List.ext_getElem?
  intro q
  rcases Nat.lt_or_ge q 6 with hq | hq
  · rw [narr_at hq, hM]
    by_cases e : t = q
    · subst e
      rw [List.getElem?_set_self (by rw [narr_len]; omega), if_pos rfl]
    · rw [List.getElem?_set_ne e, narr_at hq, if_neg fun h => e h.symm]
  · rw [List.getElem?_eq_none (by rw [List.length_set, narr_len]; omega), List.getElem?_eq_none (by rw [narr_len]; omega)]
section
variable {mp : FuncId → Option MDef} {H H0 : MH} {F : List Nat} {r : Nat} {s : SetL} {cnt : Int} {ak : List Ask} {a : Option Addr} {c : Nat}
/-- How many are in. -/
theorem in_loop (V : RfV H0 r s cnt ak a c) (b : SetB s) (hl : ak.length ≤ 64) (hN : ∀ d ∈ ak, d.n < s.tasks.length) (hp : ∀ d ∈ ak, d.isIn = decide (0 < d.place)) {b2 : Nat} {v3 : Value} (g2 : H0.length ≤ b2) : ∀ (k i : Nat) (H : MH), i + k = ak.length → Ext H0 H →
    H[b2]? = some (.cells ⟨1, true, false⟩ (farr (inC s (ak.take i)))) →
    ∃ H', Rc mp (.loop m40_2) [(0, .pointer (some ⟨r, 0, none⟩)), (2, .pointer (some ⟨b2, 0, none⟩)), (3, v3), (4, .int .i64 (i : Int))] H = some (.exit 0, [(0, .pointer (some ⟨r, 0, none⟩)), (2, .pointer (some ⟨b2, 0, none⟩)), (3, v3), (4, .int .i64 (ak.length : Int)), (15, .bool false)], H') ∧ Ext H0 H' ∧
      H'[b2]? = some (.cells ⟨1, true, false⟩ (farr (inC s ak))) ∧ ∀ id, id ≠ b2 → H'[id]? = H[id]? := by
  have hd := ldb V.loc
  simp only [rfC] at hd
  intro k
  induction k with
  | zero =>
    intro i H hi e q2
    have : i = ak.length := by omega
    subst this
    rw [List.take_length] at q2
    refine ⟨H, ?_, e, q2, fun _ _ => rfl⟩
    rw [Rc_loop]
    simp [m40_2, hd, e]
  | succ k ih =>
    intro i H hi e q2
    have hin : i < ak.length := by omega
    obtain ⟨d, hdk⟩ : ∃ d, ak[i]? = some d := ⟨_, List.getElem?_eq_getElem hin⟩
    have hdm := List.mem_of_getElem? hdk
    have w : IntKind.i64.wrap ((i : Int) + 1) = (i : Int) + 1 := wrap_i64 (by omega) (by omega)
    have hia := V.row.ia
    have hr0 := V.row.rd0 hdk (by omega)
    have hr2 := V.row.rd hdk
    simp only [askR] at hr0 hr2
    have htake : ak.take (i + 1) = ak.take i ++ [d] := by rw [List.take_add_one, hdk]; rfl
    have hdn := hN d hdm
    have htk : s.tasks[d.n]? = some (s.tasks[d.n]'hdn) := List.getElem?_eq_getElem _
    generalize s.tasks[d.n]'hdn = t at htk
    obtain ⟨c1, c2, c3⟩ := cl_lt b htk
    have hnc := b.nc
    have hc3 : clA s d < 3 := by omega
    have hcl : t.cluster = (clA s d : Int) := by omega
    have hti := V.set.tasks.ia
    have htr := V.set.tasks.rd htk
    simp only [taskC] at htr
    by_cases hpl : 0 < d.place
    · have hstep : ∀ q, inC s (ak.take (i + 1)) q = if q = clA s d then inC s (ak.take i) q + 1 else inC s (ak.take i) q := fun q => by
        rw [htake]
        unfold inC
        rw [List.filter_append, List.length_append]
        by_cases e : q = clA s d
        · subst e; simp [inP, hp d hdm, hpl]
        · have : ¬ clA s d = q := fun h => e h.symm
          simp [inP, e, this]
      have hle : inC s (ak.take i) (clA s d) ≤ i := by
        unfold inC
        refine Nat.le_trans (List.length_filter_le _ _) ?_
        rw [List.length_take]; omega
      have ws : IntKind.i64.wrap ((inC s (ak.take i) (clA s d) : Int) + 1) = (inC s (ak.take i) (clA s d) : Int) + 1 := wrap_i64 (by omega) (by omega)
      have hfa := farr_at (f := inC s (ak.take i)) hc3
      have hst := st_at q2 rfl (clA s d) (.int .i64 ((inC s (ak.take i) (clA s d) : Int) + 1)) rfl (by rw [farr_len]; exact hc3)
      rw [farr_set hc3 hstep] at hst
      have hld := ld_at q2 (clA s d)
      rw [hfa] at hld
      simp at hld
      have hb2 := (List.getElem?_eq_some_iff.1 q2).1
      have eS : Ext H0 (H.set b2 (.cells ⟨1, true, false⟩ (farr (inC s (ak.take (i + 1)))))) := ext_set e g2
      obtain ⟨H', f1, f2, f3, f4⟩ := ih (i + 1) _ (by omega) eS (by rw [List.getElem?_set_self hb2])
      refine ⟨H', ?_, f2, f3, fun id hne => ?_⟩
      · simp at f1
        have hc3I : (clA s d : Int) < 3 := by omega
        rw [Rc_loop]
        simp (maxDischargeDepth := 8) [m40_2, hd, e, hin, hia, hr0, hr2, hpl, hti, hdn, htr, hcl, hc3, hc3I, hld, ws, hst, w, mdraw_full]
        exact f1
      · rw [f4 id hne, List.getElem?_set_ne fun e => hne e.symm]
    · have hstep : inC s (ak.take (i + 1)) = inC s (ak.take i) := by
        funext q
        rw [htake]
        unfold inC
        rw [List.filter_append, List.length_append]
        simp [inP, hp d hdm, hpl]
      obtain ⟨H', f1, f2⟩ := ih (i + 1) H (by omega) e (by rw [hstep]; exact q2)
      refine ⟨H', ?_, f2⟩
      simp at f1
      rw [Rc_loop]
      simp (maxDischargeDepth := 8) [m40_2, hd, e, hin, hia, hr0, hr2, hpl, w]
      exact f1
/-- Who is new. -/
theorem new_loopR (V : RfV H0 r s cnt ak a c) (b : SetB s) (hl : ak.length ≤ 64) (hN : ∀ d ∈ ak, d.n < s.tasks.length) (hp : ∀ d ∈ ak, d.isIn = decide (0 < d.place)) (hp0 : ∀ d ∈ ak, 0 ≤ d.place) {b2 b3 : Nat} (g2 : H0.length ≤ b2) (g3 : H0.length ≤ b3) (n23 : b2 ≠ b3) : ∀ (k i : Nat) (H : MH) (f : Nat → Nat) (N : Nat → Bool), i + k = ak.length → Ext H0 H → (∀ q, f q + k ≤ 2000) →
    H[b2]? = some (.cells ⟨1, true, false⟩ (farr f)) → H[b3]? = some (.cells ⟨1, true, false⟩ (narr N)) →
    ∃ (H' : MH) (M : Nat → Bool), Rc mp (.loop m40_1) [(0, .pointer (some ⟨r, 0, none⟩)), (2, .pointer (some ⟨b2, 0, none⟩)), (3, .pointer (some ⟨b3, 0, none⟩)), (6, .int .i64 (i : Int))] H = some (.exit 2, [(0, .pointer (some ⟨r, 0, none⟩)), (2, .pointer (some ⟨b2, 0, none⟩)), (3, .pointer (some ⟨b3, 0, none⟩)), (6, .int .i64 (ak.length : Int)), (55, .bool false)], H') ∧ Ext H0 H' ∧
      H'[b3]? = some (.cells ⟨1, true, false⟩ (narr M)) ∧ (∀ t, M t = true ↔ N t = true ∨ ∃ d ∈ selP s f (ak.drop i), d.n = t) ∧ ∀ id, id ≠ b2 → id ≠ b3 → H'[id]? = H[id]? := by
  have hd := ldb V.loc
  simp only [rfC] at hd
  intro k
  induction k with
  | zero =>
    intro i H f N hi e hf q2 q3
    have : i = ak.length := by omega
    subst this
    refine ⟨H, N, ?_, e, q3, fun t => by simp [selP], fun _ _ _ => rfl⟩
    rw [Rc_loop]
    simp [m40_1, hd, e]
  | succ k ih =>
    intro i H f N hi e hf q2 q3
    have hin : i < ak.length := by omega
    obtain ⟨d, hdk⟩ : ∃ d, ak[i]? = some d := ⟨_, List.getElem?_eq_getElem hin⟩
    have hdm := List.mem_of_getElem? hdk
    have w : IntKind.i64.wrap ((i : Int) + 1) = (i : Int) + 1 := wrap_i64 (by omega) (by omega)
    have hia := V.row.ia
    have hr0 := V.row.rd0 hdk (by omega)
    have hr2 := V.row.rd hdk
    simp only [askR] at hr0 hr2
    have hdn := hN d hdm
    have htk : s.tasks[d.n]? = some (s.tasks[d.n]'hdn) := List.getElem?_eq_getElem _
    generalize s.tasks[d.n]'hdn = t at htk
    obtain ⟨c1, c2, c3⟩ := cl_lt b htk
    have hnc := b.nc
    have hnt := b.nt
    have hc3 : clA s d < 3 := by omega
    have hc3I : (clA s d : Int) < 3 := by omega
    have hn6I : (d.n : Int) < 6 := by omega
    have hn6 : d.n < 6 := by omega
    have hcl : t.cluster = (clA s d : Int) := by omega
    have hti := V.set.tasks.ia
    have htr := V.set.tasks.rd htk
    simp only [taskC] at htr
    have hck : s.cores[clA s d]? = some (s.cores[clA s d]'c3) := List.getElem?_eq_getElem _
    generalize s.cores[clA s d]'c3 = kk at hck
    have hci := V.set.cores.ia
    have hcr := V.set.cores.rd1 hck
    simp only [intC] at hcr
    have hgd : s.cores.getD (clA s d) 0 = kk := by simp [List.getD, hck]
    have hld2 := ld_at q2 (clA s d)
    rw [farr_at hc3] at hld2
    simp at hld2
    rw [drop_at hdk]
    simp only [selP]
    by_cases hc : d.isIn = false ∧ (f (clA s d) : Int) < s.cores.getD (clA s d) 0
    · rw [if_pos hc]
      obtain ⟨h1, h2⟩ := hc
      rw [hgd] at h2
      have hpl : d.place = 0 := by
        have := hp d hdm
        rw [h1] at this
        have h3 : ¬ 0 < d.place := fun h => by rw [decide_eq_true h] at this; cases this
        have := hp0 d hdm
        omega
      have hfq := hf (clA s d)
      have ws : IntKind.i64.wrap ((f (clA s d) : Int) + 1) = (f (clA s d) : Int) + 1 := wrap_i64 (by omega) (by omega)
      have hst := st_at q2 rfl (clA s d) (.int .i64 ((f (clA s d) : Int) + 1)) rfl (by rw [farr_len]; exact hc3)
      rw [farr_set hc3 (g := fun q => if q = clA s d then f q + 1 else f q) (fun q => rfl)] at hst
      have hb2 := (List.getElem?_eq_some_iff.1 q2).1
      have q3' : (H.set b2 (.cells ⟨1, true, false⟩ (farr fun q => if q = clA s d then f q + 1 else f q)))[b3]? = some (.cells ⟨1, true, false⟩ (narr N)) := by rw [List.getElem?_set_ne n23]; exact q3
      have hst3 := st_at q3' rfl d.n (.bool true) rfl (by rw [narr_len]; exact hn6)
      rw [narr_set hn6 (M := fun q => if q = d.n then true else N q) (fun q => rfl)] at hst3
      have hb3 := (List.getElem?_eq_some_iff.1 q3').1
      have e2 : Ext H0 (H.set b2 (.cells ⟨1, true, false⟩ (farr fun q => if q = clA s d then f q + 1 else f q))) := ext_set e g2
      have e3 := ext_set (o := .cells ⟨1, true, false⟩ (narr fun q => if q = d.n then true else N q)) e2 g3
      obtain ⟨H', M, f1, f2, f3, f4, f5⟩ := ih (i + 1) _ (fun q => if q = clA s d then f q + 1 else f q) (fun q => if q = d.n then true else N q) (by omega) e3 (fun q => by have := hf q; split <;> omega) (by rw [List.getElem?_set_ne fun e => n23 e.symm, List.getElem?_set_self hb2]) (by rw [List.getElem?_set_self hb3])
      refine ⟨H', M, ?_, f2, f3, fun t' => ?_, fun id h2 h3 => ?_⟩
      · simp at f1
        rw [Rc_loop]
        simp (maxDischargeDepth := 8) [m40_1, hd, e, hin, hia, hr0, hr2, hpl, hti, hdn, htr, hcl, hc3, hc3I, hld2, hci, c3, hcr, h2, ws, hst, hn6I, hn6, hst3, e2, w, mdraw_full]
        exact f1
      · rw [f4]
        constructor
        · rintro (h | ⟨d', hd', e'⟩)
          · split at h
            · rename_i e'; exact .inr ⟨d, by simp, e'.symm⟩
            · exact .inl h
          · exact .inr ⟨d', by simp [hd'], e'⟩
        · rintro (h | ⟨d', hd', e'⟩)
          · refine .inl ?_
            split
            · rfl
            · exact h
          · rcases List.mem_cons.1 hd' with rfl | hd'
            · exact .inl (by simp [e'])
            · exact .inr ⟨d', hd', e'⟩
      · rw [f5 id h2 h3, List.getElem?_set_ne fun e => h3 e.symm, List.getElem?_set_ne fun e => h2 e.symm]
    · rw [if_neg hc]
      obtain ⟨H', M, f1, f2, f3, f4⟩ := ih (i + 1) H f N (by omega) e (fun q => by have := hf q; omega) q2 q3
      refine ⟨H', M, ?_, f2, f3, f4⟩
      simp at f1
      rw [Rc_loop]
      by_cases hpl : d.place = 0
      · have h1 : d.isIn = false := by rw [hp d hdm]; simp; omega
        have h2 : ¬ (f (clA s d) : Int) < kk := fun h => hc ⟨h1, by rw [hgd]; exact h⟩
        simp (maxDischargeDepth := 8) [m40_1, hd, e, hin, hia, hr0, hr2, hpl, hti, hdn, htr, hcl, hc3, hc3I, hld2, hci, c3, hcr, h2, w, mdraw_full]
        exact f1
      · simp (maxDischargeDepth := 8) [m40_1, hd, e, hin, hia, hr0, hr2, hpl, hti, hdn, htr, hcl, w, mdraw_full]
        exact f1
end
end Go.Mod

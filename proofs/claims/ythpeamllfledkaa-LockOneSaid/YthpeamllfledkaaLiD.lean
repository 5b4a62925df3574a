/- LockOne: the law. -/
import Derived.Test.YthpeamllfledkaaLiC
set_option linter.unusedVariables false
set_option linter.unusedSimpArgs false
namespace Go.Mod
open Classical

theorem lkChkR : ChkR mpLk 76 77 65 64 47 20 := ⟨rfl, rfl, rfl, rfl, rfl, rfl⟩
/-- New, of a set that is right. -/
theorem new_ok {H : MH} {s0 : SetL} (hs : SetAt H s0) (hsrc : SetSrc H s0) (fw : fewS s0) (ok : okSet s0) :
    ∃ (l : Nat) (s : SetL) (L : Lay) (x : LS) (H' : MH) (F' : List Nat), R mpLk 10 [.agg s0.cells.toArray] H = some (.pointer (some ⟨l, 0, none⟩), H') ∧ LkS l s L x H' F' ∧ Ext H H' ∧ (∀ id ∈ F', H.length ≤ id) ∧ x.ts.map (·.id) = L.chs ∧ SameS s s0 ∧ SetB s ∧ LkInv s x ∧ x.cnt = 0 ∧ x.ak = [] := by
  obtain ⟨h1, h2, h3, h4, h5⟩ := places_of ok
  obtain ⟨⟨p1, p2, p3⟩, p4, p5⟩ := h1
  obtain ⟨f1, f2, f3, f4⟩ := fw
  obtain ⟨l, s, L, x, H', F', e, q, x1, g, hc, ha, hid, hh⟩ := R_new lkP lkChk hs hsrc ⟨by omega, by omega, by omega, fun t ht => by have := f4 t ht; omega⟩ (fun _ => ⟨fun h => by rw [h] at p1; simp at p1, h3, p4⟩)
  rcases hh with ⟨_, q1, q2, q3, q4, q5⟩ | ⟨hn, _⟩
  case inr => exact absurd ok hn
  have sm : SameS s s0 := ⟨q1, q2, q3, q4⟩
  have b := okSet_b ok sm
  refine ⟨l, s, L, x, H', F', e, q, x1, g, hid, sm, b, ?_, hc, ha⟩
  refine ⟨by rw [ha]; simp [uniqA], by rw [ha]; simp, by rw [ha]; simp, by omega, by rw [ha]; simp, by rw [ha]; simp, by rw [ha]; simp, by rw [ha]; simp, fun hp c k hk => ?_⟩
  have hg : (x.ts.map fun c => ((c.cap : Int), c.cnt))[c]? = some (k, 0) := by rw [q5, ← q2, List.getElem?_map, hk]; rfl
  rw [List.getElem?_map] at hg
  obtain ⟨ch, e1, e2⟩ := Option.map_eq_some_iff.1 hg
  refine ⟨ch, e1, congrArg Prod.fst e2, ?_⟩
  have : ch.cnt = 0 := congrArg Prod.snd e2
  rw [this, ha]; rfl
theorem lockOne {H : MH} {ss : List Value} {sd : List D} {v : Value} {d : D} (rs : RepL H shSet ss sd) (rv : Rep H (.row [.int .i64, .int .i64, .int .i64]) v d) : ∃ H', R mpLk 4 [.agg ss.toArray, v] H = some (.bool true, H') := by
  obtain ⟨s0, rfl, hs0, hsrc⟩ := rep_setS rs
  obtain ⟨a, st, rfl, hst, _, _⟩ := rep_rowG rv fun ms ds h => rep_step h
  refine isTrue_ex ?_
  have hF := fun (H' : MH) (e' : Ext H H') => (G_few (mp := mpLk) (f := 9) (H := H') rfl hs0 e').eq
  have eb : Ext H (H ++ [.cells ⟨0, true, false⟩ s0.cells]) := ⟨_, rfl⟩
  have hb2 : (H ++ [MObj.cells ⟨0, true, false⟩ s0.cells])[H.length]? = some (.cells ⟨0, true, false⟩ s0.cells) := by simp
  have dn := ldbn hb2
  rw [R_code (fn := m4) rfl]
  by_cases k1 : fewS s0
  case neg =>
    rw [decide_eq_false k1] at hF
    simp only [SetL.cells] at hF dn
    simp (maxDischargeDepth := 12) [m4, SetL.cells, dn, knownL_R, hF]
  rw [decide_eq_true k1] at hF
  have hs := hs0.at k1
  have hO := fun (H' : MH) (e' : Ext H H') => (G_okR (mp := mpLk) lkChkR hs e').eq
  by_cases k2 : okSet s0
  case neg =>
    rw [decide_eq_false k2] at hO
    simp only [SetL.cells] at hF hO dn
    simp (maxDischargeDepth := 12) [m4, SetL.cells, dn, knownL_R, hF, hO]
  rw [decide_eq_true k2] at hO
  by_cases k3 : st.length ≤ 60
  case neg =>
    have k3' : (60 : Int) < (st.length : Int) := by omega
    simp only [SetL.cells] at hF hO dn
    simp (maxDischargeDepth := 12) [m4, SetL.cells, dn, knownL_R, hF, hO, k3']
  have k3' : ¬ (60 : Int) < (st.length : Int) := by omega
  -- ahead of New
  obtain ⟨Hn, hHn⟩ : ∃ Hn, aft mpLk 20 [.agg s0.cells.toArray] (aft mpLk 9 [.agg s0.cells.toArray] (H ++ [.cells ⟨0, true, false⟩ s0.cells])) = Hn := ⟨_, rfl⟩
  have en : Ext (H ++ [.cells ⟨0, true, false⟩ s0.cells]) Hn := by rw [← hHn]; simp (maxDischargeDepth := 12)
  have eHn : Ext H Hn := eb.trans en
  obtain ⟨l, s, L, x, H1, F1, e10, p1, x1, g1, hid, sm, b, v, hc, ha⟩ := new_ok (hs.ext eHn) (hsrc.ext eHn) k1 k2
  have hb2n : Hn[H.length]? = some (.cells ⟨0, true, false⟩ s0.cells) := en.get hb2
  have e2 : Ext H1 (H1 ++ [.cells ⟨1, true, false⟩ (warr [])]) := ⟨_, rfl⟩
  have hS : Sep (OL l s L x H1.length x.ak) (H1 ++ [.cells ⟨1, true, false⟩ (warr [])]) (F1 ++ [H1.length]) := by
    refine (Sep.one (LkS.good.ext p1 e2)).app (Sep.one (P := Pt _ _ _) ⟨rfl, by rw [ha]; simp⟩) (fun y hy hm => ?_)
    have := LkS.good.lt p1 y hy
    simp at hm; omega
  obtain ⟨H', e3⟩ := one_loop (L := L) (sc := st.length) b sm (hs.ext eHn) hb2n (hst.ext eHn) k3 st.length 0 _ _ x (by omega) (by rw [hc]; omega) hid v (by rw [ha]; simp) hS (x1.trans e2) (fun id hm => by
    rcases List.mem_append.1 hm with h | h
    · exact g1 id h
    · simp at h; have := x1.len; omega)
  have hw0 : warr [] = [.int .i64 0, .int .i64 0, .int .i64 0, .int .i64 0, .int .i64 0, .int .i64 0] := rfl
  rw [hw0] at e3
  simp only [SetL.cells] at hF hO dn hHn e10 en
  simp at e3
  simp (maxDischargeDepth := 12) [m4, SetL.cells, dn, knownL_R, hF, hO, k3', hHn, en, e10, e3]
end Go.Mod

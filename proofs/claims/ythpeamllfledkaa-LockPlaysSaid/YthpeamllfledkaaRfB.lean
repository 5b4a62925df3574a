/- The document's locks: the best of those that wait. -/
import Derived.Test.YthpeamllfledkaaRfA
set_option linter.unusedVariables false
set_option linter.unusedSimpArgs false
namespace Go.Mod
open Classical

def better {α : Type} (key : α → Int) (x : α) : Option α → α
  | none => x
  | some b => if key x < key b then x else b
theorem fmin1_snoc {α : Type} {key : α → Int} : ∀ (l : List α) (c : Option α) (x : α), fmin1 key c (l ++ [x]) = some (better key x (fmin1 key c l))
  | [], none, x => rfl
  | [], some b, x => rfl
  | a :: l, none, x => by simp only [List.cons_append, fmin1]; exact fmin1_snoc l _ x
  | a :: l, some b, x => by simp only [List.cons_append, fmin1]; exact fmin1_snoc l _ x
def candR (s : SetL) (ak : List Ask) (a : Ask) : Bool := !a.holds && (decide (0 < a.place) && !heldR s ak a.res)
/-- The best of the first ones. -/
def BestAt (s : SetL) (ak : List Ask) (i : Nat) (b : Int) : Prop := (b = -1 ∧ fmin (keyR s) ((ak.take i).filter (candR s ak)) = none) ∨ ∃ (q : Nat) (d : Ask), b = (q : Int) ∧ ak[q]? = some d ∧ fmin (keyR s) ((ak.take i).filter (candR s ak)) = some d
section
variable {mp : FuncId → Option MDef} {H H0 : MH} {r : Nat} {s : SetL} {cnt : Int} {ak : List Ask} {a : Option Addr} {c : Nat}
theorem best_loop (h61 : mp 61 = some (.code m61)) (h62 : mp 62 = some (.code m62)) (V : RfV H0 r s cnt ak a c) (hl : ak.length ≤ 1000) (hN : ∀ d ∈ ak, d.n < s.tasks.length) (hres : ∀ d ∈ ak, 0 ≤ d.res ∧ d.res < (s.homes.length : Int)) : ∀ (k i : Nat) (H : MH) (b : Int), i + k = ak.length → Ext H0 H → BestAt s ak i b →
    ∃ b', BestAt s ak ak.length b' ∧ GL mp (.loop m41_0) [(0, .pointer (some ⟨r, 0, none⟩)), (3, .int .i64 b), (4, .int .i64 (i : Int))] H (.exit 0) [(0, .pointer (some ⟨r, 0, none⟩)), (3, .int .i64 b'), (4, .int .i64 (ak.length : Int)), (12, .bool false)] := by
  have hd := ldb V.loc
  simp only [rfC] at hd
  intro k
  induction k with
  | zero =>
    intro i H b hi e hb
    have : i = ak.length := by omega
    subst this
    refine ⟨b, hb, ?_⟩
    unfold GL
    rw [Rc_loop]
    simp [m41_0, hd, e]
  | succ k ih =>
    intro i H b hi e hb
    have hin : i < ak.length := by omega
    obtain ⟨d, hdk⟩ : ∃ d, ak[i]? = some d := ⟨_, List.getElem?_eq_getElem hin⟩
    have hdm := List.mem_of_getElem? hdk
    have w : IntKind.i64.wrap ((i : Int) + 1) = (i : Int) + 1 := wrap_i64 (by omega) (by omega)
    have hia := V.row.ia
    have hrn := V.row.rdn hdk
    simp only [askR] at hrn
    obtain ⟨g0, g1⟩ := hres d hdm
    have htake : ak.take (i + 1) = ak.take i ++ [d] := by rw [List.take_add_one, hdk]; rfl
    have e1 : Ext H (H ++ [.cells ⟨0, true, false⟩ (askR d)]) := ⟨_, rfl⟩
    have h61' := fun (H : MH) (e : Ext H0 H) => R_held (mp := mp) h61 (V.ext e) hl hres g0 g1
    have hx0 : (H ++ [MObj.cells ⟨0, true, false⟩ (askR d)])[H.length]? = some (.cells ⟨0, true, false⟩ (askR d)) := by simp
    have dB := ldb hx0
    have dBn := ldbn hx0
    have hkey := fun (d : Ask) (hd : d ∈ ak) (H : MH) (e : Ext H0 H) => (G_key (mp := mp) (H := H) h62 V (hN d hd) e).eq
    -- not taken
    have skip : candR s ak d = false → BestAt s ak (i + 1) b := fun h => by
      unfold BestAt at hb ⊢
      rw [htake, List.filter_append]
      simpa [h] using hb
    by_cases hc : candR s ak d = true
    · have hc' := hc
      unfold candR at hc'
      simp only [Bool.and_eq_true, Bool.not_eq_true', decide_eq_true_eq] at hc'
      obtain ⟨c1, c2, c3⟩ := hc'
      rw [c3] at h61'
      have hsn : fmin (keyR s) ((ak.take (i + 1)).filter (candR s ak)) = some (better (keyR s) d (fmin (keyR s) ((ak.take i).filter (candR s ak)))) := by
        rw [htake, List.filter_append]
        simp only [List.filter_cons, hc, if_true, List.filter_nil]
        exact fmin1_snoc _ _ _
      rcases hb with ⟨rfl, hb⟩ | ⟨q, d', rfl, hq, hb⟩
      · have hB : BestAt s ak (i + 1) (i : Int) := .inr ⟨i, d, rfl, hdk, by rw [hsn, hb]; rfl⟩
        obtain ⟨b', p1, p2⟩ := ih (i + 1) (H ++ [.cells ⟨0, true, false⟩ (askR d)]) (i : Int) (by omega) (e.trans e1) hB
        refine ⟨b', p1, GL.step ?_ e1 (by simpa using p2)⟩
        rw [Rc_loop]
        simp only [askR] at dB dBn h61' ⊢
        rw [c1] at hrn dB dBn ⊢
        simp (maxDischargeDepth := 12) [m41_0, hd, e, hin, hia, hrn, stx, dB, dBn, c1, c2, h61', w, mdraw_full]
        done
      · have hqn := (List.getElem?_eq_some_iff.1 hq).1
        have hqm := List.mem_of_getElem? hq
        have hqrn := V.row.rdn hq
        simp only [askR] at hqrn
        have k1 := hkey d hdm
        have k2 := hkey d' hqm
        have hnb : ¬ (q : Int) < 0 := by omega
        have e2 : Ext (H ++ [.cells ⟨0, true, false⟩ (askR d)]) (aft mp 62 [.pointer (some ⟨r, 0, none⟩), .agg (askR d').toArray] (aft mp 62 [.pointer (some ⟨r, 0, none⟩), .agg (askR d).toArray] (H ++ [.cells ⟨0, true, false⟩ (askR d)]))) := by simp
        by_cases hlt : keyR s d < keyR s d'
        · have hB : BestAt s ak (i + 1) (i : Int) := .inr ⟨i, d, rfl, hdk, by rw [hsn, hb]; simp [better, hlt]⟩
          obtain ⟨b', p1, p2⟩ := ih (i + 1) _ (i : Int) (by omega) ((e.trans e1).trans e2) hB
          refine ⟨b', p1, GL.step ?_ (e1.trans e2) (by simpa using p2)⟩
          rw [Rc_loop]
          simp only [askR] at dB dBn h61' k1 k2 ⊢
          rw [c1] at hrn dB dBn k1 ⊢
          simp (maxDischargeDepth := 12) [m41_0, hd, e, hin, hia, hrn, stx, dB, dBn, c1, c2, h61', w, mdraw_full, hnb, hqn, hqrn, k1, k2, hlt]
          done
        · have hB : BestAt s ak (i + 1) (q : Int) := .inr ⟨q, d', rfl, hq, by rw [hsn, hb]; simp [better, hlt]⟩
          obtain ⟨b', p1, p2⟩ := ih (i + 1) _ (q : Int) (by omega) ((e.trans e1).trans e2) hB
          refine ⟨b', p1, GL.step ?_ (e1.trans e2) (by simpa using p2)⟩
          rw [Rc_loop]
          simp only [askR] at dB dBn h61' k1 k2 ⊢
          rw [c1] at hrn dB dBn k1 ⊢
          simp (maxDischargeDepth := 12) [m41_0, hd, e, hin, hia, hrn, stx, dB, dBn, c1, c2, h61', w, mdraw_full, hnb, hqn, hqrn, k1, k2, hlt]
          done
    · have hc' : candR s ak d = false := by simpa using hc
      obtain ⟨b', p1, p2⟩ := ih (i + 1) (H ++ [.cells ⟨0, true, false⟩ (askR d)]) b (by omega) (e.trans e1) (skip hc')
      refine ⟨b', p1, GL.step ?_ e1 (by simpa using p2)⟩
      rw [Rc_loop]
      simp only [askR] at dB dBn h61' ⊢
      cases c1 : d.holds with
      | true =>
        rw [c1] at hrn dB dBn
        simp (maxDischargeDepth := 12) [m41_0, hd, e, hin, hia, hrn, stx, dB, dBn, c1, w, mdraw_full]
        done
      | false =>
        rw [c1] at hrn dB dBn
        by_cases c2 : 0 < d.place
        · have c3 : heldR s ak d.res = true := by
            unfold candR at hc'
            simpa [c1, c2] using hc'
          rw [c3] at h61'
          simp (maxDischargeDepth := 12) [m41_0, hd, e, hin, hia, hrn, stx, dB, dBn, c1, c2, h61', w, mdraw_full]
          done
        · simp (maxDischargeDepth := 12) [m41_0, hd, e, hin, hia, hrn, stx, dB, dBn, c1, c2, w, mdraw_full]
          done
theorem G_best (hf : mp 41 = some (.code m41)) (h61 : mp 61 = some (.code m61)) (h62 : mp 62 = some (.code m62)) (V : RfV H0 r s cnt ak a c) (hl : ak.length ≤ 1000) (hN : ∀ d ∈ ak, d.n < s.tasks.length) (hres : ∀ d ∈ ak, 0 ≤ d.res ∧ d.res < (s.homes.length : Int)) (e : Ext H0 H) :
    ∃ b, BestAt s ak ak.length b ∧ GR mp 41 [.pointer (some ⟨r, 0, none⟩)] H (.int .i64 b) := by
  obtain ⟨b, h1, H', h2, x⟩ := best_loop (mp := mp) h61 h62 V hl hN hres ak.length 0 H (-1) (by omega) e (.inl ⟨rfl, by simp [fmin, fmin1]⟩)
  refine ⟨b, h1, H', ?_, x⟩
  simp at h2
  rw [R_code hf]
  simp [m41, h2]
end
end Go.Mod

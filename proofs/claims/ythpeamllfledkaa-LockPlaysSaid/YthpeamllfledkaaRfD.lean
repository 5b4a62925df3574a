/- The document's locks: one leaves; who waits; in the place of one's own. -/
import Derived.Test.YthpeamllfledkaaRfC
set_option linter.unusedVariables false
set_option linter.unusedSimpArgs false
namespace Go.Mod
open Classical

section
variable {mp : FuncId → Option MDef} {H H0 : MH} {F : List Nat} {r : Nat} {s : SetL} {cnt : Int} {ak : List Ask}
/-- A new row in the place of the old one. -/
theorem rf_new {a : Option Addr} {c : Nat} (h : (Pt r ⟨0, true, false⟩ (rfC s a ak.length c cnt) * OwnA 4 (.slice a ak.length c) (ak.flatMap askR)) H F) {H2 : MH} (e : Ext H H2) {bk : List Ask} {a2 : Option Addr} {n2 c2 : Nat} {G : List Nat} (ho : OwnA 4 (.slice a2 n2 c2) (bk.flatMap askR) H2 G) (hG : ∀ id ∈ G, H.length ≤ id) :
    n2 = bk.length ∧ ∃ H' F', meff (.st 1) [.pointer (some ⟨r, 4, none⟩), .slice a2 n2 c2] H2 = some (.tuple #[], H') ∧ RfA r s bk cnt H' F' ∧ Upd H F H' F' := by
  obtain ⟨A, B, hA, hB, hAB, hF⟩ := h
  obtain ⟨rfl, hA⟩ := hA
  have hrl := (List.getElem?_eq_some_iff.1 hA).1
  have hn2 : n2 = bk.length := by
    obtain ⟨a', n', c', e, hh⟩ := (Own.row ho).slice
    cases e
    rw [askR_flen] at hh; omega
  subst hn2
  have hr2 := e.get hA
  have hrl2 := (List.getElem?_eq_some_iff.1 hr2).1
  refine ⟨rfl, H2.set r (.cells ⟨0, true, false⟩ (rfC s a2 bk.length c2 cnt)), r :: G, ?_, ⟨a2, c2, [r], G, ⟨rfl, ?_⟩, ?_, fun x hx hm => ?_, fun x => by simp⟩, ⟨?_, fun id hid hn => ?_, fun id hid => ?_⟩⟩
  · rw [st_at hr2 rfl 4 _ rfl (by simp [rfC])]; rfl
  · rw [List.getElem?_set_self hrl2]
  · exact OwnA.good.frame ho fun id hid => by rw [List.getElem?_set_ne (by have := hG id hid; omega)]
  · simp at hx; subst hx; have := hG x hm; omega
  · have := e.len; simp; omega
  · have h1 : id ≠ r := fun e => hn ((hF id).2 (.inl (by simp [e])))
    rw [List.getElem?_set_ne fun e => h1 e.symm, ext_get e hid]
  · rcases List.mem_cons.1 hid with rfl | h
    · exact .inl ((hF id).2 (.inl (by simp)))
    · exact .inr (hG id h)
theorem dropA_at {ak : List Ask} (hu : uniqA ak) {k : Nat} {a : Ask} (ha : ak[k]? = some a) : dropA ak (a.n : Int) = ak.take k ++ ak.drop (k + 1) := by
  unfold dropA
  conv => lhs; rw [← List.take_append_drop (k + 1) ak, List.take_add_one, ha]
  rw [List.filter_append, List.filter_append]
  have e1 : (ak.take k).filter (fun b => !decide ((b.n : Int) = (a.n : Int))) = ak.take k := by
    rw [List.filter_eq_self]
    intro b hb
    obtain ⟨i, hi⟩ := List.mem_iff_getElem?.1 hb
    have hil := (List.getElem?_eq_some_iff.1 hi).1
    rw [List.length_take] at hil
    rw [List.getElem?_take_of_lt (by omega)] at hi
    simp
    intro e
    have := map_inj_at hu hi ha (by show b.n = a.n; omega)
    omega
  have e2 : (ak.drop (k + 1)).filter (fun b => !decide ((b.n : Int) = (a.n : Int))) = ak.drop (k + 1) := by
    rw [List.filter_eq_self]
    intro b hb
    obtain ⟨i, hi⟩ := List.mem_iff_getElem?.1 hb
    rw [List.getElem?_drop] at hi
    simp
    intro e
    have := map_inj_at hu hi ha (by show b.n = a.n; omega)
    omega
  rw [e1, e2]
  simp
theorem R_leaveR_no (hf : mp 18 = some (.code m18)) (h32 : mp 32 = some (.code m32)) {a : Option Addr} {c : Nat} (V : RfV H r s cnt ak a c) (hl : ak.length ≤ 1000) {n : Int} (hx : findA ak n = none) : R mp 18 [.pointer (some ⟨r, 0, none⟩), .int .i64 n] H = some (.int .i64 13, H) := by
  rcases R_atR (mp := mp) h32 V hl n with ⟨q, d, q1, q2, q3⟩ | ⟨q1, q2⟩
  · exact absurd q2 (find_none hx d (List.mem_of_getElem? q1))
  · rw [R_code hf]
    simp [m18, q2]
theorem R_leaveR_ok (hf : mp 18 = some (.code m18)) (h32 : mp 32 = some (.code m32)) (h : RfA r s ak cnt H F) (hs : SetAt H s) (hu : uniqA ak) (hl : ak.length ≤ 64) {d : Ask} (hm : d ∈ ak) :
    ∃ H' F', R mp 18 [.pointer (some ⟨r, 0, none⟩), .int .i64 (d.n : Int)] H = some (.int .i64 0, H') ∧ RfA r s (dropA ak (d.n : Int)) cnt H' F' ∧ Upd H F H' F' := by
  obtain ⟨a, c, h⟩ := h
  have V := RfV.of h hs
  have hd := ldb V.loc
  simp only [rfC] at hd
  rcases R_atR (mp := mp) h32 V (by omega) (d.n : Int) with ⟨q, d', q1, q2, q3⟩ | ⟨q1, q2⟩
  case inr => exact absurd rfl (q1 d hm)
  have hdd : d' = d := uniq_eq hu (List.mem_of_getElem? q1) hm (by omega)
  subst hdd
  have hq := (List.getElem?_eq_some_iff.1 q1).1
  obtain ⟨B, hB, _⟩ := star_r h
  obtain ⟨a', c', s1, s2, v1, H1, H2, a2, n2, c2, G, ev, k1, k2, k3, k4, k5, k6, x6, x1, g6, o1, o2, o3, bs2, os2, ns2, cs2, rfl⟩ := own_cutG (bytes := 32) hB (askR_flat _) (by omega) (by omega) (askR_flen ak) (by rw [askR_flen]; omega) hq
  cases ev
  have hEr : (ak.flatMap askR).take (q * 4) ++ (ak.flatMap askR).drop ((q + 1) * 4) = (dropA ak (d'.n : Int)).flatMap askR := by
    rw [flat_take (w := 4) q fun x _ => rfl, flat_drop (w := 4) (q + 1) fun x _ => rfl, dropA_at hu q1, List.flatMap_append]
  rw [hEr] at k6
  obtain ⟨hn2, H', F', est, p, u⟩ := rf_new h x6 k6 g6
  refine ⟨H', F', ?_, p, u⟩
  have w : IntKind.i64.wrap ((q : Int) + 1) = (q : Int) + 1 := wrap_i64 (by omega) (by omega)
  have hnq : ¬ (q : Int) < 0 := by omega
  rw [R_code hf]
  simp (maxDischargeDepth := 8) [m18, q3, hd, x1, k1, k2, k3, k4, k5, w, mdraw_full, est]
/-! ### who waits -/
def waitB (ak : List Ask) (t : Nat) : Bool := match findA ak (t : Int) with
  | some a => !a.holds
  | none => false
theorem wait_loop (h32 : mp 32 = some (.code m32)) {a : Option Addr} {c : Nat} (V : RfV H0 r s cnt ak a c) (hu : uniqA ak) (hl : ak.length ≤ 64) (hN : s.tasks.length ≤ 1000) : ∀ (k i : Nat) (H : MH) (G : List Nat) (out : List Int) (oa : Option Addr) (on oc : Nat), i + k = s.tasks.length → out.length ≤ i → Ext H0 H → (∀ id ∈ G, H0.length ≤ id) → OwnA 1 (.slice oa on oc) (i64s out) H G →
    ∃ (oa' : Option Addr) (on' oc' : Nat) (H' : MH) (G' : List Nat), Rc mp (.loop m46_0) [(0, .pointer (some ⟨r, 0, none⟩)), (3, .slice oa on oc), (4, .int .i64 (i : Int))] H = some (.exit 0, [(0, .pointer (some ⟨r, 0, none⟩)), (3, .slice oa' on' oc'), (4, .int .i64 (s.tasks.length : Int)), (13, .bool false)], H') ∧
      OwnA 1 (.slice oa' on' oc') (i64s (out ++ ((List.range' i k).filter (waitB ak)).map Int.ofNat)) H' G' ∧ Ext H0 H' ∧ ∀ id ∈ G', H0.length ≤ id := by
  have hd := ldb V.loc
  simp only [rfC] at hd
  intro k
  induction k with
  | zero =>
    intro i H G out oa on oc hi ho e hG hO
    have : i = s.tasks.length := by omega
    subst this
    refine ⟨oa, on, oc, H, G, ?_, by simpa using hO, e, hG⟩
    rw [Rc_loop]
    simp [m46_0, hd, e]
  | succ k ih =>
    intro i H G out oa on oc hi ho e hG hO
    have hin : i < s.tasks.length := by omega
    have w : IntKind.i64.wrap ((i : Int) + 1) = (i : Int) + 1 := wrap_i64 (by omega) (by omega)
    rw [List.range'_succ]
    have skip : ∀ (step : Rc mp (.loop m46_0) [(0, .pointer (some ⟨r, 0, none⟩)), (3, .slice oa on oc), (4, .int .i64 (i : Int))] H = Rc mp (.loop m46_0) [(0, .pointer (some ⟨r, 0, none⟩)), (3, .slice oa on oc), (4, .int .i64 ((i + 1 : Nat) : Int))] H), waitB ak i = false →
        ∃ (oa' : Option Addr) (on' oc' : Nat) (H' : MH) (G' : List Nat), Rc mp (.loop m46_0) [(0, .pointer (some ⟨r, 0, none⟩)), (3, .slice oa on oc), (4, .int .i64 (i : Int))] H = some (.exit 0, [(0, .pointer (some ⟨r, 0, none⟩)), (3, .slice oa' on' oc'), (4, .int .i64 (s.tasks.length : Int)), (13, .bool false)], H') ∧
      OwnA 1 (.slice oa' on' oc') (i64s (out ++ ((i :: List.range' (i + 1) k).filter (waitB ak)).map Int.ofNat)) H' G' ∧ Ext H0 H' ∧ ∀ id ∈ G', H0.length ≤ id := fun step hb => by
      rw [step, List.filter_cons_of_neg (by simp [hb])]
      exact ih (i + 1) H G out oa on oc (by omega) (by omega) e hG hO
    rcases R_atR (mp := mp) h32 (V.ext e) (by omega) (i : Int) with ⟨q, d, q1, q2, q3⟩ | ⟨q1, q2⟩
    · have hq := (List.getElem?_eq_some_iff.1 q1).1
      have hia := V.row.ia
      have hrd := V.row.rd q1
      simp only [askR] at hrd
      have hf : findA ak (i : Int) = some d := by rw [← q2]; exact uniq_find hu (List.mem_of_getElem? q1)
      cases hh : d.holds with
      | true =>
        refine skip ?_ (by unfold waitB; rw [hf]; simp [hh])
        rw [Rc_loop]
        simp (maxDischargeDepth := 8) [m46_0, hd, e, hin, q3, hq, hia, hrd, hh, w]
      | false =>
        have hb : waitB ak i = true := by unfold waitB; rw [hf]; simp [hh]
        rw [List.filter_cons_of_pos hb]
        obtain ⟨a2, n2, c2, H2, G2, p1, p2, p3⟩ := own_push1 (es := 1) (bytes := 8) (xs := [.int .i64 (i : Int)]) hO (i64s_one _) rfl rfl (by omega) (by rw [i64s_len]; omega) (by omega)
        rw [i64s_snoc] at p2
        obtain ⟨e2, hG2⟩ := upd_extL e hG p3
        obtain ⟨oa', on', oc', H', G', f1, f2, f3⟩ := ih (i + 1) H2 G2 (out ++ [(i : Int)]) a2 n2 c2 (by omega) (by simp; omega) e2 hG2 p2
        refine ⟨oa', on', oc', H', G', ?_, by simpa using f2, f3⟩
        simp at f1 p1
        rw [Rc_loop]
        simp (maxDischargeDepth := 8) [m46_0, hd, e, hin, q3, hq, hia, hrd, hh, w, p1]
        exact f1
    · refine skip ?_ (by unfold waitB; rw [find_no q1])
      rw [Rc_loop]
      simp (maxDischargeDepth := 8) [m46_0, hd, e, hin, q2, w]
theorem R_waitR (hf : mp 46 = some (.code m46)) (h32 : mp 32 = some (.code m32)) {a : Option Addr} {c : Nat} (V : RfV H0 r s cnt ak a c) (hu : uniqA ak) (hl : ak.length ≤ 64) (hN : s.tasks.length ≤ 1000) (e : Ext H0 H) :
    ∃ (v : Value) (H' : MH), R mp 46 [.pointer (some ⟨r, 0, none⟩)] H = some (v, H') ∧ Ext H H' ∧ Row 1 H' v (i64s (((List.range' 0 s.tasks.length).filter (waitB ak)).map Int.ofNat)) := by
  obtain ⟨oa', on', oc', H', G', f1, f2, f3, f4⟩ := wait_loop (mp := mp) h32 (V.ext e) hu hl hN s.tasks.length 0 H [] [] none 0 0 (by omega) (by simp) (Ext.refl _) (by simp) (.inl ⟨rfl, rfl, rfl⟩)
  refine ⟨_, H', ?_, f3, by simpa using Own.row f2⟩
  simp at f1
  rw [R_code hf]
  simp [m46, f1]
end
end Go.Mod

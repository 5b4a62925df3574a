/- The document's locks: those that are let in get places; a Grant. -/
import Derived.Test.YthpeamllfledkaaRfE
set_option linter.unusedVariables false
set_option linter.unusedSimpArgs false
namespace Go.Mod
open Classical

theorem putF_snoc : ∀ (xs : List Int) (cnt : Int) (ak : List Ask) (n : Int), putF cnt ak (xs ++ [n]) = ((putF cnt ak xs).1 + 1, updA (putF cnt ak xs).2 n (inA ((putF cnt ak xs).1 + 1)))
  | [], cnt, ak, n => rfl
  | x :: xs, cnt, ak, n => by simp only [List.cons_append, putF]; exact putF_snoc xs _ _ n
theorem putF_uniq {cnt : Int} {ak : List Ask} (hu : uniqA ak) (xs : List Int) : uniqA (putF cnt ak xs).2 := by unfold uniqA; rw [putF_n]; exact hu
theorem putF_len {cnt : Int} {ak : List Ask} (xs : List Int) : (putF cnt ak xs).2.length = ak.length := by have := congrArg List.length (putF_n xs cnt ak); simpa using this
/-- Those that are new, in order. -/
def newL (N : Nat → Bool) (k : Nat) : List Int := ((List.range k).filter N).map Int.ofNat
theorem newL_succ {N : Nat → Bool} {k : Nat} : newL N (k + 1) = if N k = true then newL N k ++ [(k : Int)] else newL N k := by
  unfold newL
  rw [List.range_succ, List.filter_append]
  split
  · rename_i h; simp [h]
  · rename_i h; simp [h]
theorem newL_len {N : Nat → Bool} {k : Nat} : (newL N k).length ≤ k := by
  unfold newL
  rw [List.length_map]
  refine Nat.le_trans (List.length_filter_le _ _) ?_
  simp
section
variable {mp : FuncId → Option MDef} {H H0 : MH} {F : List Nat} {r : Nat} {s : SetL} {cnt : Int} {ak : List Ask}
theorem rf_field {a : Option Addr} {c : Nat} (h : (Pt r ⟨0, true, false⟩ (rfC s a ak.length c cnt) * OwnA 4 (.slice a ak.length c) (ak.flatMap askR)) H F) {q : Nat} {d d' : Ask} (hq : ak[q]? = some d) {j : Nat} (hj : j < 4) {v : Value} (hv : one v = true) (hd : askR d' = (askR d).set j v) :
    ∃ H', meff (.st 1) [.pointer (some ⟨adB a, adO a + q * 4 + j, none⟩), v] H = some (.tuple #[], H') ∧ (Pt r ⟨0, true, false⟩ (rfC s a (ak.set q d').length c cnt) * OwnA 4 (.slice a (ak.set q d').length c) ((ak.set q d').flatMap askR)) H' F ∧ Upd H F H' F := by
  have hql := (List.getElem?_eq_some_iff.1 hq).1
  have hlen : (ak.set q d').length = ak.length := List.length_set ..
  rw [hlen]
  obtain ⟨A, B, hA, hB, hAB, hF⟩ := h
  obtain ⟨H', q1, q2, q3⟩ := own_set hB (p := q * 4 + j) (by rw [askR_flen]; omega) hv
  have hfs : (ak.flatMap askR).set (q * 4 + j) v = (ak.set q d').flatMap askR := flat_set hj (fun y _ => rfl) hq hd
  rw [hfs] at q2
  have hA' := Pt.good.frame hA (H' := H') fun id hid => q3.same id (Pt.good.lt hA id hid) (hAB id hid)
  refine ⟨H', by rw [← q1, Nat.add_assoc], ⟨A, B, hA', q2, hAB, hF⟩, ⟨q3.len, fun id hid hn => q3.same id hid fun hm => hn ((hF id).2 (.inr hm)), fun id hid => .inl hid⟩⟩
theorem rf_cnt {a : Option Addr} {c : Nat} (h : (Pt r ⟨0, true, false⟩ (rfC s a ak.length c cnt) * OwnA 4 (.slice a ak.length c) (ak.flatMap askR)) H F) (x : Int) :
    ∃ H', meff (.st 1) [.pointer (some ⟨r, 5, none⟩), .int .i64 x] H = some (.tuple #[], H') ∧ (Pt r ⟨0, true, false⟩ (rfC s a ak.length c x) * OwnA 4 (.slice a ak.length c) (ak.flatMap askR)) H' F ∧ Upd H F H' F := by
  obtain ⟨H', q1, q2, q3⟩ := fld_put OwnA.good h rfl (n := 5) (by simp [rfC]) (v := .int .i64 x) rfl
  exact ⟨H', q1, q2, q3⟩
theorem place_loop (h32 : mp 32 = some (.code m32)) (hs : SetAt H0 s) (hu : uniqA ak) (hl : ak.length ≤ 64) {N : Nat → Bool} (hN : ∀ t, N t = true → ∃ d ∈ ak, d.n = t) (hc0 : 0 ≤ cnt) (hc1 : cnt < 1000000) {b3 : Nat} : ∀ (k t : Nat) (H : MH) (F : List Nat), t + k = 6 → Ext H0 H → (∀ id ∈ F, H0.length ≤ id) → RfA r s (putF cnt ak (newL N t)).2 (putF cnt ak (newL N t)).1 H F → Out b3 (.cells ⟨1, true, false⟩ (narr N)) H F →
    ∃ (H' : MH) (F' : List Nat), Rc mp (.loop m40_0) [(0, .pointer (some ⟨r, 0, none⟩)), (3, .pointer (some ⟨b3, 0, none⟩)), (8, .int .i64 (t : Int))] H = some (.exit 4, [(0, .pointer (some ⟨r, 0, none⟩)), (3, .pointer (some ⟨b3, 0, none⟩)), (8, .int .i64 6), (113, .bool false)], H') ∧
      RfA r s (putF cnt ak (newL N 6)).2 (putF cnt ak (newL N 6)).1 H' F' ∧ Upd H F H' F' := by
  intro k
  induction k with
  | zero =>
    intro t H F ht e hF h hO
    have : t = 6 := by omega
    subst this
    refine ⟨H, F, ?_, h, Upd.refl _ _⟩
    rw [Rc_loop]
    simp [m40_0]
  | succ k ih =>
    intro t H F ht e hF h hO
    have ht6 : t < 6 := by omega
    have ht6I : (t : Int) < 6 := by omega
    have w : IntKind.i64.wrap ((t : Int) + 1) = (t : Int) + 1 := wrap_i64 (by omega) (by omega)
    have hn3 := ld_at hO.1 t
    rw [narr_at ht6] at hn3
    simp at hn3
    cases hNt : N t with
    | false =>
      have hL : newL N (t + 1) = newL N t := by rw [newL_succ, if_neg (by simp [hNt])]
      obtain ⟨H', F', f1, f2, f3⟩ := ih (t + 1) H F (by omega) e hF (by rw [hL]; exact h) hO
      refine ⟨H', F', ?_, f2, f3⟩
      simp at f1
      rw [Rc_loop]
      simp (maxDischargeDepth := 8) [m40_0, ht6I, hn3, hNt, w]
      exact f1
    | true =>
      have hL : newL N (t + 1) = newL N t ++ [(t : Int)] := by rw [newL_succ, if_pos hNt]
      have hcv : (putF cnt ak (newL N t)).1 = cnt + (newL N t).length := putF_cnt ..
      have hnl := newL_len (N := N) (k := t)
      have hu' := putF_uniq (cnt := cnt) hu (newL N t)
      have hl' := putF_len (cnt := cnt) (ak := ak) (newL N t)
      have hsn := putF_snoc (newL N t) cnt ak (t : Int)
      obtain ⟨d0, hd0, hd0n⟩ := hN t hNt
      have hd1 : ∃ d ∈ (putF cnt ak (newL N t)).2, d.n = t := by
        have : t ∈ (putF cnt ak (newL N t)).2.map (·.n) := by rw [putF_n, ← hd0n]; exact List.mem_map_of_mem hd0
        obtain ⟨d, h1, h2⟩ := List.mem_map.1 this
        exact ⟨d, h1, h2⟩
      rw [← hL] at hsn
      generalize (putF cnt ak (newL N t)).1 = cv at h hcv hsn
      generalize (putF cnt ak (newL N t)).2 = bk at h hu' hl' hsn hd1
      have wc : IntKind.i64.wrap (cv + 1) = cv + 1 := wrap_i64 (by omega) (by omega)
      obtain ⟨a, c, h⟩ := h
      have V := RfV.of h (hs.ext e)
      have hd := ld_at V.loc
      simp only [rfC] at hd
      obtain ⟨H1, s1, p1, u1⟩ := rf_cnt h (cv + 1)
      obtain ⟨e1, hF1⟩ := upd_extL e hF u1
      have V1 := RfV.of p1 (hs.ext e1)
      have hd1' := ld_at V1.loc
      simp only [rfC] at hd1'
      rcases R_atR (mp := mp) h32 V1 (by omega) (t : Int) with ⟨q, d, q1, q2, q3⟩ | ⟨q1, q2⟩
      case inr =>
        obtain ⟨d, h1, h2⟩ := hd1
        exact absurd (by omega) (q1 d h1)
      have hql := (List.getElem?_eq_some_iff.1 q1).1
      obtain ⟨H2, s2, p2, u2⟩ := rf_field p1 q1 (d' := inA (cv + 1) d) (j := 2) (v := .int .i64 (cv + 1)) (by omega) rfl rfl
      have hup : updA bk (t : Int) (inA (cv + 1)) = bk.set q (inA (cv + 1) d) := updA_set hu' q1 q2
      obtain ⟨e2, hF2⟩ := upd_extL e1 hF1 u2
      obtain ⟨H', F', f1, f2, f3⟩ := ih (t + 1) H2 F (by omega) e2 hF2 (by rw [hsn, hup]; exact ⟨a, c, p2⟩) ((hO.upd u1).upd u2)
      refine ⟨H', F', ?_, f2, (u1.trans u2).trans f3⟩
      simp at f1
      have hia := V1.row.ia
      rw [Rc_loop]
      simp (maxDischargeDepth := 8) [m40_0, ht6I, hn3, hNt, hd, wc, s1, hd1', q3, hia, hql, s2, w, mdraw_full]
      exact f1
theorem inC_nil {q : Nat} : inC s [] q = 0 := rfl
/-- Who is let in, by the document. -/
theorem R_letsR {x : LS} (hf : mp 40 = some (.code m40)) (h32 : mp 32 = some (.code m32)) (hs : SetAt H0 s) (e : Ext H0 H) (hF : ∀ id ∈ F, H0.length ≤ id) (b : SetB s) (v : LkInv s x) (hc1 : x.cnt < 1000000) (h : RfA r s x.ak x.cnt H F) :
    ∃ (H' : MH) (F' : List Nat), R mp 40 [.pointer (some ⟨r, 0, none⟩)] H = some (.tuple #[], H') ∧ RfA r s (putF x.cnt x.ak (selI s x)).2 (putF x.cnt x.ak (selI s x)).1 H' F' ∧ Upd H F H' F' := by
  have hnt := b.nt
  have hlen := uniq_len v.uniq v.n
  have hpl : ∀ d ∈ x.ak, d.isIn = decide (0 < d.place) ∧ 0 ≤ d.place := fun d hd => by
    cases hi : d.isIn with
    | true => have := v.pin d hd hi; rw [decide_eq_true (by omega)]; exact ⟨rfl, by omega⟩
    | false => have := (v.pout d hd hi).1; rw [decide_eq_false (by omega)]; exact ⟨rfl, by omega⟩
  have e1 : Ext H (H ++ [.cells ⟨1, true, false⟩ [.int .i64 0, .int .i64 0, .int .i64 0], .cells ⟨1, true, false⟩ [.bool false, .bool false, .bool false, .bool false, .bool false, .bool false]]) := ⟨_, rfl⟩
  have hg := RfA.good.lt h
  obtain ⟨a, c, h'⟩ := h
  have V := RfV.of h' (hs.ext e)
  have hz : (H ++ [MObj.cells ⟨1, true, false⟩ [.int .i64 0, .int .i64 0, .int .i64 0], .cells ⟨1, true, false⟩ [.bool false, .bool false, .bool false, .bool false, .bool false, .bool false]])[H.length]? = some (.cells ⟨1, true, false⟩ (farr (inC s (x.ak.take 0)))) := by simp [farr, inC, List.range, List.range.loop]
  obtain ⟨H1, f1, x1, q2, k1⟩ := in_loop (mp := mp) (b2 := H.length) (v3 := .pointer (some ⟨H.length + 1, 0, none⟩)) V b (by omega) v.n (fun d hd => (hpl d hd).1) (by omega) x.ak.length 0 _ (by omega) e1 hz
  have q3 : H1[H.length + 1]? = some (.cells ⟨1, true, false⟩ (narr fun _ => false)) := by rw [k1 _ (by omega)]; simp [narr, List.range, List.range.loop]
  have hbd : ∀ q, inC s x.ak q + x.ak.length ≤ 2000 := fun q => by
    have : inC s x.ak q ≤ x.ak.length := List.length_filter_le _ _
    omega
  obtain ⟨H2, M, f2, x2, q3', hM, k2⟩ := new_loopR (mp := mp) (b2 := H.length) (b3 := H.length + 1) V b (by omega) v.n (fun d hd => (hpl d hd).1) (fun d hd => (hpl d hd).2) (by omega) (by omega) (by omega) x.ak.length 0 H1 (inC s x.ak) (fun _ => false) (by omega) x1 hbd q2 q3
  rw [List.drop_zero] at hM
  have hMs : ∀ t, M t = true ↔ ∃ d ∈ selA s x, d.n = t := fun t => by rw [hM]; simp [selA]
  have hsub := selP_sub (s := s) x.ak (inC s x.ak)
  have hsel : newL M 6 = selI s x := by
    refine sortI_eq ?_ ?_
    · unfold newL Sorted
      rw [List.pairwise_map]
      refine List.Pairwise.sublist List.filter_sublist ?_
      refine List.Pairwise.imp ?_ List.pairwise_lt_range
      intro a b hab
      exact Int.ofNat_le.2 (Nat.le_of_lt hab)
    · have hnd1 : (newL M 6).Nodup := by
        unfold newL
        exact List.Pairwise.map _ (fun a b h e => h (Int.ofNat.inj e)) (List.nodup_range.sublist List.filter_sublist)
      have hnd2 : ((selA s x).map fun a => (a.n : Int)).Nodup := by
        have h1 : (x.ak.map (·.n)).Nodup := v.uniq
        have h2 : ((selA s x).map (·.n)).Nodup := h1.sublist (hsub.map _)
        have e : ((selA s x).map fun a => (a.n : Int)) = ((selA s x).map (·.n)).map Int.ofNat := by rw [List.map_map]; rfl
        rw [e]
        exact List.Pairwise.map _ (fun a b h e => h (Int.ofNat.inj e)) h2
      rw [List.perm_ext_iff_of_nodup hnd1 hnd2]
      intro n
      unfold newL
      simp only [List.mem_map, List.mem_filter, List.mem_range]
      constructor
      · rintro ⟨t, ⟨_, ht⟩, rfl⟩
        obtain ⟨d, hd, rfl⟩ := (hMs t).1 ht
        exact ⟨d, hd, rfl⟩
      · rintro ⟨d, hd, rfl⟩
        have := v.n d (hsub.subset hd)
        exact ⟨d.n, ⟨by omega, (hMs d.n).2 ⟨d, hd, rfl⟩⟩, rfl⟩
  have hA2 : RfA r s x.ak x.cnt H2 F := RfA.good.frame ⟨a, c, h'⟩ fun id hid => ext_get x2 (hg id hid)
  obtain ⟨e2, hF2⟩ : Ext H0 H2 ∧ ∀ id ∈ F, H0.length ≤ id := ⟨e.trans x2, hF⟩
  obtain ⟨H3, F3, f3, p3, u3⟩ := place_loop (mp := mp) (b3 := H.length + 1) h32 hs v.uniq (by omega) (N := M) (fun t ht => by
    obtain ⟨d, hd, hn⟩ := (hMs t).1 ht
    exact ⟨d, hsub.subset hd, hn⟩) v.cnt hc1 6 0 H2 F (by omega) e2 hF2 (by simpa [newL, putF] using hA2) ⟨q3', fun hm => by have := hg _ hm; omega⟩
  rw [hsel] at p3
  refine ⟨H3, F3, ?_, p3, (Upd.ext x2).trans u3⟩
  simp at f1 f2 f3
  rw [R_code hf]
  simp [m40, f1, f2, f3]
end
end Go.Mod

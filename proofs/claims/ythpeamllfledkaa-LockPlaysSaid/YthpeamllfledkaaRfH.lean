/- The document's locks: a Grant, whole; they are alike. -/
import Derived.Test.YthpeamllfledkaaRfG
set_option linter.unusedVariables false
set_option linter.unusedSimpArgs false
namespace Go.Mod
open Classical

section
variable {mp : FuncId → Option MDef} {H H0 : MH} {F : List Nat} {r : Nat} {s : SetL} {cnt : Int} {x : LS}
theorem out_loop {N : Nat → Bool} {b3 : Nat} {i3 : Info} (h3 : H0[b3]? = some (.cells i3 (narr N))) : ∀ (k t : Nat) (H : MH) (G : List Nat) (oa : Option Addr) (on oc : Nat), t + k = 6 → Ext H0 H → (∀ id ∈ G, H0.length ≤ id) → OwnA 1 (.slice oa on oc) (i64s (newL N t)) H G →
    ∃ (oa' : Option Addr) (on' oc' : Nat) (H' : MH) (G' : List Nat), Rc mp (.loop m16_0) [(3, .pointer (some ⟨b3, 0, none⟩)), (5, .slice oa on oc), (6, .int .i64 (t : Int))] H = some (.exit 2, [(3, .pointer (some ⟨b3, 0, none⟩)), (5, .slice oa' on' oc'), (6, .int .i64 6), (46, .bool false)], H') ∧
      OwnA 1 (.slice oa' on' oc') (i64s (newL N 6)) H' G' ∧ Ext H0 H' ∧ ∀ id ∈ G', H0.length ≤ id := by
  have hn3 := ldb h3
  intro k
  induction k with
  | zero =>
    intro t H G oa on oc ht e hG hO
    have : t = 6 := by omega
    subst this
    refine ⟨oa, on, oc, H, G, ?_, hO, e, hG⟩
    rw [Rc_loop]
    simp [m16_0]
  | succ k ih =>
    intro t H G oa on oc ht e hG hO
    have ht6 : t < 6 := by omega
    have ht6I : (t : Int) < 6 := by omega
    have w : IntKind.i64.wrap ((t : Int) + 1) = (t : Int) + 1 := wrap_i64 (by omega) (by omega)
    have hna := narr_at (N := N) ht6
    cases hNt : N t with
    | false =>
      have hL : newL N (t + 1) = newL N t := by rw [newL_succ, if_neg (by simp [hNt])]
      obtain ⟨oa', on', oc', H', G', f1, f2⟩ := ih (t + 1) H G oa on oc (by omega) e hG (by rw [hL]; exact hO)
      refine ⟨oa', on', oc', H', G', ?_, f2⟩
      simp at f1
      rw [Rc_loop]
      simp (maxDischargeDepth := 8) [m16_0, ht6I, hn3, e, hna, hNt, w]
      exact f1
    | true =>
      have hL : newL N (t + 1) = newL N t ++ [(t : Int)] := by rw [newL_succ, if_pos hNt]
      have hle := newL_len (N := N) (k := t)
      obtain ⟨a2, n2, c2, H2, G2, p1, p2, p3⟩ := own_push1 (es := 1) (bytes := 8) (xs := [.int .i64 (t : Int)]) hO (i64s_one _) rfl rfl (by omega) (by rw [i64s_len]; omega) (by omega)
      rw [i64s_snoc, ← hL] at p2
      obtain ⟨e2, hG2⟩ := upd_extL e hG p3
      obtain ⟨oa', on', oc', H', G', f1, f2⟩ := ih (t + 1) H2 G2 a2 n2 c2 (by omega) e2 hG2 p2
      refine ⟨oa', on', oc', H', G', ?_, f2⟩
      simp at f1 p1
      rw [Rc_loop]
      simp (maxDischargeDepth := 8) [m16_0, ht6I, hn3, e, hna, hNt, p1, w]
      exact f1
theorem keyR_eq (hp : s.proto = 2) : keyR s = prioK s := by funext a; unfold keyR; rw [if_pos hp]
theorem keyR_eq' (hp : s.proto ≠ 2) : keyR s = fun a => a.place := by funext a; unfold keyR; rw [if_neg hp]
/-- Of whom a Grant gives. -/
def letsY (s : SetL) (x : LS) : LS := if s.proto = 3 then letsF s x else x
theorem letsY_inv (v : LkInv s x) (b : SetB s) : LkInv s (letsY s x) := by
  unfold letsY
  split
  · exact (v.lets b).1
  · exact v
theorem grant0_eq (v : LkInv s x) : Mod.grant0 s x = givesF s (keyR s) (letsY s x) := by
  unfold Mod.grant0 letsY
  by_cases hp : s.proto = 2
  · rw [if_pos hp, if_neg (by omega), keyR_eq hp]
  · rw [if_neg hp, keyR_eq' hp]
    by_cases h3 : s.proto = 3
    · rw [if_pos h3]
    · rw [if_neg h3, letsF_in fun a ha => v.inn h3 a (List.mem_filter.1 ha).1]
theorem sep_two {P Q : MH → List Nat → Prop} {A B : List Nat} (h1 : P H A) (h2 : Q H B) (hd : ∀ y ∈ A, y ∉ B) : Sep [P, Q] H (A ++ B) := (Sep.one h1).app (Sep.one h2) hd
theorem R_grantR (hf : mp 16 = some (.code m16)) (h40 : mp 40 = some (.code m40)) (h32 : mp 32 = some (.code m32)) (h41 : mp 41 = some (.code m41)) (h61 : mp 61 = some (.code m61)) (h62 : mp 62 = some (.code m62)) (hs : SetAt H0 s) (b : SetB s) (v : LkInv s x) (hc1 : x.cnt < 1000000) (e : Ext H0 H) (hF : ∀ id ∈ F, H0.length ≤ id) (h : RfA r s x.ak x.cnt H F) :
    ∃ (M : Nat → Bool) (vo : Value) (H' : MH) (F' : List Nat), R mp 16 [.pointer (some ⟨r, 0, none⟩)] H = some (vo, H') ∧ RfA r s (Mod.grant0 s x).ak (Mod.grant0 s x).cnt H' F' ∧ Upd H F H' F' ∧ Row 1 H' vo (i64s (newL M 6)) ∧ ∀ t, M t = true ↔ ∃ a ∈ (letsY s x).ak, a.n = t ∧ finA s (keyR s) (letsY s x).ak a := by
  have hnt := b.nt
  have hakl := uniq_len v.uniq v.n
  obtain ⟨a, c, h'⟩ := h
  have V := RfV.of h' (hs.ext e)
  have hd := ld_at V.loc
  simp only [rfC] at hd
  obtain ⟨B, hB, _⟩ := star_r h'
  obtain ⟨v1, H1, G1, q1, q2, q3, q4⟩ := own_new (bytes := 32) (Own.row hB) (askR_flat _) (by omega) (by rw [askR_flen]; omega) (by omega)
  obtain ⟨a1, n1, c1, rfl, _⟩ := (Own.row q2).slice
  obtain ⟨hn1, H2, F2, q5, p2, u2⟩ := rf_new h' q3 q2 q4
  obtain ⟨e2, hF2⟩ := upd_extL e hF u2
  have hp2 : mread (.ld none) [.pointer (some ⟨r, 0, none⟩)] H2 = some (.int .i64 s.proto) := by
    obtain ⟨a', c', V2⟩ := p2.v (hs.ext e2)
    have := ld_at V2.loc 0
    rw [this]; rfl
  -- those that are let in
  obtain ⟨H3, F3, p3, u3, l3⟩ : ∃ (H3 : MH) (F3 : List Nat), RfA r s (letsY s x).ak (letsY s x).cnt H3 F3 ∧ Upd H2 F2 H3 F3 ∧ ((s.proto = 3 ∧ R mp 40 [.pointer (some ⟨r, 0, none⟩)] H2 = some (.tuple #[], H3)) ∨ (s.proto ≠ 3 ∧ H3 = H2)) := by
    unfold letsY
    by_cases h3 : s.proto = 3
    · rw [if_pos h3]
      obtain ⟨H3, F3, k1, k2, k3⟩ := R_letsR (mp := mp) h40 h32 hs e2 hF2 b v hc1 p2
      refine ⟨H3, F3, ?_, k3, .inl ⟨h3, k1⟩⟩
      have hsel := (v.sel b h3).1
      have : letsF s x = ⟨(putF x.cnt x.ak (selI s x)).1, (putF x.cnt x.ak (selI s x)).2, (selF s x.ts [] (waitA x.ak)).1⟩ := by
        unfold letsF
        rw [hsel]; rfl
      rw [this]; exact k2
    · rw [if_neg h3]
      exact ⟨H2, F2, p2, Upd.refl _ _, .inr ⟨h3, rfl⟩⟩
  obtain ⟨e3, hF3⟩ := upd_extL e2 hF2 u3
  have vy := letsY_inv v b
  have hcy : (Mod.grant0 s x).cnt = (letsY s x).cnt := by rw [grant0_eq v]; rfl
  have haky : (Mod.grant0 s x).ak = (letsY s x).ak.map (selH fun a => finA s (keyR s) (letsY s x).ak a) := by
    rw [grant0_eq v, gives_fin vy.uniq vy.n vy.res]; rfl
  rw [hcy, haky]
  generalize letsY s x = y at *
  have hyl := uniq_len vy.uniq vy.n
  -- what was got
  have x4 : Ext H3 (H3 ++ [.cells ⟨1, true, false⟩ (narr fun _ => false)]) := ⟨_, rfl⟩
  have hg3 := RfA.good.lt p3
  have hy0 : y.ak.map (selH fun _ => False) = y.ak := by
    conv => rhs; rw [← List.map_id y.ak]
    apply List.map_congr_left
    intro a _
    unfold selH; rw [if_neg fun h => h]; rfl
  have hS : Sep (QL r s (y.ak.map (selH fun _ => False)) y.cnt H3.length (fun _ => false)) (H3 ++ [.cells ⟨1, true, false⟩ (narr fun _ => false)]) (F3 ++ [H3.length]) := by
    rw [hy0]
    exact sep_two (RfA.good.ext p3 x4) (show Pt _ _ _ _ _ from ⟨rfl, by simp⟩) (fun z hz hm => by have := hg3 z hz; simp at hm; omega)
  have e4 := e3.trans x4
  have hF4 : ∀ id ∈ F3 ++ [H3.length], H0.length ≤ id := fun id hm => by
    rcases List.mem_append.1 hm with h | h
    · exact hF3 id h
    · simp at h; have := e3.len; omega
  obtain ⟨A5, hA5, _⟩ := Sep.at_ (k := 0) hS rfl
  obtain ⟨a5, c5, hA5⟩ := hA5
  have V5 := RfV.of hA5 (hs.ext e4)
  obtain ⟨bi, hbi, H5, l5, x5⟩ := G_best (mp := mp) (H := H3 ++ [.cells ⟨1, true, false⟩ (narr fun _ => false)]) h41 h61 h62 V5 (by rw [List.length_map]; omega) (by rw [hy0]; exact vy.n) (by rw [hy0]; exact vy.res) (Ext.refl _)
  obtain ⟨M, bj, H6, F6, f6, p6, u6, hM⟩ := give_loop (mp := mp) (b3 := H3.length) h41 h61 h62 hs b vy y.ak.length (fun _ => False) (fun _ => false) bi H5 _ (List.length_filter_le _ _) (fun a _ h => h.elim) (fun t => by simp) hbi (e4.trans x5) hF4 (Sep.ext QL.good hS x5)
  obtain ⟨A7, hA7, _⟩ := Sep.at_ (k := 1) p6 rfl
  obtain ⟨_, hA7⟩ := hA7
  obtain ⟨oa', on', oc', H7, G7, f7, p7, x7, _⟩ := out_loop (mp := mp) hA7 6 0 H6 [] none 0 0 (by omega) (Ext.refl _) (by simp) (.inl ⟨rfl, by simp [newL, i64s], rfl⟩)
  obtain ⟨A8, hA8, hsub⟩ := Sep.at_ (k := 0) p6 rfl
  have uAll : Upd H F H6 F6 := by
    have u34 : Upd H3 F3 (H3 ++ [.cells ⟨1, true, false⟩ (narr fun _ => false)]) (F3 ++ [H3.length]) := ⟨by simp, fun id hid _ => by rw [List.getElem?_append_left hid], fun id hm => by
      rcases List.mem_append.1 hm with h | h
      · exact .inl h
      · simp at h; exact .inr (by omega)⟩
    exact ((((u2.trans u3).trans u34).trans (Upd.ext x5)).trans u6)
  refine ⟨M, _, H7, A8, ?_, RfA.good.ext hA8 x7, ?_, Own.row p7, hM⟩
  · have hna0 : narr (fun _ => false) = [.bool false, .bool false, .bool false, .bool false, .bool false, .bool false] := by simp [narr, List.range, List.range.loop]
    rw [hna0] at l5
    simp at f6 f7 l5
    rw [R_code hf]
    rcases l3 with ⟨h3, l3⟩ | ⟨h3, rfl⟩
    · rw [h3] at hp2
      simp (maxDischargeDepth := 8) [m16, hd, q1, q5, hp2, l3, l5, f6, f7]
    · simp (maxDischargeDepth := 8) [m16, hd, q1, q5, hp2, h3, l5, f6, f7]
  · have := uAll.trans (Upd.ext x7)
    exact ⟨this.len, this.same, fun id hid => this.new id (hsub id hid)⟩
end

/-! ### a set and its copy -/
section
variable {s s0 : SetL} {x : LS}
theorem SameS.task (sm : SameS s s0) (n : Nat) : (s.tasks[n]?).map coreT = (s0.tasks[n]?).map coreT := by
  have := congrArg (fun l => l[n]?) sm.tasks
  simpa [List.getElem?_map] using this
theorem SameS.grp (sm : SameS s s0) (r : Int) : grpR s r = grpR s0 r := by unfold grpR; rw [sm.proto, sm.homes]
theorem SameS.cl (sm : SameS s s0) (a : Ask) : clA s a = clA s0 a := by
  have := sm.task a.n
  unfold clA
  cases h1 : s.tasks[a.n]? with
  | none =>
    rw [h1] at this
    cases h2 : s0.tasks[a.n]? with
    | none => rfl
    | some u => rw [h2] at this; cases this
  | some t =>
    rw [h1] at this
    cases h2 : s0.tasks[a.n]? with
    | none => rw [h2] at this; cases this
    | some u =>
      rw [h2] at this
      have := congrArg TCore.cluster (Option.some.inj this)
      simp only []
      rw [show t.cluster = u.cluster from this]
theorem SameS.prio (sm : SameS s s0) : prioK s = prioK s0 := by
  funext a
  have := sm.task a.n
  unfold prioK
  cases h1 : s.tasks[a.n]? with
  | none =>
    rw [h1] at this
    cases h2 : s0.tasks[a.n]? with
    | none => rfl
    | some u => rw [h2] at this; cases this
  | some t =>
    rw [h1] at this
    cases h2 : s0.tasks[a.n]? with
    | none => rw [h2] at this; cases this
    | some u =>
      rw [h2] at this
      exact congrArg TCore.prio (Option.some.inj this)
theorem SameS.sel (sm : SameS s s0) : ∀ (wa : List Ask) (ts : List Chn) (xs : List Int), selF s ts xs wa = selF s0 ts xs wa
  | [], ts, xs => rfl
  | a :: wa, ts, xs => by
    have ht := sm.task a.n
    simp only [selF]
    split
    · exact SameS.sel sm wa ts xs
    · cases h1 : s.tasks[a.n]? with
      | none =>
        rw [h1] at ht
        cases h2 : s0.tasks[a.n]? with
        | none => exact SameS.sel sm wa ts xs
        | some u => rw [h2] at ht; cases ht
      | some t =>
        rw [h1] at ht
        cases h2 : s0.tasks[a.n]? with
        | none => rw [h2] at ht; cases ht
        | some u =>
          rw [h2] at ht
          have hc : t.cluster = u.cluster := congrArg TCore.cluster (Option.some.inj ht)
          simp only [hc]
          split
          · exact SameS.sel sm wa ts xs
          · split
            · exact SameS.sel sm wa _ _
            · exact SameS.sel sm wa ts xs
theorem SameS.lets (sm : SameS s s0) : letsF s x = letsF s0 x := by unfold letsF; rw [SameS.sel sm]
theorem SameS.serves (sm : SameS s s0) : freeF s = freeF s0 := by funext ak res; unfold freeF; rw [sm.proto, sm.len, sm.homes]
theorem SameS.grant0 (sm : SameS s s0) : Mod.grant0 s x = Mod.grant0 s0 x := by
  unfold Mod.grant0 givesF
  rw [sm.proto, sm.lets, sm.serves, sm.prio]
theorem LkInv.same (v : LkInv s x) (sm : SameS s s0) : LkInv s0 x := by
  refine ⟨v.uniq, fun a ha => by rw [← sm.len]; exact v.n a ha, fun a ha => by rw [← sm.homes]; exact v.res a ha, v.cnt, fun hp => v.inn (by rw [sm.proto]; exact hp), v.pin, v.pout, fun a ha b hb h1 h2 h3 => v.one a ha b hb h1 h2 (by rw [sm.grp, sm.grp]; exact h3), fun hp c k hk => ?_⟩
  obtain ⟨ch, e1, e2, e3⟩ := v.tok (by rw [sm.proto]; exact hp) c k (by rw [sm.cores]; exact hk)
  refine ⟨ch, e1, e2, ?_⟩
  rw [e3]
  unfold inC
  congr 1
  apply List.filter_congr
  intro a _
  simp only [inP, sm.cl]
theorem SetB.same (b : SetB s) (sm : SameS s s0) : SetB s0 := by
  refine ⟨by rw [← sm.cores]; exact b.nc, by rw [← sm.homes]; exact b.nh, by rw [← sm.len]; exact b.nt, fun k hk => b.cap k (by rw [sm.cores]; exact hk), fun k hk => by rw [← sm.cores]; exact b.home k (by rw [sm.homes]; exact hk), fun t ht => ?_⟩
  have : coreT t ∈ s.tasks.map coreT := by rw [sm.tasks]; exact List.mem_map_of_mem ht
  obtain ⟨u, hu, e⟩ := List.mem_map.1 this
  have e2 : t.cluster = u.cluster := (congrArg TCore.cluster e).symm
  rw [← sm.cores, e2]; exact b.cl u hu
end
end Go.Mod

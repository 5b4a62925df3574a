/- LockOne: holders are as they may be. -/
import Derived.Test.YthpeamllfledkaaLkN
set_option linter.unusedVariables false
set_option linter.unusedSimpArgs false
namespace Go.Mod
open Classical

/-- A set, and the copy that the locks have. -/
structure SameS (s s0 : SetL) : Prop where
  proto : s.proto = s0.proto
  cores : s.cores = s0.cores
  homes : s.homes = s0.homes
  tasks : s.tasks.map coreT = s0.tasks.map coreT
theorem SameS.len {s s0 : SetL} (h : SameS s s0) : s.tasks.length = s0.tasks.length := by have := congrArg List.length h.tasks; simpa using this

section
variable {mp : FuncId → Option MDef} {H H0 : MH} {l : Nat} {s s0 : SetL} {L : Lay} {x : LS}
theorem holder_at (hf : mp 24 = some (.code m24)) (h21 : mp 21 = some (.code m21)) (V : LkV H0 l s L (x.ak.map entC) x.cnt (waitL x.ak) x.ak x.ts) (hN : s.tasks.length ≤ 1000) (res : Int) : ∀ H, Ext H0 H →
    R mp 24 [.pointer (some ⟨l, 0, none⟩), .int .i64 res] H = some (.tuple #[.int .i64 (((holderF x.ak s.tasks.length res).getD 0 : Nat) : Int), .bool (holderF x.ak s.tasks.length res).isSome], H) := fun H e => R_holder hf h21 (V.ext e) hN res
theorem busy_loop (hf : mp 24 = some (.code m24)) (h21 : mp 21 = some (.code m21)) (V : LkV H0 l s L (x.ak.map entC) x.cnt (waitL x.ak) x.ak x.ts) (hN : s.tasks.length ≤ 1000) (hs : SetAt H0 s0) (hh : s0.homes.length ≤ 1000) (c : Int) {bx : Nat} {ix : Info} (hx : H0[bx]? = some (.cells ix s0.cells)) : ∀ (k i : Nat) (H : MH), i + k = s0.homes.length → Ext H0 H →
    (servesF x.ak s.tasks.length c i (s0.homes.drop i) = true ∧ Rc mp (.loop m48_0) [(1, .pointer (some ⟨l, 0, none⟩)), (2, .int .i64 c), (3, .pointer (some ⟨bx, 0, none⟩)), (7, .int .i64 (i : Int))] H = some (.ret, [(6, .bool true)], H)) ∨
    (servesF x.ak s.tasks.length c i (s0.homes.drop i) = false ∧ Rc mp (.loop m48_0) [(1, .pointer (some ⟨l, 0, none⟩)), (2, .int .i64 c), (3, .pointer (some ⟨bx, 0, none⟩)), (7, .int .i64 (i : Int))] H = some (.exit 0, [(1, .pointer (some ⟨l, 0, none⟩)), (2, .int .i64 c), (3, .pointer (some ⟨bx, 0, none⟩)), (7, .int .i64 (s0.homes.length : Int)), (14, .bool false)], H)) := by
  have hd := ldb hx
  simp only [SetL.cells] at hd
  intro k
  induction k with
  | zero =>
    intro i H hi e
    have : i = s0.homes.length := by omega
    subst this
    refine .inr ⟨by simp [servesF], ?_⟩
    rw [Rc_loop]
    simp [m48_0, hd, e]
  | succ k ih =>
    intro i H hi e
    have hin : i < s0.homes.length := by omega
    obtain ⟨y, hy⟩ : ∃ y, s0.homes[i]? = some y := ⟨_, List.getElem?_eq_getElem hin⟩
    have w : IntKind.i64.wrap ((i : Int) + 1) = (i : Int) + 1 := wrap_i64 (by omega) (by omega)
    have hia := hs.homes.ia
    have hrd := hs.homes.rd1 hy
    simp only [intC] at hrd
    have h24 := holder_at (mp := mp) hf h21 V hN (i : Int) H e
    rw [drop_at hy]
    simp only [servesF]
    have hstep : (¬ ((holderF x.ak s.tasks.length (i : Int)).isSome = true ∧ y = c)) → Rc mp (.loop m48_0) [(1, .pointer (some ⟨l, 0, none⟩)), (2, .int .i64 c), (3, .pointer (some ⟨bx, 0, none⟩)), (7, .int .i64 (i : Int))] H = Rc mp (.loop m48_0) [(1, .pointer (some ⟨l, 0, none⟩)), (2, .int .i64 c), (3, .pointer (some ⟨bx, 0, none⟩)), (7, .int .i64 ((i : Int) + 1))] H := fun hn => by
      rw [Rc_loop]
      cases ho : holderF x.ak s.tasks.length (i : Int) with
      | none => rw [ho] at h24; simp at h24; simp [m48_0, hd, e, hin, h24, w]
      | some n =>
        rw [ho] at h24 hn
        simp at h24 hn
        simp [m48_0, hd, e, hin, h24, hia, hrd, hn, w]
    by_cases hb : (holderF x.ak s.tasks.length (i : Int)).isSome = true ∧ y = c
    · refine .inl ⟨by simp [hb.1, hb.2], ?_⟩
      obtain ⟨n, hn⟩ := Option.isSome_iff_exists.1 hb.1
      rw [hn] at h24
      simp at h24
      rw [Rc_loop]
      simp [m48_0, hd, e, hin, h24, hia, hrd, hb.2, w]
    · have hf' : ((holderF x.ak s.tasks.length (i : Int)).isSome && decide (y = c)) = false := by
        rw [Bool.eq_false_iff]
        intro h
        simp only [Bool.and_eq_true, decide_eq_true_eq] at h
        exact hb h
      rw [hf', Bool.false_or, hstep hb]
      have := ih (i + 1) H (by omega) e
      simpa using this
theorem G_busy (h48 : mp 48 = some (.code m48)) (hf : mp 24 = some (.code m24)) (h21 : mp 21 = some (.code m21)) (V : LkV H0 l s L (x.ak.map entC) x.cnt (waitL x.ak) x.ak x.ts) (hN : s.tasks.length ≤ 1000) (hs : SetAt H0 s0) (hh : s0.homes.length ≤ 1000) (c : Int) (e : Ext H0 H) :
    GR mp 48 [.agg s0.cells.toArray, .pointer (some ⟨l, 0, none⟩), .int .i64 c] H (.bool (servesF x.ak s.tasks.length c 0 s0.homes)) := by
  have e1 : Ext H (H ++ [.cells ⟨0, true, false⟩ s0.cells]) := ⟨_, rfl⟩
  have hx : (H ++ [MObj.cells ⟨0, true, false⟩ s0.cells])[H.length]? = some (.cells ⟨0, true, false⟩ s0.cells) := by simp
  have h := busy_loop (mp := mp) hf h21 (V.ext (e.trans e1)) hN (hs.ext (e.trans e1)) hh c hx s0.homes.length 0 _ (by omega) (Ext.refl _)
  rw [List.drop_zero] at h
  refine ⟨_, ?_, e1⟩
  rw [R_code h48]
  rcases h with ⟨h1, h2⟩ | ⟨h1, h2⟩
  · rw [h1]
    simp only [SetL.cells] at h2
    simp at h2
    simp [m48, SetL.cells, h2]
  · rw [h1]
    simp only [SetL.cells] at h2
    simp at h2
    simp [m48, SetL.cells, h2]

/-! ### what each wants -/
def wantF (ak : List Ask) (t : Nat) : Int := match findA ak (t : Int) with
  | some a => a.res + 1
  | none => 0
def warr (ak : List Ask) : List Value := (List.range 6).map fun t => Value.int .i64 (wantF ak t)
theorem warr_at {ak : List Ask} {t : Nat} (h : t < 6) : (warr ak)[t]? = some (.int .i64 (wantF ak t)) := by simp [warr, h]
theorem want_iff {ak : List Ask} (hu : uniqA ak) (hr : ∀ a ∈ ak, 0 ≤ a.res) {t r : Nat} : wantF ak t = (r : Int) + 1 ↔ ∃ a ∈ ak, a.n = t ∧ a.res = (r : Int) := by
  unfold wantF
  constructor
  · intro h
    cases hf : findA ak (t : Int) with
    | none => rw [hf] at h; simp only [] at h; omega
    | some a =>
      rw [hf] at h
      obtain ⟨h1, h2⟩ := findA_mem hf
      exact ⟨a, h1, by omega, by simp only [] at h; omega⟩
  · rintro ⟨a, ha, rfl, e⟩
    rw [uniq_find hu ha]
    simp only []; omega
theorem holdsB_iff {ak : List Ask} (hu : uniqA ak) {t : Nat} : holdsB ak (t : Int) = true ↔ ∃ a ∈ ak, a.n = t ∧ a.holds = true := by
  unfold holdsB
  constructor
  · intro h
    cases hf : findA ak (t : Int) with
    | none => rw [hf] at h; cases h
    | some a =>
      rw [hf] at h
      obtain ⟨h1, h2⟩ := findA_mem hf
      exact ⟨a, h1, by omega, h⟩
  · rintro ⟨a, ha, rfl, e⟩
    rw [uniq_find hu ha]
    exact e
/-- Nobody who is in waits for what nobody holds. -/
def Full (s : SetL) (x : LS) : Prop := ∀ a ∈ x.ak, a.isIn = true → a.holds = false → ∃ d ∈ x.ak, d.holds = true ∧ grpR s d.res = grpR s a.res
theorem holder_some {ak : List Ask} {N : Nat} {res : Int} (hu : uniqA ak) {n : Nat} (h : holderF ak N res = some n) : n < N ∧ ∃ a ∈ ak, a.n = n ∧ a.holds = true ∧ a.res = res := by
  obtain ⟨h1, h2, h3, _⟩ := firstN_some N 0 n h
  obtain ⟨a, ha, g1, g2, g3⟩ := (holdsR_iff hu).1 h3
  exact ⟨by omega, a, ha, g1, g2, g3⟩
theorem inner_loop (P : LkP mp) (h48 : mp 48 = some (.code m48)) (v : LkInv s x) (b : SetB s) (fl : Full s x) (sm : SameS s s0) (V : LkV H0 l s L (x.ak.map entC) x.cnt (waitL x.ak) x.ak x.ts) (hs : SetAt H0 s0) {b3 b5 b7 r : Nat} {i3 i5 : Info} (h3 : H0[b3]? = some (.cells i3 s0.cells)) (h5 : H0[b5]? = some (.cells i5 (warr x.ak))) (hr : r < s.homes.length) : ∀ (k i : Nat) (H : MH), i + k = s0.tasks.length → Ext H0 H →
    GL mp (.loop m22_1) [(1, .pointer (some ⟨l, 0, none⟩)), (3, .pointer (some ⟨b3, 0, none⟩)), (5, .pointer (some ⟨b5, 0, none⟩)), (7, .pointer (some ⟨b7, 0, none⟩)), (8, .int .i64 (r : Int)), (9, .int .i64 (((holderF x.ak s.tasks.length (r : Int)).getD 0 : Nat) : Int)), (10, .bool (holderF x.ak s.tasks.length (r : Int)).isSome), (11, .int .i64 (i : Int))] H
      (.exit 2) [(1, .pointer (some ⟨l, 0, none⟩)), (3, .pointer (some ⟨b3, 0, none⟩)), (5, .pointer (some ⟨b5, 0, none⟩)), (7, .pointer (some ⟨b7, 0, none⟩)), (8, .int .i64 (r : Int)), (9, .int .i64 (((holderF x.ak s.tasks.length (r : Int)).getD 0 : Nat) : Int)), (10, .bool (holderF x.ak s.tasks.length (r : Int)).isSome), (11, .int .i64 (s0.tasks.length : Int)), (73, .bool false)] := by
  have hd := ldb h3
  simp only [SetL.cells] at hd
  have hw5 := ldb h5
  have hnt := b.nt
  have hnh := b.nh
  have hlen := sm.len
  have hhl : s0.homes.length = s.homes.length := by rw [sm.homes]
  intro k
  induction k with
  | zero =>
    intro i H hi e
    have : i = s0.tasks.length := by omega
    subst this
    unfold GL
    rw [Rc_loop]
    simp [m22_1, hd, e]
  | succ k ih =>
    intro i H hi e
    have hin : i < s0.tasks.length := by omega
    have hi6 : i < 6 := by omega
    have hi6I : (i : Int) < 6 := by omega
    have w : IntKind.i64.wrap ((i : Int) + 1) = (i : Int) + 1 := wrap_i64 (by omega) (by omega)
    have wr : IntKind.i64.wrap ((r : Int) + 1) = (r : Int) + 1 := wrap_i64 (by omega) (by omega)
    have hwa := warr_at (ak := x.ak) hi6
    obtain ⟨y, hy⟩ : ∃ y, s0.homes[r]? = some y := ⟨_, List.getElem?_eq_getElem (by omega)⟩
    have hia := hs.homes.ia
    have hrd := hs.homes.rd1 hy
    simp only [intC] at hrd
    have hrI : (r : Int) < (s0.homes.length : Int) := by omega
    have h21 := fun (H : MH) (e : Ext H0 H) => R_holds (mp := mp) P.f21 (V.ext e) (i : Int)
    have h48' := fun (H : MH) (e : Ext H0 H) => (G_busy (mp := mp) (H := H) h48 P.f24 P.f21 V (by omega) hs (by omega) y e).eq
    have hwi := want_iff v.uniq (fun a ha => (v.res a ha).1) (t := i) (r := r)
    have hhb := holdsB_iff v.uniq (t := i)
    have hsome := holderF_isSome (N := s.tasks.length) (res := (r : Int)) v.uniq v.n
    have hlow : ∀ H1, Ext H H1 → GL mp (.loop m22_1) [(1, .pointer (some ⟨l, 0, none⟩)), (3, .pointer (some ⟨b3, 0, none⟩)), (5, .pointer (some ⟨b5, 0, none⟩)), (7, .pointer (some ⟨b7, 0, none⟩)), (8, .int .i64 (r : Int)), (9, .int .i64 (((holderF x.ak s.tasks.length (r : Int)).getD 0 : Nat) : Int)), (10, .bool (holderF x.ak s.tasks.length (r : Int)).isSome), (11, .int .i64 ((i : Int) + 1))] H1
      (.exit 2) [(1, .pointer (some ⟨l, 0, none⟩)), (3, .pointer (some ⟨b3, 0, none⟩)), (5, .pointer (some ⟨b5, 0, none⟩)), (7, .pointer (some ⟨b7, 0, none⟩)), (8, .int .i64 (r : Int)), (9, .int .i64 (((holderF x.ak s.tasks.length (r : Int)).getD 0 : Nat) : Int)), (10, .bool (holderF x.ak s.tasks.length (r : Int)).isSome), (11, .int .i64 (s0.tasks.length : Int)), (73, .bool false)] := fun H1 e1 => by
      have := ih (i + 1) H1 (by omega) (e.trans e1)
      simpa using this
    simp only [SetL.cells] at h48'
    by_cases hwt : wantF x.ak i = (r : Int) + 1
    · obtain ⟨a, ha, han, har⟩ := hwi.1 hwt
      cases hhd : a.holds with
      | true =>
        -- it holds it
        have hB : holdsB x.ak (i : Int) = true := hhb.2 ⟨a, ha, han, hhd⟩
        have hS := hsome.2 ⟨a, ha, hhd, har⟩
        obtain ⟨n, hn⟩ := Option.isSome_iff_exists.1 hS
        obtain ⟨_, d, hdm, hdn, hdh, hdr⟩ := holder_some v.uniq hn
        have hni : n = i := by
          have := v.one d hdm a ha hdh hhd (by rw [hdr, har])
          omega
        subst hni
        rw [hn] at hlow ⊢
        simp only [Option.getD_some, Option.isSome_some] at hlow ⊢
        have step := hlow H (Ext.refl _)
        refine GL.step ?_ (Ext.refl H) step
        rw [Rc_loop]
        rw [hB] at h21
        simp (maxDischargeDepth := 12) [m22_1, hd, e, hin, hi6I, hw5, hwa, hwt, wr, w, h21, mdraw_full]
      | false =>
        have hB : holdsB x.ak (i : Int) = false := by
          rw [Bool.eq_false_iff]
          intro h
          obtain ⟨a', ha', e1, e2⟩ := hhb.1 h
          rw [uniq_eq v.uniq ha' ha (by omega), hhd] at e2
          cases e2
        rw [hB] at h21
        by_cases hp2 : s0.proto = 2
        · have hin' := v.inn (by rw [sm.proto]; omega) a ha
          obtain ⟨d, hdm, hdh, hdg⟩ := fl a ha hin' hhd
          have hsv : servesF x.ak s.tasks.length y 0 s0.homes = true := by
            rw [servesF_iff]
            have hdr := v.res d hdm
            unfold grpR at hdg
            rw [if_pos (by rw [sm.proto]; exact hp2), if_pos (by rw [sm.proto]; exact hp2)] at hdg
            have hdl : d.res.toNat < s.homes.length := by omega
            refine ⟨d.res.toNat, y, ?_, rfl, ?_⟩
            · rw [har] at hdg
              have e1 : s.homes.getD (r : Int).toNat 0 = y := by simp [List.getD, sm.homes, hy]
              rw [e1] at hdg
              rw [← sm.homes, List.getElem?_eq_getElem hdl]
              rw [← hdg]
              simp [List.getD, List.getElem?_eq_getElem hdl]
            · rw [show ((0 + d.res.toNat : Nat) : Int) = d.res by omega]
              exact (holderF_isSome v.uniq v.n).2 ⟨d, hdm, hdh, rfl⟩
          rw [hsv] at h48'
          rw [hp2] at hd h48'
          refine GL.step (H1 := aft mp 48 [.agg #[.int .i64 2, .slice s0.ca s0.cores.length s0.cc, .slice s0.ha s0.homes.length s0.hc, .slice s0.ta s0.tasks.length s0.tc], .pointer (some ⟨l, 0, none⟩), .int .i64 y] H) ?_ (by simp) (hlow _ (by simp))
          rw [Rc_loop]
          have hdn := ldbn h3
          simp only [SetL.cells] at hdn
          rw [hp2] at hdn
          cases hS : (holderF x.ak s.tasks.length (r : Int)).isSome with
          | true =>
            simp (maxDischargeDepth := 12) [m22_1, hd, hdn, e, hin, hi6I, hw5, hwa, hwt, wr, w, h21, mdraw_full, h48', hia, hrd, hrI, hS]
          | false =>
            simp (maxDischargeDepth := 12) [m22_1, hd, hdn, e, hin, hi6I, hw5, hwa, hwt, wr, w, h21, mdraw_full, h48', hia, hrd, hrI, hS]
        · have hok1 : s0.proto = 1 → (holderF x.ak s.tasks.length (r : Int)).isSome = true := fun hp1 => by
            have hin' := v.inn (by rw [sm.proto]; omega) a ha
            obtain ⟨d, hdm, hdh, hdg⟩ := fl a ha hin' hhd
            unfold grpR at hdg
            rw [if_neg (by rw [sm.proto]; omega), if_neg (by rw [sm.proto]; omega)] at hdg
            exact hsome.2 ⟨d, hdm, hdh, by rw [hdg]; exact har⟩
          refine GL.step ?_ (Ext.refl H) (hlow H (Ext.refl _))
          rw [Rc_loop]
          cases hS : (holderF x.ak s.tasks.length (r : Int)).isSome with
          | true =>
            simp (maxDischargeDepth := 12) [m22_1, hd, e, hin, hi6I, hw5, hwa, hwt, wr, w, h21, mdraw_full, hp2, hS]
          | false =>
            have hp1 : ¬ s0.proto = 1 := fun h => by rw [hok1 h] at hS; cases hS
            simp (maxDischargeDepth := 12) [m22_1, hd, e, hin, hi6I, hw5, hwa, hwt, wr, w, h21, mdraw_full, hp2, hp1, hS]
    · refine GL.step ?_ (Ext.refl H) (hlow H (Ext.refl _))
      rw [Rc_loop]
      cases hB : holdsB x.ak (i : Int) with
      | true =>
        rw [hB] at h21
        simp (maxDischargeDepth := 12) [m22_1, hd, e, hin, hi6I, hw5, hwa, hwt, wr, w, h21, mdraw_full]
      | false =>
        rw [hB] at h21
        simp (maxDischargeDepth := 12) [m22_1, hd, e, hin, hi6I, hw5, hwa, hwt, wr, w, h21, mdraw_full]
end
end Go.Mod

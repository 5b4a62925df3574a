/- Who holds: New. -/
import Derived.Test.YthpeamllfledkaaLkD
set_option linter.unusedVariables false
set_option linter.unusedSimpArgs false
namespace Go.Mod

section
variable {mp : FuncId → Option MDef} {H H0 H1 : MH} {F : List Nat} {l : Nat} {s s0 : SetL} {m w : Nat} {ts : List Chn}
theorem RecA.nilA {α : Type} {w : Nat} {g : α → List Value} : RecA w none ([] : List α) g H [] := ⟨RowG.nil, by simp⟩
/-- New locks: of a set that may be, of none. -/
theorem R_new (P : LkP mp) (hchk : ChkP mp 52 68 69 70 89 53 72 71 73 90 74 54 29) (hs : SetAt H s0) (hsrc : SetSrc H s0) (hsm : s0.cores.length ≤ 50 ∧ s0.homes.length ≤ 1000 ∧ s0.tasks.length ≤ 1000 ∧ ∀ t ∈ s0.tasks, t.parts.length ≤ 1000) (hok : okSet s0 → s0.cores ≠ [] ∧ s0.tasks ≠ [] ∧ ∀ k ∈ s0.cores, 1 ≤ k ∧ k ≤ 3) :
    ∃ (l : Nat) (s : SetL) (L : Lay) (x : LS) (H' : MH) (F' : List Nat), R mp 10 [.agg s0.cells.toArray] H = some (.pointer (some ⟨l, 0, none⟩), H') ∧ LkS l s L x H' F' ∧ Ext H H' ∧ (∀ id ∈ F', H.length ≤ id) ∧ x.cnt = 0 ∧ x.ak = [] ∧ x.ts.map (·.id) = L.chs ∧
      ((okSet s0 ∧ s.proto = s0.proto ∧ s.cores = s0.cores ∧ s.homes = s0.homes ∧ s.tasks.map coreT = s0.tasks.map coreT ∧ (x.ts.map fun c => ((c.cap : Int), c.cnt)) = s0.cores.map fun k => (k, 0)) ∨ (¬ okSet s0 ∧ s = emptyS)) := by
  have x1 : Ext H (H ++ [.cells ⟨0, true, false⟩ s0.cells, .map []]) := ⟨_, rfl⟩
  obtain ⟨H2, e2, x2, l2⟩ := R_lnew (mp := mp) P.f28 (H := H ++ [.cells ⟨0, true, false⟩ s0.cells, .map []]) (room := 64)
  have hln : (H ++ [MObj.cells ⟨0, true, false⟩ s0.cells, .map []]).length = H.length + 2 := by simp
  have hH2 : H2.length = H.length + 3 := by
    rw [R_code P.f28] at e2
    simp [m28] at e2
    rw [← e2]; simp
  have e64 : min (max (64 : Int) 0) 64 = 64 := by omega
  rw [e64, hln] at l2
  let c0 : List Value := [.int .i64 0, .slice none 0 0, .slice none 0 0, .slice none 0 0, .map (some (H.length + 1)), .pointer (some ⟨H.length + 2, 0, none⟩), .slice none 0 0, .int .i64 0]
  have x3 : Ext H2 (H2 ++ [.cells ⟨0, true, false⟩ c0]) := ⟨_, rfl⟩
  have y3 : Ext H (H2 ++ [.cells ⟨0, true, false⟩ c0]) := (x1.trans x2).trans x3
  have hbx : (H2 ++ [MObj.cells ⟨0, true, false⟩ c0])[H.length]? = some (.cells ⟨0, true, false⟩ s0.cells) := (x2.trans x3).get (by simp)
  have hm : (H2 ++ [MObj.cells ⟨0, true, false⟩ c0])[H.length + 1]? = some (.map []) := (x2.trans x3).get (by simp)
  have hl : (H2 ++ [MObj.cells ⟨0, true, false⟩ c0])[H.length + 3]? = some (.cells ⟨0, true, false⟩ c0) := by rw [← hH2]; simp
  have hw := l2.ext x3
  have hlen3 : (H2 ++ [MObj.cells ⟨0, true, false⟩ c0]).length = H.length + 4 := by simp; omega
  have e2' : R mp 28 [.int .i64 64] (H ++ [.cells ⟨0, true, false⟩ s0.cells, .map []]) = some (.pointer (some ⟨H.length + 2, 0, none⟩), H2) := by rw [e2, hln]
  generalize hH3 : H2 ++ [MObj.cells ⟨0, true, false⟩ c0] = H3 at *
  have hq := G_checkP (mp := mp) (H0 := H) (H := H3) hchk hs y3
  have ex4 := ext_aft0 (mp := mp) (f := 29) (vs := [.agg s0.cells.toArray]) (H := H3)
  have e4 := hq.eq
  generalize aft mp 29 [.agg s0.cells.toArray] H3 = H4 at ex4 e4
  have y4 := y3.trans ex4
  have hrd := ldn_at hbx 0 4 (by simp [SetL.cells]) rfl
  by_cases hk : okSet s0
  · obtain ⟨hc, ht, hcap⟩ := hok hk
    have hraw : SetRaw H4 s0 := ⟨hs.cores.ext y4, hs.homes.ext y4, hs.tasks.ext y4, fun t h => (hs.parts t h).ext y4, hs.few.2.2.2.1⟩
    obtain ⟨s, H5, e5, x5, cp⟩ := R_copy (mp := mp) P.f30 P.f55 P.f56 P.f57 hraw (hsrc.ext y4) hc ht (by omega) hsm.2.1 hsm.2.2.1 hsm.2.2.2
    have y5 := y4.trans x5
    have hl5 := (ex4.trans x5).get hl
    have hlt5 := (List.getElem?_eq_some_iff.1 hl5).1
    have hl4 : H3.length ≤ H4.length := ex4.len
    let c1 : List Value := [.int .i64 s.proto, .slice s.ca s.cores.length s.cc, .slice s.ha s.homes.length s.hc, .slice s.ta s.tasks.length s.tc, .map (some (H.length + 1)), .pointer (some ⟨H.length + 2, 0, none⟩), .slice none 0 0, .int .i64 0]
    have st5 : meff (.st 4) [.pointer (some ⟨H.length + 3, 0, none⟩), .agg s.cells.toArray] H5 = some (.tuple #[], H5.set (H.length + 3) (.cells ⟨0, true, false⟩ c1)) := by
      rw [stx]; rw [hl5]; rfl
    have hne6 : ∀ id, id ≠ H.length + 3 → (H5.set (H.length + 3) (.cells ⟨0, true, false⟩ c1))[id]? = H5[id]? := fun id h => List.getElem?_set_ne (Ne.symm h)
    have hl6 : (H5.set (H.length + 3) (.cells ⟨0, true, false⟩ c1))[H.length + 3]? = some (.cells ⟨0, true, false⟩ c1) := List.getElem?_set_self hlt5
    have y6 : Ext H (H5.set (H.length + 3) (.cells ⟨0, true, false⟩ c1)) := ext_set y5 (by omega)
    generalize hH6 : H5.set (H.length + 3) (.cells ⟨0, true, false⟩ c1) = H6 at *
    have hm6 := (hne6 (H.length + 1) (by omega)).trans ((ex4.trans x5).get hm)
    have hw6 : LineAt H6 (H.length + 2) [] 64 (.slice none 0 0) [] := (hw.ext (ex4.trans x5)).frame fun id hid => hne6 id (by
      rcases hid with rfl | h
      · omega
      · cases h)
    have hb6 := (hne6 H.length (by omega)).trans ((ex4.trans x5).get hbx)
    have fc := cp.fc
    have ft := cp.ft
    have hce : s.cores ≠ [] := by rw [cp.cores]; exact hc
    have hte : s.tasks ≠ [] := fun e => by have := congrArg List.length cp.tasks; rw [e] at this; simp at this; exact ht (List.eq_nil_of_length_eq_zero (by omega))
    have R1 : RecA 1 s.ca s.cores intC H6 [adB s.ca] := ⟨cp.raw.cores.frame fun _ => hne6 _ (by omega), fun x => by simp [hce]⟩
    have R3 : RecA 6 s.ta s.tasks taskC H6 [adB s.ta] := ⟨cp.raw.tasks.frame fun _ => hne6 _ (by omega), fun x => by simp [hte]⟩
    obtain ⟨G2, R2, hG2⟩ : ∃ G2, RecA 1 s.ha s.homes intC H6 G2 ∧ ∀ x ∈ G2, adB s.ca < x ∧ x < adB s.ta := by
      by_cases hh : s0.homes = []
      · refine ⟨[], ⟨cp.raw.homes.frame fun hn => absurd (cp.homes.trans hh) hn, fun x => by simp [cp.homes, hh]⟩, by simp⟩
      · have fh := cp.fh hh
        exact ⟨[adB s.ha], ⟨cp.raw.homes.frame fun _ => hne6 _ (by omega), fun x => by simp [cp.homes, hh]⟩, fun x hx => by simp at hx; omega⟩
    have S1 : Sep (LkB (H.length + 3) s (H.length + 1) (H.length + 2) (.slice none 0 0) []) H6 ([H.length + 3] ++ ([H.length + 1] ++ ([H.length + 2] ++ ([] ++ ([] ++ ([adB s.ca] ++ (G2 ++ ([adB s.ta] ++ [])))))))) := by
      refine (Sep.one (P := Pt _ _ _) ⟨rfl, hl6⟩).app ((Sep.one (P := At _ _) ⟨rfl, hm6⟩).app ((Sep.one (LineA.of hw6)).app ((Sep.one Objs.nil).app ((Sep.one Objs.nil).app ((Sep.one R1).app ((Sep.one R2).app ((Sep.one R3).app (Sep.one (P := OwnA _ _ _) (.inl ⟨rfl, rfl, rfl⟩)) ?_) ?_) ?_) ?_) ?_) ?_) ?_) ?_
      · simp
      · intro x hx hm; have := hG2 x hx; simp at hm; omega
      · intro x hx hm
        simp at hx; subst hx
        rcases List.mem_append.1 hm with h | h
        · have := hG2 _ h; omega
        · simp at h; omega
      · simp
      · simp
      all_goals
        intro x hx hm
        simp at hx; subst hx
        simp at hm
        rcases hm with h | h | h <;> first | omega | (have := hG2 _ h; omega)
    generalize hF6 : [H.length + 3] ++ ([H.length + 1] ++ ([H.length + 2] ++ ([] ++ ([] ++ ([adB s.ca] ++ (G2 ++ ([adB s.ta] ++ []))))))) = F6 at S1
    have hF6' : ∀ id ∈ F6, H.length ≤ id := fun id hid => by
      rw [← hF6] at hid
      simp at hid
      rcases hid with h | h | h | h | h | h <;> first | omega | (have := hG2 _ h; omega)
    have hbc : adB s0.ca < H.length := by
      cases hcc : s0.cores with
      | nil => exact absurd hcc hc
      | cons y t =>
        obtain ⟨i, cs, h1, _⟩ := hs.cores.rec_ 0 y (by rw [hcc]; rfl)
        exact (List.getElem?_eq_some_iff.1 h1).1
    obtain ⟨v', ts', H7, F7, e7, p7, u7, t7⟩ := new_loop (mp := mp) (ca := s0.ca) (cc := s0.cc) (cores := s0.cores) hsm.1 hcap s0.cores.length 0 H6 F6 (.slice none 0 0) [] (by omega) (by simp) S1 rfl (hs.cores.ext y6) (fun _ hm => by have := hF6' _ hm; omega)
    rw [List.drop_zero, List.map_nil, List.nil_append] at t7
    have hts : ts'.length = s0.cores.length := by have := congrArg List.length t7; simpa using this
    have hcn : 0 < s0.cores.length := List.length_pos_iff.2 hc
    obtain ⟨A8, hO, _⟩ := Sep.at_ (k := 8) p7 rfl
    obtain ⟨a, n, c, rfl, _⟩ := (Own.row hO).slice
    have hfm : (ts'.flatMap fun c => chC c.id) = (ts'.map (·.id)).flatMap chC := by rw [List.flatMap_map]
    have p8 := Sep.imp (P' := RecA 1 a (ts'.map (·.id)) chC) p7 (k := 8) rfl (fun A hA => by
      have hr : Row 1 H7 (.slice a n c) ((ts'.map (·.id)).flatMap chC) := by rw [← hfm]; exact Own.row hA
      obtain ⟨h1, h2⟩ := RowG.of hr (by omega) (fun x _ => ⟨rfl, rfl⟩)
      refine ⟨h1, fun x => ?_⟩
      have hne : ts'.map (·.id) ≠ [] := fun e => by have := congrArg List.length e; simp at this; rw [this] at hts; simp at hts; omega
      rcases hA with ⟨h3, h4, _⟩ | ⟨b, n', c', cs, h3, _, _, _, _, h4⟩
      · cases h3
        rw [hfm] at h4
        have := congrArg List.length h4
        rw [flat_len (w := 1) (fun _ _ => rfl)] at this
        simp at this; rw [this] at hts; simp at hts; omega
      · cases h3
        rw [h4]
        simp [adB]
        intro _ e; exact hne (by rw [e]; rfl))
    have hnl : n = (ts'.map (·.id)).length := by
      have hr : Row 1 H7 (.slice a n c) ((ts'.map (·.id)).flatMap chC) := by rw [← hfm]; exact Own.row hO
      exact (RowG.of hr (by omega) (fun x _ => ⟨rfl, rfl⟩)).2
    subst hnl
    have uH : Upd H [] H6 F6 := ⟨y6.len, fun id h1 _ => ext_get y6 h1, fun id hid => .inr (hF6' id hid)⟩
    obtain ⟨xe, hge⟩ := (uH.trans u7).toExt
    let L : Lay := ⟨H.length + 1, H.length + 2, a, c, ts'.map fun c => c.id⟩
    have p9 : LkS (H.length + 3) s L ⟨0, [], ts'⟩ H7 F7 := p8
    refine ⟨H.length + 3, s, L, ⟨0, [], ts'⟩, H7, F7, ?_, p9, xe, hge, rfl, rfl, rfl, .inl ⟨hk, cp.proto, cp.cores, cp.homes, cp.tasks, t7⟩⟩
    have hz : (checkE s0).2 = 0 := hk
    rw [hz] at e4
    have q4 := ldn_at (ex4.get hbx) 0 4 (by simp [SetL.cells]) rfl
    have q6 := ld_at hb6
    simp only [SetL.cells] at e2' e4 hrd q4 q6 e5 st5 ⊢
    simp only [c0] at hH3
    simp at e7 hrd q4
    rw [R_code P.f10]
    simp [m10, e2', hH2, hH3, hrd, e4, q4, e5, st5, q6, e7]
  · have hz : (checkE s0).2 ≠ 0 := hk
    have R0 : ∀ {α : Type} {w : Nat} {g : α → List Value}, RecA w none ([] : List α) g H4 [] := RecA.nilA
    have S0 : Sep (LkL (H.length + 3) emptyS ⟨H.length + 1, H.length + 2, none, 0, []⟩ [] 0 [] [] []) H4 ([H.length + 3] ++ ([H.length + 1] ++ ([H.length + 2] ++ ([] ++ ([] ++ ([] ++ ([] ++ ([] ++ [])))))))) := by
      refine (Sep.one (P := Pt _ _ _) ⟨rfl, ex4.get hl⟩).app ((Sep.one (P := At _ _) ⟨rfl, ex4.get hm⟩).app ((Sep.one (LineA.of (hw.ext ex4))).app ((Sep.one Objs.nil).app ((Sep.one Objs.nil).app ((Sep.one R0).app ((Sep.one R0).app ((Sep.one R0).app (Sep.one R0) ?_) ?_) ?_) ?_) ?_) ?_) ?_) ?_
      all_goals simp
    refine ⟨H.length + 3, emptyS, ⟨H.length + 1, H.length + 2, none, 0, []⟩, ⟨0, [], []⟩, H4, _, ?_, S0, y4, fun id hid => ?_, rfl, rfl, rfl, .inr ⟨hk, rfl⟩⟩
    · simp only [SetL.cells] at e2' e4 hrd ⊢
      simp only [c0] at hH3
      simp at hrd
      rw [R_code P.f10]
      simp [m10, e2', hH2, hH3, hrd, e4, hz]
    · simp at hid; omega
end
end Go.Mod

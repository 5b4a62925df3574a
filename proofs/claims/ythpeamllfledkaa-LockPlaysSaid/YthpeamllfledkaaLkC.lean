/- Who holds: a set's copy, New. -/
import Derived.Test.YthpeamllfledkaaLkZ
set_option linter.unusedVariables false
set_option linter.unusedSimpArgs false
namespace Go.Mod

theorem flat_set {α : Type} {g : α → List Value} {w j : Nat} {v : Value} (hj : j < w) : ∀ {l : List α} {k : Nat} {x x' : α}, (∀ y ∈ l, (g y).length = w) → l[k]? = some x → g x' = (g x).set j v → (l.flatMap g).set (k * w + j) v = (l.set k x').flatMap g
  | [], k, x, x', _, hk, _ => by simp at hk
  | y :: l, 0, x, x', h, hk, he => by
    simp at hk; subst hk
    have := h y (by simp)
    simp only [List.flatMap_cons, Nat.zero_mul, Nat.zero_add, List.set_cons_zero]
    rw [List.set_append_left _ _ (by omega), he]
  | y :: l, k + 1, x, x', h, hk, he => by
    have h1 := h y (by simp)
    have ih := flat_set hj (l := l) (k := k) (x := x) (x' := x') (fun z hz => h z (by simp [hz])) (by simpa using hk) he
    simp only [List.flatMap_cons, List.set_cons_succ]
    rw [← ih, List.set_append_right _ _ (by rw [h1, Nat.add_mul]; omega)]
    congr 2
    rw [h1, Nat.add_mul]; omega
/-- What a copy has the same. -/
structure TCore where
  name : ByteArray
  period : Int
  deadline : Int
  prio : Int
  cluster : Int
  parts : List PartL
def coreT (t : TaskL) : TCore := ⟨t.name, t.period, t.deadline, t.prio, t.cluster, t.parts⟩
theorem taskC_len (t : TaskL) : (taskC t).length = 6 ∧ (taskC t).all one = true := ⟨rfl, rfl⟩
theorem map_set_same {α β : Type} {f : α → β} {l : List α} {k : Nat} {x x' : α} (hk : l[k]? = some x) (he : f x' = f x) : (l.set k x').map f = l.map f := by
  rw [List.map_set, he]
  apply List.ext_getElem?
  intro q
  obtain ⟨hl, hx⟩ := List.getElem?_eq_some_iff.1 hk
  by_cases hq : k = q
  · subst hq
    rw [List.getElem?_set_self (by simpa using hl), List.getElem?_map, hk]; rfl
  · rw [List.getElem?_set_ne hq]
section
variable {mp : FuncId → Option MDef} {H H0 H1 : MH}
theorem copy_loop (h57 : mp 57 = some (.code m57)) {T bx rr n : Nat} {p cs hs : Value} (hp1 : one p = true) (hp2 : one cs = true) (hp3 : one hs = true) (hn : n ≤ 1000) (hTb : T ≠ bx) : ∀ (k i : Nat) (H : MH) (tl : List TaskL), i + k = n → tl.length = n → H[T]? = some (.cells ⟨6, true, false⟩ (tl.flatMap taskC)) →
    H[bx]? = some (.cells ⟨0, true, false⟩ [p, cs, hs, .slice (some ⟨T, 0, none⟩) n n]) → (∀ t ∈ tl, RowG 3 H t.pa t.parts partC ∧ SrcA 3 H t.pa t.parts.length ∧ t.parts.length ≤ 1000) →
    ∃ (H' : MH) (tl' : List TaskL), Rc mp (.loop m30_0) [(1, .pointer (some ⟨bx, 0, none⟩)), (2, .pointer (some ⟨rr, 0, none⟩)), (18, .slice (some ⟨T, 0, none⟩) n n), (19, .int .i64 (n : Int)), (20, .int .i64 (i : Int))] H =
      some (.exit 0, [(1, .pointer (some ⟨bx, 0, none⟩)), (2, .pointer (some ⟨rr, 0, none⟩)), (18, .slice (some ⟨T, 0, none⟩) n n), (19, .int .i64 (n : Int)), (20, .int .i64 (n : Int)), (21, .bool false)], H') ∧
      tl'.map coreT = tl.map coreT ∧ H'[T]? = some (.cells ⟨6, true, false⟩ (tl'.flatMap taskC)) ∧ (∀ t ∈ tl', RowG 3 H' t.pa t.parts partC ∧ SrcA 3 H' t.pa t.parts.length ∧ t.parts.length ≤ 1000) ∧ H.length ≤ H'.length ∧ ∀ id, id < H.length → id ≠ T → H'[id]? = H[id]? := by
  intro k
  induction k with
  | zero =>
    intro i H tl hi hl hT hB hP
    have : i = n := by omega
    subst this
    refine ⟨H, tl, ?_, rfl, hT, hP, Nat.le_refl _, fun _ _ _ => rfl⟩
    rw [Rc_loop]
    simp [m30_0]
  | succ k ih =>
    intro i H tl hi hl hT hB hP
    have hin : i < n := by omega
    obtain ⟨t, ht⟩ : ∃ t, tl[i]? = some t := ⟨_, List.getElem?_eq_getElem (by omega)⟩
    have htm := List.mem_of_getElem? ht
    obtain ⟨hr, hs, hpl⟩ := hP t htm
    have w : IntKind.i64.wrap ((i : Int) + 1) = (i : Int) + 1 := wrap_i64 (by omega) (by omega)
    have hTl := (List.getElem?_eq_some_iff.1 hT).1
    have hBl := (List.getElem?_eq_some_iff.1 hB).1
    have x1 : Ext H (H ++ [.cells ⟨0, true, false⟩ (taskC t)]) := ⟨_, rfl⟩
    have hH1 : (H ++ [MObj.cells ⟨0, true, false⟩ (taskC t)])[H.length]? = some (.cells ⟨0, true, false⟩ (taskC t)) := by simp
    obtain ⟨a', c', X, e1, r1, s1, _, _, _⟩ := R_cloneG (mp := mp) (f := 57) (es := 3) (bytes := 24) (z := [.int .i64 0, .int .i64 0, .int .i64 0]) h57 rfl (by omega) (by omega) (hr.ext x1) (hs.ext x1) (by omega) t.pc
    let t' : TaskL := { t with pa := a', pc := c' }
    have x2 : Ext H (H ++ [.cells ⟨0, true, false⟩ (taskC t)] ++ X) := x1.trans ⟨X, rfl⟩
    have hfs := flat_set (g := taskC) (w := 6) (j := 5) (v := .slice a' t.parts.length c') (by omega) (l := tl) (k := i) (x := t) (x' := t') (fun y _ => rfl) ht rfl
    have hT2 := x2.get hT
    have st1 := st_at hT2 rfl (i * 6 + 5) (.slice a' t.parts.length c') rfl (by rw [flat_len (w := 6) (fun y _ => rfl)]; omega)
    rw [hfs] at st1
    -- the next state
    generalize hH3 : (H ++ [MObj.cells ⟨0, true, false⟩ (taskC t)] ++ X).set T (.cells ⟨6, true, false⟩ ((tl.set i t').flatMap taskC)) = H3 at st1
    have hT3 : H3[T]? = some (.cells ⟨6, true, false⟩ ((tl.set i t').flatMap taskC)) := by
      rw [← hH3]; exact List.getElem?_set_self (List.getElem?_eq_some_iff.1 hT2).1
    have hne : ∀ id, id ≠ T → H3[id]? = (H ++ [MObj.cells ⟨0, true, false⟩ (taskC t)] ++ X)[id]? := fun id h => by
      rw [← hH3]; exact List.getElem?_set_ne (Ne.symm h)
    have hlen3 : H.length ≤ H3.length := by rw [← hH3]; simp
    have esT : ∀ (H' : MH) (a : Option Addr) (l : List PartL), H'[T]? = some (.cells ⟨6, true, false⟩ (tl.flatMap taskC)) → RowG 3 H' a l partC → l ≠ [] → adB a ≠ T := fun H' a l hT' h hn e => by
      cases l with
      | nil => exact hn rfl
      | cons x l =>
        obtain ⟨i', cs', h1, h2, _⟩ := h.rec_ 0 x rfl
        rw [e, hT'] at h1; cases h1; cases h2
    have srT : ∀ (H' : MH) (a : Option Addr) (m : Nat), H'[T]? = some (.cells ⟨6, true, false⟩ (tl.flatMap taskC)) → SrcA 3 H' a m → (∀ id, id ≠ T → H3[id]? = H'[id]?) → SrcA 3 H3 a m := fun H' a m hT' h hid => by
      rcases h with h | ⟨b, o, i', cs', h1, h2, h3, h4⟩
      · exact .inl h
      · refine .inr ⟨b, o, i', cs', h1, ?_, h3, h4⟩
        rw [hid b (fun e => by subst e; rw [hT'] at h2; cases h2; cases h3)]; exact h2
    have hP3 : ∀ u ∈ tl.set i t', RowG 3 H3 u.pa u.parts partC ∧ SrcA 3 H3 u.pa u.parts.length ∧ u.parts.length ≤ 1000 := fun u hu => by
      have key : RowG 3 (H ++ [MObj.cells ⟨0, true, false⟩ (taskC t)] ++ X) u.pa u.parts partC ∧ SrcA 3 (H ++ [MObj.cells ⟨0, true, false⟩ (taskC t)] ++ X) u.pa u.parts.length ∧ u.parts.length ≤ 1000 := by
        rcases List.mem_or_eq_of_mem_set hu with hu | rfl
        · obtain ⟨g1, g2, g3⟩ := hP u hu
          exact ⟨g1.ext x2, g2.ext x2, g3⟩
        · exact ⟨r1, s1, hpl⟩
      exact ⟨key.1.frame fun hn => hne _ (esT _ _ _ hT2 key.1 hn), srT _ _ _ hT2 key.2.1 hne, key.2.2⟩
    obtain ⟨H', tl', e2, c2, t2, p2, l2, k2⟩ := ih (i + 1) H3 (tl.set i t') (by omega) (by simpa using hl) hT3 (by rw [hne bx (Ne.symm hTb)]; exact x2.get hB) hP3
    refine ⟨H', tl', ?_, by rw [c2]; exact map_set_same ht rfl, t2, p2, by omega, fun id h1 h2 => by rw [k2 id (by omega) h2, hne id h2]; exact ext_get x2 h1⟩
    have hld := ldn_at hT (i * 6) 6 (by rw [flat_len (w := 6) (fun y _ => rfl)]; omega) (by rw [flat_at (w := 6) (fun y _ => rfl) ht]; rfl)
    rw [flat_at (w := 6) (fun y _ => rfl) ht] at hld
    have hb1 := ldb (x1.get hB)
    have hb2 := ld_at (x2.get hB)
    have hr4 := ld_at hH1
    simp only [taskC, List.append_assoc, List.cons_append, List.nil_append] at hld hb1 hb2 hr4 e1 st1
    rw [Rc_loop]
    simp at e2
    simp (maxDischargeDepth := 12) [m30_0, hin, hld, stx, mdraw_full, hb1, hb2, hr4, e1, st1, w]
    exact e2
structure CopyOf (H : MH) (s : SetL) (H' : MH) (s' : SetL) : Prop where
  proto : s'.proto = s.proto
  cores : s'.cores = s.cores
  homes : s'.homes = s.homes
  tasks : s'.tasks.map coreT = s.tasks.map coreT
  raw : SetRaw H' s'
  src : SetSrc H' s'
  fc : H.length ≤ adB s'.ca
  fh : s.homes ≠ [] → adB s'.ca < adB s'.ha ∧ adB s'.ha < adB s'.ta
  ft : adB s'.ca < adB s'.ta
theorem R_copy (h30 : mp 30 = some (.code m30)) (h55 : mp 55 = some (.code m55)) (h56 : mp 56 = some (.code m56)) (h57 : mp 57 = some (.code m57)) {s : SetL} (hs : SetRaw H s) (hsrc : SetSrc H s) (hc : s.cores ≠ []) (ht : s.tasks ≠ []) (n1 : s.cores.length ≤ 1000) (n2 : s.homes.length ≤ 1000) (n3 : s.tasks.length ≤ 1000) (n4 : ∀ t ∈ s.tasks, t.parts.length ≤ 1000) :
    ∃ (s' : SetL) (H' : MH), R mp 30 [.agg s.cells.toArray] H = some (.agg s'.cells.toArray, H') ∧ Ext H H' ∧ CopyOf H s H' s' := by
  let z4 : List Value := [.int .i64 0, .slice none 0 0, .slice none 0 0, .slice none 0 0]
  have x2 : Ext H (H ++ [.cells ⟨0, true, false⟩ s.cells, .cells ⟨0, true, false⟩ z4]) := ⟨_, rfl⟩
  have hb : (H ++ [MObj.cells ⟨0, true, false⟩ s.cells, .cells ⟨0, true, false⟩ z4])[H.length]? = some (.cells ⟨0, true, false⟩ s.cells) := by simp
  have hz : (H ++ [MObj.cells ⟨0, true, false⟩ s.cells, .cells ⟨0, true, false⟩ z4])[H.length + 1]? = some (.cells ⟨0, true, false⟩ z4) := by simp
  have hl2 : (H ++ [MObj.cells ⟨0, true, false⟩ s.cells, .cells ⟨0, true, false⟩ z4]).length = H.length + 2 := by simp
  obtain ⟨a1, c1, X1, e1, r1, s1, _, _, g1⟩ := R_cloneG (mp := mp) (f := 55) (es := 1) (bytes := 8) (z := [.int .i64 0]) h55 rfl (by omega) (by omega) (hs.cores.ext x2) (hsrc.cores.ext x2) (by omega) s.cc
  have x3 : Ext (H ++ [.cells ⟨0, true, false⟩ s.cells, .cells ⟨0, true, false⟩ z4]) ((H ++ [.cells ⟨0, true, false⟩ s.cells, .cells ⟨0, true, false⟩ z4]) ++ X1) := ⟨_, rfl⟩
  obtain ⟨g1a, _, g1x⟩ := g1 hc
  have l3 : ((H ++ [MObj.cells ⟨0, true, false⟩ s.cells, .cells ⟨0, true, false⟩ z4]) ++ X1).length = H.length + 4 := by rw [g1x]; simp
  generalize ((H ++ [MObj.cells ⟨0, true, false⟩ s.cells, .cells ⟨0, true, false⟩ z4]) ++ X1) = H3 at e1 r1 s1 x3 l3
  have y3 := x2.trans x3
  obtain ⟨a2, c2, X2, e2, r2, s2, _, f2, g2⟩ := R_cloneG (mp := mp) (f := 55) (es := 1) (bytes := 8) (z := [.int .i64 0]) h55 rfl (by omega) (by omega) (hs.homes.ext y3) (hsrc.homes.ext y3) (by omega) s.hc
  have x4 : Ext H3 (H3 ++ X2) := ⟨_, rfl⟩
  have l4 : s.homes ≠ [] → (H3 ++ X2).length = H3.length + 2 := fun hh => by obtain ⟨_, _, g⟩ := g2 hh; rw [g]; simp
  generalize (H3 ++ X2) = H4 at e2 r2 s2 x4 l4
  have y4 := y3.trans x4
  obtain ⟨a3, c3, X3, e3, r3, s3, _, _, g3⟩ := R_cloneG (mp := mp) (f := 56) (es := 6) (bytes := 72) (z := [.string ⟨#[]⟩, .int .i64 0, .int .i64 0, .int .i64 0, .int .i64 0, .slice none 0 0]) h56 rfl (by omega) (by omega) (hs.tasks.ext y4) (hsrc.tasks.ext y4) (by omega) s.tc
  obtain ⟨g3a, g3c, g3x⟩ := g3 ht
  subst g3c
  have x5 : Ext H4 (H4 ++ X3) := ⟨_, rfl⟩
  have hT5 : (H4 ++ X3)[H4.length + 1]? = some (.cells ⟨6, true, false⟩ (s.tasks.flatMap taskC)) := by rw [g3x]; simp
  generalize (H4 ++ X3) = H5 at e3 r3 s3 x5 hT5
  have y5 := y4.trans x5
  have hb3 := x3.get hb
  have hb4 := x4.get hb3
  have hb5 := x5.get hb4
  have hlt5 := (List.getElem?_eq_some_iff.1 hb5).1
  have l3' := x4.len
  subst g3a
  -- the box behind the three stores
  have hneT : H4.length + 1 ≠ H.length := by omega
  generalize hH8 : H5.set H.length (.cells ⟨0, true, false⟩ [.int .i64 s.proto, .slice a1 s.cores.length c1, .slice a2 s.homes.length c2, .slice (some ⟨H4.length + 1, 0, none⟩) s.tasks.length s.tasks.length]) = H8
  have hb8 : H8[H.length]? = some (.cells ⟨0, true, false⟩ [.int .i64 s.proto, .slice a1 s.cores.length c1, .slice a2 s.homes.length c2, .slice (some ⟨H4.length + 1, 0, none⟩) s.tasks.length s.tasks.length]) := by rw [← hH8]; exact List.getElem?_set_self hlt5
  have hne8 : ∀ id, id ≠ H.length → H8[id]? = H5[id]? := fun id h => by rw [← hH8]; exact List.getElem?_set_ne (Ne.symm h)
  have hl8 : H8.length = H5.length := by rw [← hH8]; simp
  have y8 : Ext H H8 := by rw [← hH8]; exact ext_set y5 (Nat.le_refl _)
  have hT8 := (hne8 _ hneT).trans hT5
  obtain ⟨H9, tl', e9, t9, hT9, p9, l9, k9⟩ := copy_loop (mp := mp) (p := .int .i64 s.proto) (cs := .slice a1 s.cores.length c1) (hs := .slice a2 s.homes.length c2) (rr := H.length + 1) h57 rfl rfl rfl n3 hneT s.tasks.length 0 H8 s.tasks (by omega) rfl hT8 hb8 (fun t htm => ⟨(hs.parts t htm).ext y8, (hsrc.parts t htm).ext y8, n4 t htm⟩)
  have hlen' : tl'.length = s.tasks.length := by have := congrArg List.length t9; simpa using this
  have hb9 := (k9 H.length (by omega) (Ne.symm hneT)).trans hb8
  have hz5 := x5.get (x4.get (x3.get hz))
  have hz8 := (hne8 (H.length + 1) (by omega)).trans hz5
  have hz9 := (k9 (H.length + 1) (List.getElem?_eq_some_iff.1 hz8).1 (by omega)).trans hz8
  let s' : SetL := ⟨s.proto, s.cores, a1, c1, s.homes, a2, c2, tl', some ⟨H4.length + 1, 0, none⟩, s.tasks.length⟩
  have hcells : s'.cells = [.int .i64 s.proto, .slice a1 s.cores.length c1, .slice a2 s.homes.length c2, .slice (some ⟨H4.length + 1, 0, none⟩) s.tasks.length s.tasks.length] := by simp [s', SetL.cells, hlen']
  have y9 : Ext H H9 := by
    refine ⟨H9.drop H.length, ?_⟩
    apply List.ext_getElem?
    intro q
    rcases Nat.lt_or_ge q H.length with h | h
    · rw [List.getElem?_append_left h]
      exact (k9 q (by omega) (by omega)).trans (ext_get y8 h)
    · rw [List.getElem?_append_right h, List.getElem?_drop]; congr 1; omega
  have y10 : Ext H (H9.set (H.length + 1) (.cells ⟨0, true, false⟩ s'.cells)) := ext_set y9 (by omega)
  -- what is the same behind all
  have same : ∀ id, id ≠ H.length → id ≠ H.length + 1 → id ≠ H4.length + 1 → id < H5.length → (H9.set (H.length + 1) (.cells ⟨0, true, false⟩ s'.cells))[id]? = H5[id]? := fun id h1 h2 h3 h4 => by
    rw [List.getElem?_set_ne (Ne.symm h2), k9 id (by omega) h3, hne8 id h1]
  have bnd : ∀ {α : Type} {w : Nat} {G : MH} {a : Option Addr} {l : List α} {g : α → List Value}, RowG w G a l g → l ≠ [] → adB a < G.length := fun h hn => by
    rename_i l _
    cases l with
    | nil => exact absurd rfl hn
    | cons x l => obtain ⟨i, cs, h1, _⟩ := h.rec_ 0 x rfl; exact (List.getElem?_eq_some_iff.1 h1).1
  have ca : adB a1 = H.length + 3 := by rw [g1a, hl2]; rfl
  have ha : s.homes ≠ [] → adB a2 = H3.length + 1 := fun h => by rw [(g2 h).1]; rfl
  have srS : ∀ {w : Nat} {a : Option Addr} {m : Nat}, SrcA w H5 a m → (∀ b o, a = some ⟨b, o, none⟩ → b ≠ H.length ∧ b ≠ H.length + 1 ∧ b ≠ H4.length + 1) → SrcA w (H9.set (H.length + 1) (.cells ⟨0, true, false⟩ s'.cells)) a m := fun h hb => by
    rcases h with h | ⟨b, o, i, cs, h1, h2, h3⟩
    · exact .inl h
    · obtain ⟨q1, q2, q3⟩ := hb b o h1
      exact .inr ⟨b, o, i, cs, h1, (same b q1 q2 q3 (List.getElem?_eq_some_iff.1 h2).1).trans h2, h3⟩
  refine ⟨s', H9.set (H.length + 1) (.cells ⟨0, true, false⟩ s'.cells), ?_, y10, ⟨rfl, rfl, rfl, t9, ?_, ?_, ?_, ?_, ?_⟩⟩
  · have q1 := ldb hb
    have q3 := ldb hb3
    have q4 := ldb hb4
    have q5 := ldb hb5
    have w1 := st_at hb5 rfl 1 (.slice a1 s.cores.length c1) rfl (by simp [SetL.cells])
    have hw1 : (H5.set H.length (.cells ⟨0, true, false⟩ (s.cells.set 1 (.slice a1 s.cores.length c1))))[H.length]? = some (.cells ⟨0, true, false⟩ (s.cells.set 1 (.slice a1 s.cores.length c1))) := List.getElem?_set_self hlt5
    have w2 := st_at hw1 rfl 2 (.slice a2 s.homes.length c2) rfl (by simp [SetL.cells])
    rw [List.set_set] at w2
    have hw2 : (H5.set H.length (.cells ⟨0, true, false⟩ ((s.cells.set 1 (.slice a1 s.cores.length c1)).set 2 (.slice a2 s.homes.length c2))))[H.length]? = some (.cells ⟨0, true, false⟩ ((s.cells.set 1 (.slice a1 s.cores.length c1)).set 2 (.slice a2 s.homes.length c2))) := List.getElem?_set_self hlt5
    have w3 := st_at hw2 rfl 3 (.slice (some ⟨H4.length + 1, 0, none⟩) s.tasks.length s.tasks.length) rfl (by simp [SetL.cells])
    rw [List.set_set] at w3
    have e33 : ((s.cells.set 1 (.slice a1 s.cores.length c1)).set 2 (.slice a2 s.homes.length c2)).set 3 (.slice (some ⟨H4.length + 1, 0, none⟩) s.tasks.length s.tasks.length) = [.int .i64 s.proto, .slice a1 s.cores.length c1, .slice a2 s.homes.length c2, .slice (some ⟨H4.length + 1, 0, none⟩) s.tasks.length s.tasks.length] := rfl
    rw [e33, hH8] at w3
    have q8 := ld_at hb8
    have q9 := ldn_at hb9 0 4 (by simp) rfl
    have hrr := (List.getElem?_eq_some_iff.1 hz9).1
    have q10 := ldn_at (H := H9.set (H.length + 1) (.cells ⟨0, true, false⟩ s'.cells)) (List.getElem?_set_self hrr) 0 4 (by rw [hcells]; simp) (by rw [hcells]; rfl)
    rw [hcells] at q10 ⊢
    have q11 : meff (.st 4) [.pointer (some ⟨H.length + 1, 0, none⟩), .agg #[.int .i64 s.proto, .slice a1 s.cores.length c1, .slice a2 s.homes.length c2, .slice (some ⟨H4.length + 1, 0, none⟩) s.tasks.length s.tasks.length]] H9 = some (.tuple #[], H9.set (H.length + 1) (.cells ⟨0, true, false⟩ [.int .i64 s.proto, .slice a1 s.cores.length c1, .slice a2 s.homes.length c2, .slice (some ⟨H4.length + 1, 0, none⟩) s.tasks.length s.tasks.length])) := by
      rw [stx]; rw [hz9]; rfl
    simp only [SetL.cells, z4, List.set_cons_succ, List.set_cons_zero] at e1 e2 e3 q1 q3 q4 q5 w1 w2 w3 ⊢
    simp at e9 q9 q10
    rw [R_code h30]
    simp (maxDischargeDepth := 12) [m30, mdraw_full, q1, e1, q3, e2, q4, e3, q5, x3, x4, x5, w1, w2, w3, q8, e9, q9, q11, q10]
  · have h10 : (H9.set (H.length + 1) (.cells ⟨0, true, false⟩ s'.cells))[H4.length + 1]? = some (.cells ⟨6, true, false⟩ (tl'.flatMap taskC)) := by
      rw [List.getElem?_set_ne (by omega)]; exact hT9
    refine ⟨?_, ?_, rowG_new h10 rfl fun t _ => taskC_len t, fun t htm => ?_, by show tl'.length ≤ s.tasks.length; omega⟩
    · have r := (r1.ext x4).ext x5
      exact r.frame fun hn => same _ (by omega) (by omega) (by omega) (bnd r hn)
    · have r := r2.ext x5
      exact r.frame fun hn => by
        have h1 := ha hn
        have h2 := l4 hn
        exact same _ (by omega) (by omega) (by omega) (bnd r hn)
    · obtain ⟨g1, _, _⟩ := p9 t htm
      refine g1.frame fun hn => List.getElem?_set_ne fun e => ?_
      cases hl : t.parts with
      | nil => exact hn hl
      | cons x l =>
        obtain ⟨i, cs, q1, q2, _⟩ := g1.rec_ 0 x (by rw [hl]; rfl)
        rw [← e, hz9] at q1; cases q1; cases q2
  · refine ⟨srS ((s1.ext x4).ext x5) fun b o e => ?_, srS (s2.ext x5) fun b o e => ?_, .inr ⟨H4.length + 1, 0, _, _, rfl, by rw [List.getElem?_set_ne (by omega)]; exact hT9, rfl, by rw [flat_len (w := 6) (fun y _ => rfl)]; show 0 + tl'.length * 6 ≤ _; omega⟩, fun t htm => ?_⟩
    · have e : a1 = some ⟨b, o, none⟩ := e
      have : b = H.length + 3 := by rw [g1a] at e; cases e; omega
      omega
    · have e : a2 = some ⟨b, o, none⟩ := e
      have h1 := f2 b o e
      have h2 : b < H4.length := by
        rcases s2 with ⟨h, _⟩ | ⟨b', o', i, cs, h1, h2, _⟩
        · rw [h] at e; cases e
        · rw [h1] at e; cases e; exact (List.getElem?_eq_some_iff.1 h2).1
      omega
    · obtain ⟨_, g2, _⟩ := p9 t htm
      rcases g2 with h | ⟨b, o, i, cs, q1, q2, q3, q4⟩
      · exact .inl h
      · refine .inr ⟨b, o, i, cs, q1, ?_, q3, q4⟩
        rw [List.getElem?_set_ne fun e => by rw [← e, hz9] at q2; cases q2; cases q3]
        exact q2
  · show H.length ≤ adB a1
    omega
  · intro hn
    have h1 := ha hn
    have h2 := l4 hn
    show adB a1 < adB a2 ∧ adB a2 < H4.length + 1
    omega
  · show adB a1 < H4.length + 1
    omega
end
end Go.Mod

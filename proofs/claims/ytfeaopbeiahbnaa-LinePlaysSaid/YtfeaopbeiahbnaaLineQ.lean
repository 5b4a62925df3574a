/- LinePlays: a step, the loop, the statement. -/
import Derived.Test.YtfeaopbeiahbnaaLineN
set_option linter.unusedVariables false
set_option linter.unusedSimpArgs false
namespace Go.Mod
open Go.Proofs

/-- What is asked behind each step. -/
structure Tail (H : MH) (t u : Nat) (ids : List Int) (room : Int) (F : List Nat) (x : Int) (w v' : Value) (H3 : MH) : Prop where
  o2 : H[u]? = some (.cells ⟨0, true, false⟩ [w, .int .i64 room])
  o3 : H3[u]? = some (.cells ⟨0, true, false⟩ [w, .int .i64 room])
  fst : R mpk 31 [.pointer (some ⟨t, 0, none⟩)] H = some (.tuple #[.int .i64 (ids.headD 0), .bool (!ids.isEmpty)], H)
  all_ : R mpk 33 [.pointer (some ⟨t, 0, none⟩)] H = some (v', H3)
  same : R mpk 32 [v', w] H3 = some (.bool true, H3)
  len : R mpk 34 [.pointer (some ⟨t, 0, none⟩)] H3 = some (.int .i64 ids.length, H3)
  has : R mpk 35 [.pointer (some ⟨t, 0, none⟩), .int .i64 x] H3 = some (.bool (decide (x ∈ ids)), H3)
  at_ : R mpk 36 [w, .int .i64 x] H3 = some (.int .i64 (ixOf x ids), H3)
  ext : Ext H H3
  row : Row 1 H w (i64s ids)
  row' : Row 1 H3 v' (i64s ids)
theorem Two.tail {H : MH} {t u : Nat} {ids : List Int} {room : Int} {F : List Nat} (T : Two H t u ids room F) (x : Int) : ∃ w v' H3, Tail H t u ids room F x w v' H3 := by
  obtain ⟨v, fp, w, fq, h1, h2, h3, h4⟩ := T.ex
  obtain ⟨v', H3, a1, x1, r1⟩ := R_lall (mp := mpk) rfl rfl h1
  have h1' := h1.ext x1
  have h2' := h2.ext x1
  have hl := h1.len
  exact ⟨w, v', H3, h2.obj, h2'.obj, R_lfirst rfl h1, a1, R_same rfl r1 h2'.row (by omega), R_llen rfl h1', R_lhas rfl rfl rfl h1' x, R_at rfl h2'.row (by omega), x1, h2.row, r1⟩

theorem i64s_cells {p : List Int} {w0 w1 : Int} (h : p = [w0, w1]) : i64s p = [.int .i64 w0, .int .i64 w1] := by subst h; rfl

theorem plays_step {H : MH} {t u bl : Nat} {ids : List Int} {room : Int} {F : List Nat} {cs : List Value} {n c i : Nat} {w0 x : Int} (T : Two H t u ids room F) (hr : room ≤ 64) (hbl : bl ∉ F) (hB : H[bl]? = some (.cells ⟨2, false, false⟩ cs))
    (hi : i < n) (hn : n ≤ 100) (hcl : i * 2 + 2 ≤ cs.length) (hc : (cs.drop (i * 2)).take 2 = [.int .i64 w0, .int .i64 x]) :
    ∃ H' ids' F', Rc mpk (.loop m6_0) [(1, .slice (some ⟨bl, 0, none⟩) n c), (5, .pointer (some ⟨t, 0, none⟩)), (6, .pointer (some ⟨u, 0, none⟩)), (7, .int .i64 (i : Int))] H =
      Rc mpk (.loop m6_0) [(1, .slice (some ⟨bl, 0, none⟩) n c), (5, .pointer (some ⟨t, 0, none⟩)), (6, .pointer (some ⟨u, 0, none⟩)), (7, .int .i64 ((i + 1 : Nat) : Int))] H' ∧
      Two H' t u ids' room F' ∧ bl ∉ F' ∧ H'[bl]? = some (.cells ⟨2, false, false⟩ cs) := by
  have c0 : cs[i * 2]? = some (.int .i64 w0) := by
    have := congrArg (fun l => l[0]?) hc
    simpa using this
  have c1 : cs[i * 2 + 1]? = some (.int .i64 x) := by
    have := congrArg (fun l => l[1]?) hc
    simpa using this
  have wi : IntKind.i64.wrap ((i : Int) + 1) = (i : Int) + 1 := wrap_i64 (by omega) (by omega)
  have e1 : Ext H (H ++ [.cells ⟨0, true, false⟩ [.int .i64 w0, .int .i64 x]]) := ⟨_, rfl⟩
  have hs : (H ++ [MObj.cells ⟨0, true, false⟩ [.int .i64 w0, .int .i64 x]])[H.length]? = some (.cells ⟨0, true, false⟩ [.int .i64 w0, .int .i64 x]) := by simp
  have T1 := T.ext e1
  have hsF : H.length ∉ F := fun h => by have := T.lt _ h; omega
  have hld : mread (.ld (some 2)) [.pointer (some ⟨bl, i * 2, none⟩)] H = some (.agg #[.int .i64 w0, .int .i64 x]) := by
    rw [ldn_at hB _ _ hcl (by rw [hc]; rfl), hc]
  have hbF : ∀ {f g xs ys ids' r H1 H2 F'}, R mpk f xs (H ++ [.cells ⟨0, true, false⟩ [.int .i64 w0, .int .i64 x]]) = some (r, H1) → R mpk g ys H1 = some (r, H2) → Two H2 t u ids' room F' → (∀ id ∈ F', id ∈ F ∨ (H ++ [MObj.cells ⟨0, true, false⟩ [.int .i64 w0, .int .i64 x]]).length ≤ id) → bl ∉ F' := by
    intro f g xs ys ids' r H1 H2 F' _ _ _ hF hb
    rcases hF bl hb with h | h
    · exact hbl h
    · have := (List.getElem?_eq_some_iff.1 hB).1
      simp at h; omega
  have hst : ∀ a b : Value, one a = true → one b = true → meff (.st 2) [.pointer (some ⟨H.length, 0, none⟩), .agg #[.int .i64 w0, .int .i64 x]] (H ++ [.cells ⟨0, true, false⟩ [a, b]]) = some (.tuple #[], H ++ [.cells ⟨0, true, false⟩ [.int .i64 w0, .int .i64 x]]) := by
    intro a b _ _
    rw [stx]; simp
  by_cases h3 : w0 ≤ 3
  · obtain ⟨ids', e, H1, H2, F', p1, p2, T2, f1, f2, n2⟩ := pair_put T1 hr x
    obtain ⟨w, v', H3, q⟩ := T2.tail x
    have hB3 := q.ext.get (f2.get (e1.get hB) hbl)
    have hs1 := f1.get hs hsF
    refine ⟨H3, ids', F', ?_, T2.ext q.ext, hbF p1 p2 T2 n2, hB3⟩
    obtain ⟨a, n', c', rfl, hlw⟩ := q.row.slice
    obtain ⟨a3, n3, c3, rfl, hlv⟩ := q.row'.slice
    have hn' : n' = ids'.length := by rw [i64s_len] at hlw; omega
    have hixd : (decide (x ∈ ids')) = decide (0 ≤ ixOf x ids') := decide_eq_decide.2 ixOf_nonneg.symm
    have has := q.has
    rw [hixd] at has
    have fst := q.fst
    have len := q.len
    rw [← hn'] at len
    have o2 := q.o2; have o3 := q.o3; have all_ := q.all_; have same := q.same; have at_ := q.at_
    generalize ixOf x ids' = ix at has at_
    rw [Rc_loop]
    cases ids' with
    | nil =>
      have : n' = 0 := hn'
      subst this
      simp at fst len
      simp [m6_0, hi, hld, hst, ld_at hs, ld_at hs1, h3, mdraw_full, p1, p2, fst, ld_at o2, ld_at o3, all_, same, len, has, at_, wi, ld_at hB3, c1]
    | cons y ys =>
      obtain ⟨b, o, j, cs', rfl, hB', hes', hat'⟩ := q.row.at (k := 0) (by simp at hn'; omega)
      have hat' : cs'[o]? = some (.int .i64 y) := by simpa [i64s] using hat'
      have hp : 0 < n' := by simp at hn'; omega
      simp at fst len
      simp [m6_0, hi, hld, hst, ld_at hs, ld_at hs1, h3, mdraw_full, p1, p2, fst, ld_at o2, ld_at o3, all_, same, len, has, at_, wi, ld_at hB3, c1, hp, ld_at hB', hat']
  · by_cases h5 : w0 ≤ 5
    · obtain ⟨ids', e0, e, H1, H2, F', p1, p2, T2, f1, f2, n2⟩ := pair_take T1
      obtain ⟨w, v', H3, q⟩ := T2.tail x
      have hB3 := q.ext.get (f2.get (e1.get hB) hbl)
      have hs1 := f1.get hs hsF
      refine ⟨H3, ids', F', ?_, T2.ext q.ext, hbF p1 p2 T2 n2, hB3⟩
      obtain ⟨a, n', c', rfl, hlw⟩ := q.row.slice
      obtain ⟨a3, n3, c3, rfl, hlv⟩ := q.row'.slice
      have hn' : n' = ids'.length := by rw [i64s_len] at hlw; omega
      have hixd : (decide (x ∈ ids')) = decide (0 ≤ ixOf x ids') := decide_eq_decide.2 ixOf_nonneg.symm
      have has := q.has
      rw [hixd] at has
      have fst := q.fst
      have len := q.len
      rw [← hn'] at len
      have o2 := q.o2; have o3 := q.o3; have all_ := q.all_; have same := q.same; have at_ := q.at_
      generalize ixOf x ids' = ix at has at_
      rw [Rc_loop]
      cases ids' with
      | nil =>
        have : n' = 0 := hn'
        subst this
        simp at fst len
        simp [m6_0, hi, hld, hst, ld_at hs, ld_at hs1, h3, h5, mdraw_full, p1, p2, fst, ld_at o2, ld_at o3, all_, same, len, has, at_, wi, ld_at hB3, c1]
      | cons y ys =>
        obtain ⟨b, o, j, cs', rfl, hB', hes', hat'⟩ := q.row.at (k := 0) (by simp at hn'; omega)
        have hat' : cs'[o]? = some (.int .i64 y) := by simpa [i64s] using hat'
        have hp : 0 < n' := by simp at hn'; omega
        simp at fst len
        simp [m6_0, hi, hld, hst, ld_at hs, ld_at hs1, h3, h5, mdraw_full, p1, p2, fst, ld_at o2, ld_at o3, all_, same, len, has, at_, wi, ld_at hB3, c1, hp, ld_at hB', hat']
    · obtain ⟨H1, H2, F', p1, p2, T2, f1, f2, n2⟩ := pair_drop T1 x
      generalize ids.erase x = ids' at T2
      generalize decide (x ∈ ids) = bb at p1 p2
      obtain ⟨w, v', H3, q⟩ := T2.tail x
      have hB3 := q.ext.get (f2.get (e1.get hB) hbl)
      have hs1 := f1.get hs hsF
      refine ⟨H3, ids', F', ?_, T2.ext q.ext, hbF p1 p2 T2 n2, hB3⟩
      obtain ⟨a, n', c', rfl, hlw⟩ := q.row.slice
      obtain ⟨a3, n3, c3, rfl, hlv⟩ := q.row'.slice
      have hn' : n' = ids'.length := by rw [i64s_len] at hlw; omega
      have hixd : (decide (x ∈ ids')) = decide (0 ≤ ixOf x ids') := decide_eq_decide.2 ixOf_nonneg.symm
      have has := q.has
      rw [hixd] at has
      have fst := q.fst
      have len := q.len
      rw [← hn'] at len
      have o2 := q.o2; have o3 := q.o3; have all_ := q.all_; have same := q.same; have at_ := q.at_
      generalize ixOf x ids' = ix at has at_
      rw [Rc_loop]
      cases ids' with
      | nil =>
        have : n' = 0 := hn'
        subst this
        simp at fst len
        simp [m6_0, hi, hld, hst, ld_at hs, ld_at hs1, h3, h5, mdraw_full, p1, p2, fst, ld_at o2, ld_at o3, all_, same, len, has, at_, wi, ld_at hB3, c1]
      | cons y ys =>
        obtain ⟨b, o, j, cs', rfl, hB', hes', hat'⟩ := q.row.at (k := 0) (by simp at hn'; omega)
        have hat' : cs'[o]? = some (.int .i64 y) := by simpa [i64s] using hat'
        have hp : 0 < n' := by simp at hn'; omega
        simp at fst len
        simp [m6_0, hi, hld, hst, ld_at hs, ld_at hs1, h3, h5, mdraw_full, p1, p2, fst, ld_at o2, ld_at o3, all_, same, len, has, at_, wi, ld_at hB3, c1, hp, ld_at hB', hat']

theorem plays_loop {t u bl : Nat} {room : Int} {cs : List Value} {l : List (List Int)} {c : Nat} (hr : room ≤ 64) (hn : l.length ≤ 100) (hcl : cs.length = l.length * 2)
    (hc : ∀ (i : Nat) p, l[i]? = some p → (cs.drop (i * 2)).take 2 = i64s p ∧ p.length = 2 ∧ ∀ x ∈ p, (Lit.int .i64 x).wf = true) : ∀ (k i : Nat) (H : MH) (ids : List Int) (F : List Nat), i + k = l.length → Two H t u ids room F → bl ∉ F → H[bl]? = some (.cells ⟨2, false, false⟩ cs) →
    ∃ H', Rc mpk (.loop m6_0) [(1, .slice (some ⟨bl, 0, none⟩) l.length c), (5, .pointer (some ⟨t, 0, none⟩)), (6, .pointer (some ⟨u, 0, none⟩)), (7, .int .i64 (i : Int))] H =
      some (.exit 0, [(1, .slice (some ⟨bl, 0, none⟩) l.length c), (5, .pointer (some ⟨t, 0, none⟩)), (6, .pointer (some ⟨u, 0, none⟩)), (7, .int .i64 (l.length : Int)), (28, .bool false)], H')
  | 0, i, H, ids, F, hk, T, hbl, hB => by
    have : i = l.length := by omega
    subst this
    refine ⟨H, ?_⟩
    rw [Rc_loop]
    simp [m6_0]
  | k + 1, i, H, ids, F, hk, T, hbl, hB => by
    have hi : i < l.length := by omega
    obtain ⟨h1, h2, _⟩ := hc i l[i] (List.getElem?_eq_getElem hi)
    obtain ⟨w0, x, hp⟩ : ∃ w0 x, l[i] = [w0, x] := by
      match hl : l[i], h2 with
      | [a, b], _ => exact ⟨a, b, rfl⟩
    rw [hp] at h1
    obtain ⟨H1, ids1, F1, s1, T1, b1, B1⟩ := plays_step (c := c) T hr hbl hB hi hn (by omega) h1
    obtain ⟨H', h'⟩ := plays_loop hr hn hcl hc k (i + 1) H1 ids1 F1 (by omega) T1 b1 B1
    exact ⟨H', by rw [s1]; exact h'⟩

theorem linePlays {H : MH} {v : Value} {l : List (List Int)} {room : Int} (hr : IRow 2 H v l) : ∃ H', R mpk 6 [.int .i64 room, v] H = some (.bool true, H') := by
  refine isTrue_ex ?_
  obtain ⟨a, c, hv⟩ := hr.slice
  by_cases hbig : 100 < l.length
  · have hbi : (100 : Int) < (l.length : Int) := by omega
    subst hv
    rw [R_code (fn := m6) rfl]
    simp [m6, known_R, hbi]
  · have hbi : ¬ (100 : Int) < (l.length : Int) := by omega
    obtain ⟨H1, e1, x1, l1⟩ := R_lnew (mp := mpk) rfl (H := H) (room := room)
    obtain ⟨H2, e2, x2, l2⟩ := R_rnew (mp := mpk) rfl (H := H1) (room := room)
    have hrr : max 0 (min room 64) = min (max room 0) 64 := by omega
    rw [hrr] at l2
    have hle : min (max room 0) 64 ≤ 64 := by omega
    generalize min (max room 0) 64 = rm at l1 l2 hle
    have hx := x1.len
    have hlt := l1.lt
    have T : Two H2 H.length H1.length [] rm [H.length, H1.length] := ⟨_, _, _, _, l1.ext x2, l2, fun id h h' => by
      simp at h h'; omega, fun id => by simp⟩
    rcases hr with ⟨h1, h2⟩ | ⟨b, cs, h1, hB, hcl, hc⟩
    · subst h2
      subst h1
      rw [R_code (fn := m6) rfl]
      simp [m6, known_R, e1, e2, Rc_loop, m6_0]
    · rw [h1] at hv; cases hv
      subst h1
      have hb := (List.getElem?_eq_some_iff.1 hB).1
      obtain ⟨H3, h3⟩ := plays_loop (c := l.length) hle (by omega) hcl hc l.length 0 H2 [] _ (by omega) T (by simp; omega) (x2.get (x1.get hB))
      simp at h3
      rw [R_code (fn := m6) rfl]
      simp [m6, known_R, hbi, e1, e2, h3]
end Go.Mod

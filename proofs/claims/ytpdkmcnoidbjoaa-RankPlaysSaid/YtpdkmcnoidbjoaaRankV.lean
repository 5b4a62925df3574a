/- RankPlays: the model's side. -/
import Derived.Test.YtpdkmcnoidbjoaaRankU
import Derived.Test.YtpdkmcnoidbjoaaRankR
set_option linter.unusedVariables false
set_option linter.unusedSimpArgs false
namespace Go.Mod
open Go.Proofs

section
variable {H : MH} {F : List Nat} {x u : Nat} {ps : List (Int × Int)} {room : Int}
/-- Both ranks, alike. -/
def TwoK (x u : Nat) (ps : List (Int × Int)) (room : Int) : HP := RankA x ps room * RefK u ps room
theorem TwoK.good : Good (TwoK x u ps room) := RankA.good.star RefK.good
theorem twoK_upd {f g : FuncId} {xs ys : List Value} {r : Value} {ps' : List (Int × Int)} (T : TwoK x u ps room H F)
    (hx : ∀ A, RankA x ps room H A → ∃ H1 A', R mpRk f xs H = some (r, H1) ∧ RankA x ps' room H1 A' ∧ Upd H A H1 A')
    (hy : ∀ H1 B, RefK u ps room H1 B → ∃ H2 B', R mpRk g ys H1 = some (r, H2) ∧ RefK u ps' room H2 B' ∧ Upd H1 B H2 B') :
    ∃ H1 F1 H2 F2, R mpRk f xs H = some (r, H1) ∧ R mpRk g ys H1 = some (r, H2) ∧ TwoK x u ps' room H2 F2 ∧ Upd H F H1 F1 ∧ Upd H F H2 F2 := by
  obtain ⟨_, H1, F1, p1, u1, c1⟩ := star_upd (ι := Unit) (P' := fun _ => RankA x ps' room) (C := fun _ H1 => R mpRk f xs H = some (r, H1)) RefK.good (fun _ => RankA.good) T (fun A hA _ => by
    obtain ⟨H1, A', h1, h2, h3⟩ := hx A hA
    exact ⟨(), H1, A', h2, h3, h1⟩)
  obtain ⟨_, H2, F2, p2, u2, c2⟩ := star_upd (ι := Unit) (P' := fun _ => RefK u ps' room) (C := fun _ H2 => R mpRk g ys H1 = some (r, H2)) RankA.good (fun _ => RefK.good) (star_comm p1) (fun A hA _ => by
    obtain ⟨H2, A', h1, h2, h3⟩ := hy H1 A hA
    exact ⟨(), H2, A', h2, h3, h1⟩)
  exact ⟨H1, F1, H2, F2, c1, c2, star_comm p2, u1, u1.trans u2⟩
theorem twoK_put (T : TwoK x u ps room H F) (k d : Int) :
    ∃ e ps' H1 F1 H2 F2, R mpRk 30 [.pointer (some ⟨x, 0, none⟩), .int .i64 k, .int .i64 d] H = some (.int .i64 e, H1) ∧ R mpRk 31 [.pointer (some ⟨u, 0, none⟩), .int .i64 k, .int .i64 d] H1 = some (.int .i64 e, H2) ∧ TwoK x u ps' room H2 F2 ∧ Upd H F H1 F1 ∧ Upd H F H2 F2 := by
  by_cases h : room ≤ ps.length
  · obtain ⟨H1, F1, H2, F2, q⟩ := twoK_upd (f := 30) (g := 31) (xs := [.pointer (some ⟨x, 0, none⟩), .int .i64 k, .int .i64 d]) (ys := [.pointer (some ⟨u, 0, none⟩), .int .i64 k, .int .i64 d]) (r := .int .i64 12) (ps' := ps) T
      (fun A hA => ⟨H, A, R_kput_full rfl hA h k d, hA, Upd.refl _ _⟩) (fun H1 B hB => ⟨H1, B, R_qput_full rfl hB h k d, hB, Upd.refl _ _⟩)
    exact ⟨12, ps, H1, F1, H2, F2, q⟩
  · obtain ⟨H1, F1, H2, F2, q⟩ := twoK_upd (f := 30) (g := 31) (xs := [.pointer (some ⟨x, 0, none⟩), .int .i64 k, .int .i64 d]) (ys := [.pointer (some ⟨u, 0, none⟩), .int .i64 k, .int .i64 d]) (r := .int .i64 0) (ps' := putAt ps (posR k ps) (k, d)) T
      (fun A hA => R_kput rfl rfl hA (by omega) k d) (fun H1 B hB => R_qput rfl rfl hB (by omega) k d)
    exact ⟨0, _, H1, F1, H2, F2, q⟩
theorem twoK_take (T : TwoK x u ps room H F) :
    ∃ y e ps' H1 F1 H2 F2, R mpRk 32 [.pointer (some ⟨x, 0, none⟩)] H = some (.tuple #[.int .i64 y, .int .i64 e], H1) ∧ R mpRk 33 [.pointer (some ⟨u, 0, none⟩)] H1 = some (.tuple #[.int .i64 y, .int .i64 e], H2) ∧ TwoK x u ps' room H2 F2 ∧ Upd H F H1 F1 ∧ Upd H F H2 F2 := by
  cases ps with
  | nil =>
    obtain ⟨H1, F1, H2, F2, q⟩ := twoK_upd (f := 32) (g := 33) (xs := [.pointer (some ⟨x, 0, none⟩)]) (ys := [.pointer (some ⟨u, 0, none⟩)]) (r := .tuple #[.int .i64 0, .int .i64 13]) (ps' := []) T
      (fun A hA => ⟨H, A, R_ktake0 rfl rfl hA, hA, Upd.refl _ _⟩) (fun H1 B hB => ⟨H1, B, R_qtake0 rfl hB, hB, Upd.refl _ _⟩)
    exact ⟨0, 13, [], H1, F1, H2, F2, q⟩
  | cons p ps =>
    obtain ⟨H1, F1, H2, F2, q⟩ := twoK_upd (f := 32) (g := 33) (xs := [.pointer (some ⟨x, 0, none⟩)]) (ys := [.pointer (some ⟨u, 0, none⟩)]) (r := .tuple #[.int .i64 p.2, .int .i64 0]) (ps' := ps) T
      (fun A hA => R_ktake rfl rfl rfl hA) (fun H1 B hB => by
        obtain ⟨H2, h1, h2, h3⟩ := R_qtake (mp := mpRk) rfl hB
        exact ⟨H2, B, h1, h2, h3⟩)
    exact ⟨_, 0, ps, H1, F1, H2, F2, q⟩
theorem first_uniq {l : List Int} {d : Int} {q q' : Nat} (h1 : l[q]? = some d) (h2 : ∀ j, j < q → l[j]? ≠ some d) (h3 : l[q']? = some d) (h4 : ∀ j, j < q' → l[j]? ≠ some d) : q = q' := by
  rcases Nat.lt_trichotomy q q' with h | h | h
  · exact absurd h1 (h4 q h)
  · exact h
  · exact absurd h3 (h2 q' h)
theorem twoK_drop (T : TwoK x u ps room H F) (d : Int) :
    ∃ e ps' H1 F1 H2 F2, R mpRk 34 [.pointer (some ⟨x, 0, none⟩), .int .i64 d] H = some (.bool e, H1) ∧ R mpRk 35 [.pointer (some ⟨u, 0, none⟩), .int .i64 d] H1 = some (.bool e, H2) ∧ TwoK x u ps' room H2 F2 ∧ Upd H F H1 F1 ∧ Upd H F H2 F2 := by
  obtain ⟨ps', hps⟩ : ∃ ps' : List (Int × Int), (d ∉ idsR ps ∧ ps' = ps) ∨ ∃ q : Nat, (idsR ps)[q]? = some d ∧ (∀ j, j < q → (idsR ps)[j]? ≠ some d) ∧ ps' = ps.eraseIdx q := by
    by_cases hm : d ∈ idsR ps
    · obtain ⟨q, h1, h2, _⟩ := first_at hm
      exact ⟨_, .inr ⟨q, h1, h2, rfl⟩⟩
    · exact ⟨_, .inl ⟨hm, rfl⟩⟩
  have uq : ∀ ps2 : List (Int × Int), ((d ∉ idsR ps ∧ ps2 = ps) ∨ ∃ q : Nat, (idsR ps)[q]? = some d ∧ (∀ j, j < q → (idsR ps)[j]? ≠ some d) ∧ ps2 = ps.eraseIdx q) → ps2 = ps' := by
    intro ps2 h
    rcases h with ⟨h1, rfl⟩ | ⟨q, h1, h2, rfl⟩ <;> rcases hps with ⟨g1, rfl⟩ | ⟨q', g1, g2, rfl⟩
    · rfl
    · exact absurd (List.mem_of_getElem? g1) h1
    · exact absurd (List.mem_of_getElem? h1) g1
    · rw [first_uniq h1 h2 g1 g2]
  obtain ⟨H1, F1, H2, F2, q⟩ := twoK_upd (f := 34) (g := 35) (xs := [.pointer (some ⟨x, 0, none⟩), .int .i64 d]) (ys := [.pointer (some ⟨u, 0, none⟩), .int .i64 d]) (r := .bool (decide (d ∈ idsR ps))) (ps' := ps') T
    (fun A hA => by
      obtain ⟨H', F', ps2, h1, h2, h3, h4⟩ := R_kdrop (mp := mpRk) rfl rfl rfl rfl hA d
      rw [uq ps2 h4] at h2
      exact ⟨H', F', h1, h2, h3⟩)
    (fun H1 B hB => by
      obtain ⟨H', F', ps2, h1, h2, h3, h4⟩ := R_qdrop (mp := mpRk) rfl rfl rfl hB d
      rw [uq ps2 h4] at h2
      exact ⟨H', F', h1, h2, h3⟩)
  exact ⟨_, ps', H1, F1, H2, F2, q⟩

/-- What is asked behind each step. -/
structure TailK (H : MH) (x u : Nat) (ps : List (Int × Int)) (a1 : Option Addr) (n1 c1 : Nat) (a5 : Option Addr) (n5 c5 : Nat) (H3 H4 : MH) : Prop where
  all_ : R mpRk 36 [.pointer (some ⟨u, 0, none⟩)] H = some (.slice a1 n1 c1, H3)
  fst0 : ps = [] → R mpRk 37 [.pointer (some ⟨x, 0, none⟩)] H3 = some (.tuple #[.int .i64 0, .bool false], H3)
  fst1 : ∀ p qs, ps = p :: qs → R mpRk 37 [.pointer (some ⟨x, 0, none⟩)] H3 = some (.tuple #[.int .i64 p.2, .bool true], H3)
  n : n1 = ps.length
  row : Row 1 H3 (.slice a1 n1 c1) (i64s (idsR ps))
  kall : R mpRk 39 [.pointer (some ⟨x, 0, none⟩)] H3 = some (.slice a5 n5 c5, H4)
  same : R mpRk 38 [.slice a5 n5 c5, .slice a1 n1 c1] H4 = some (.bool true, H4)
  len : R mpRk 40 [.pointer (some ⟨x, 0, none⟩)] H4 = some (.int .i64 (ps.length : Int), H4)
  ext : Ext H H4
theorem TwoK.tail (T : TwoK x u ps room H F) : ∃ a1 n1 c1 a5 n5 c5 H3 H4, TailK H x u ps a1 n1 c1 a5 n5 c5 H3 H4 := by
  obtain ⟨B, hB, _⟩ := star_r T
  obtain ⟨v1, H3, G1, e1, o1, x1, m1⟩ := R_qall (mp := mpRk) rfl hB
  have T3 := TwoK.good.ext T x1
  obtain ⟨A, hA, _⟩ := star_l T3
  obtain ⟨v5, H4, G5, e5, o5, x5, m5⟩ := R_kall (mp := mpRk) rfl hA
  have hA4 := RankA.good.ext hA x5
  obtain ⟨a1, n1, c1, rfl, _⟩ := (Own.row o1).slice
  obtain ⟨a5, n5, c5, rfl, _⟩ := (Own.row o5).slice
  have hlen : ps.length ≤ 1000 := by obtain ⟨_, _, h1, h2⟩ := hA; omega
  refine ⟨a1, n1, c1, a5, n5, c5, H3, H4, e1, ?_, ?_, ?_, Own.row o1, e5, R_same (mp := mpRk) rfl (Own.row o5) (x5.row (Own.row o1)) (by rw [idsR_len]; omega), R_klen (mp := mpRk) rfl hA4, x1.trans x5⟩
  · rintro rfl; exact R_kfirst0 rfl hA
  · rintro p qs rfl; exact R_kfirst rfl hA
  · have hl := (Own.row o1).slice
    obtain ⟨_, _, _, e, hl⟩ := hl
    cases e
    rw [i64s_len, idsR_len] at hl; omega
end

section
variable {x u : Nat} {room : Int} {l : List (List Int)} {a : Option Addr} {n c : Nat}
theorem kplays_loop (hn : l.length ≤ 100) (hw : ∀ p ∈ l, p.length = 3) : ∀ (k i : Nat) (H : MH) (ps : List (Int × Int)) (F : List Nat), i + k = l.length → TwoK x u ps room H F → Stay 3 (.slice a n c) (recs l) H F →
    ∃ H', Rc mpRk (.loop m5_0) [(1, .slice a n c), (5, .pointer (some ⟨x, 0, none⟩)), (6, .pointer (some ⟨u, 0, none⟩)), (7, .int .i64 (i : Int))] H =
      some (.exit 0, [(1, .slice a n c), (5, .pointer (some ⟨x, 0, none⟩)), (6, .pointer (some ⟨u, 0, none⟩)), (7, .int .i64 (n : Int)), (29, .bool false)], H') := by
  intro k
  induction k with
  | zero =>
    intro i H ps F hk T hS
    have hnn := hS.1.recn hw (by omega)
    have : i = n := by omega
    subst this
    refine ⟨H, ?_⟩
    rw [Rc_loop]
    simp [m5_0]
  | succ k ih =>
    intro i H ps F hk T hS
    have hnn := hS.1.recn hw (by omega)
    have hil : i < n := by omega
    have hll : i < l.length := by omega
    have h2 := hw l[i] (List.getElem_mem hll)
    obtain ⟨w0, k0, d0, hp⟩ : ∃ w0 k0 d0, l[i] = [w0, k0, d0] := by
      match hl : l[i], h2 with
      | [a, b, c], _ => exact ⟨a, b, c, rfl⟩
    obtain ⟨_, b, o, j, cs, rfl, hB, hes, hlen, htk, _⟩ := hS.1.rec_ hw (by omega) (List.getElem?_eq_getElem hll)
    rw [hp] at htk
    have h3 : mread (.ld (some 3)) [.pointer (some ⟨b, o + i * 3, none⟩)] H = some (.agg #[.int .i64 w0, .int .i64 k0, .int .i64 d0]) := by
      rw [ldn_at hB _ _ hlen (by rw [htk]; rfl), htk]; rfl
    have wi : IntKind.i64.wrap ((i : Int) + 1) = (i : Int) + 1 := wrap_i64 (by omega) (by omega)
    have e1 : Ext H (H ++ [.cells ⟨0, true, false⟩ [.int .i64 w0, .int .i64 k0, .int .i64 d0]]) := ⟨_, rfl⟩
    have hs : (H ++ [MObj.cells ⟨0, true, false⟩ [.int .i64 w0, .int .i64 k0, .int .i64 d0]])[H.length]? = some (.cells ⟨0, true, false⟩ [.int .i64 w0, .int .i64 k0, .int .i64 d0]) := by simp
    have T1 := TwoK.good.ext T e1
    have hS1 := hS.ext e1
    have hsF : H.length ∉ F := fun h => by have := TwoK.good.lt T _ h; omega
    have hst : ∀ a b c : Value, meff (.st 3) [.pointer (some ⟨H.length, 0, none⟩), .agg #[.int .i64 w0, .int .i64 k0, .int .i64 d0]] (H ++ [.cells ⟨0, true, false⟩ [a, b, c]]) = some (.tuple #[], H ++ [.cells ⟨0, true, false⟩ [.int .i64 w0, .int .i64 k0, .int .i64 d0]]) := by
      intro a b c
      rw [stx]; simp
    by_cases h4 : w0 ≤ 4
    · obtain ⟨e, ps', H1, F1, H2, F2, p1, p2, T2, u1, u2⟩ := twoK_put T1 k0 d0
      obtain ⟨a1, n1, c1, a5, n5, c5, H3, H4, q⟩ := T2.tail
      obtain ⟨H', hH'⟩ := ih (i + 1) H4 ps' F2 (by omega) (TwoK.good.ext T2 q.ext) ((hS1.upd u2).ext q.ext)
      refine ⟨H', ?_⟩
      simp at hH'
      have hs1 := u1.get hs hsF
      have all_ := q.all_; have kall := q.kall; have same := q.same; have len := q.len; have hn1 := q.n; have row := q.row
      have fst0 := q.fst0; have fst1 := q.fst1
      rw [← hn1] at len
      rw [Rc_loop]
      cases ps' with
      | nil =>
        have fst := fst0 rfl
        have : n1 = 0 := by simpa using hn1
        subst this
        simp at len
        simp [m5_0, hil, h3, hst, ld_at hs, ld_at hs1, h4, mdraw_full, p1, p2, all_, fst, kall, same, len, wi]
        exact hH'
      | cons p qs =>
        have fst := fst1 p qs rfl
        have hp : 0 < n1 := by simp at hn1; omega
        obtain ⟨_, b', o', j', cs', rfl, hB', hat'⟩ := row.i64 (k := 0) (y := p.2) rfl
        simp at hat'
        simp [m5_0, hil, h3, hst, ld_at hs, ld_at hs1, h4, mdraw_full, p1, p2, all_, fst, kall, same, len, wi, hp, ld_at hB', hat']
        exact hH'

    · by_cases h6 : w0 ≤ 6
      · obtain ⟨y, e, ps', H1, F1, H2, F2, p1, p2, T2, u1, u2⟩ := twoK_take T1
        obtain ⟨a1, n1, c1, a5, n5, c5, H3, H4, q⟩ := T2.tail
        obtain ⟨H', hH'⟩ := ih (i + 1) H4 ps' F2 (by omega) (TwoK.good.ext T2 q.ext) ((hS1.upd u2).ext q.ext)
        refine ⟨H', ?_⟩
        simp at hH'
        have hs1 := u1.get hs hsF
        have all_ := q.all_; have kall := q.kall; have same := q.same; have len := q.len; have hn1 := q.n; have row := q.row
        have fst0 := q.fst0; have fst1 := q.fst1
        rw [← hn1] at len
        rw [Rc_loop]
        cases ps' with
        | nil =>
          have fst := fst0 rfl
          have : n1 = 0 := by simpa using hn1
          subst this
          simp at len
          simp [m5_0, hil, h3, hst, ld_at hs, ld_at hs1, h4, h6, mdraw_full, p1, p2, all_, fst, kall, same, len, wi]
          exact hH'
        | cons p qs =>
          have fst := fst1 p qs rfl
          have hp : 0 < n1 := by simp at hn1; omega
          obtain ⟨_, b', o', j', cs', rfl, hB', hat'⟩ := row.i64 (k := 0) (y := p.2) rfl
          simp at hat'
          simp [m5_0, hil, h3, hst, ld_at hs, ld_at hs1, h4, h6, mdraw_full, p1, p2, all_, fst, kall, same, len, wi, hp, ld_at hB', hat']
          exact hH'

      · obtain ⟨e, ps', H1, F1, H2, F2, p1, p2, T2, u1, u2⟩ := twoK_drop T1 d0
        obtain ⟨a1, n1, c1, a5, n5, c5, H3, H4, q⟩ := T2.tail
        obtain ⟨H', hH'⟩ := ih (i + 1) H4 ps' F2 (by omega) (TwoK.good.ext T2 q.ext) ((hS1.upd u2).ext q.ext)
        refine ⟨H', ?_⟩
        simp at hH'
        have hs1 := u1.get hs hsF
        have all_ := q.all_; have kall := q.kall; have same := q.same; have len := q.len; have hn1 := q.n; have row := q.row
        have fst0 := q.fst0; have fst1 := q.fst1
        rw [← hn1] at len
        rw [Rc_loop]
        cases ps' with
        | nil =>
          have fst := fst0 rfl
          have : n1 = 0 := by simpa using hn1
          subst this
          simp at len
          simp [m5_0, hil, h3, hst, ld_at hs, ld_at hs1, h4, h6, mdraw_full, p1, p2, all_, fst, kall, same, len, wi]
          exact hH'
        | cons p qs =>
          have fst := fst1 p qs rfl
          have hp : 0 < n1 := by simp at hn1; omega
          obtain ⟨_, b', o', j', cs', rfl, hB', hat'⟩ := row.i64 (k := 0) (y := p.2) rfl
          simp at hat'
          simp [m5_0, hil, h3, hst, ld_at hs, ld_at hs1, h4, h6, mdraw_full, p1, p2, all_, fst, kall, same, len, wi, hp, ld_at hB', hat']
          exact hH'

end
theorem rankPlays {H : MH} {v : Value} {l : List (List Int)} {room : Int} (hr : IRow 3 H v l) : ∃ H', R mpRk 5 [.int .i64 room, v] H = some (.bool true, H') := by
  refine isTrue_ex ?_
  obtain ⟨hrow, hw⟩ := hr.row
  obtain ⟨a, n, c, rfl, _⟩ := hrow.slice
  have hn := hrow.recn hw (by omega)
  by_cases hbig : 100 < l.length
  · have hbi : (100 : Int) < (n : Int) := by omega
    rw [R_code (fn := m5) rfl]
    simp [m5, knownR_R, hbi]
  · have hbi : ¬ (100 : Int) < (n : Int) := by omega
    obtain ⟨H1, e1, g1, x1⟩ := R_knew (mp := mpRk) rfl (H := H) (x := room)
    obtain ⟨H2, e2, g2, x2⟩ := R_qnew (mp := mpRk) rfl (H := H1) (x := room)
    have hx := x1.len
    have hlt := RankA.good.lt g1 H.length (by simp)
    have T : TwoK H.length H1.length [] (min (max room 0) 64) H2 ([H.length] ++ [H1.length]) := ⟨[H.length], [H1.length], RankA.good.ext g1 x2, g2, by simp; omega, by simp⟩
    have hS : Stay 3 (.slice a n c) (recs l) H2 ([H.length] ++ [H1.length]) := by
      refine ⟨(x1.trans x2).row hrow, fun b o n' c' e hb => ?_⟩
      simp at hb
      rcases hrow with ⟨h1, _⟩ | ⟨b', o', m', d', j', cs', h1, _, h3, _⟩
      · rw [h1] at e; cases e
      · rw [h1] at e; cases e
        have := (List.getElem?_eq_some_iff.1 h3).1
        omega
    obtain ⟨H3, h3⟩ := kplays_loop (c := c) (by omega) hw l.length 0 H2 [] _ (by omega) T hS
    simp at h3
    rw [R_code (fn := m5) rfl]
    simp [m5, knownR_R, hbi, e1, e2, h3]
end Go.Mod

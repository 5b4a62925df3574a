/- ClockDrops: the model's side. -/
import Derived.Test.YtpdkmcnoidbjoaaClockR
set_option linter.unusedVariables false
set_option linter.unusedSimpArgs false
namespace Go.Mod
open Go.Proofs

section
variable {t q : Nat} {id x y : Int}
theorem cdrops0 (hx : 0 ≤ x ∧ x < 30) (hy : 0 ≤ y ∧ y < 30) : ∀ (k i : Nat) (H : MH) (F : List Nat) (ps : List (Int × Int)), i + k = 30 → ClkA t q (i : Int) ps H F → ((i : Int) ≤ max x y ∧ ps = [(max x y, id)] ∨ max x y < (i : Int) ∧ ps = []) →
    ∃ (H' : MH) (F' : List Nat), Rc mpCk (.loop m12_0) [(2, .int .u8 id), (7, .pointer (some ⟨t, 0, none⟩)), (8, .int .i64 x), (9, .int .i64 y), (10, .int .i64 (i : Int))] H =
      some (.exit 0, [(2, .int .u8 id), (7, .pointer (some ⟨t, 0, none⟩)), (8, .int .i64 x), (9, .int .i64 y), (10, .int .i64 30), (55, .bool false)], H') ∧ ClkA t q 30 [] H' F'
  | 0, i, H, F, ps, hk, h, hp => by
    have e : i = 30 := by omega
    subst e
    rcases hp with ⟨h1, _⟩ | ⟨_, rfl⟩
    · omega
    refine ⟨H, F, ?_, h⟩
    rw [Rc_loop]
    simp [m12_0]
  | k + 1, i, H, F, ps, hk, h, hp => by
    have hlt : (i : Int) < 30 := by omega
    have w1 : IntKind.i64.wrap ((i : Int) + 1) = (i : Int) + 1 := wrap_i64 (by omega) (by omega)
    obtain ⟨al, nl, cl, H1, F1, G, e3, g3, o3, d3, u3, n3⟩ := R_cstep (mp := mpCk) rfl rfl rfl h
    have hnl := (Own.row o3).i64n
    have hmn : min ((i : Int) + 1) 1000000 = ((i + 1 : Nat) : Int) := by omega
    rw [hmn] at g3
    by_cases hM : (i : Int) = max x y
    · rcases hp with ⟨h1, rfl⟩ | ⟨h1, _⟩
      · have hpos : posR (i : Int) [(max x y, id)] = 1 := by rw [posR_cons, if_neg (by simp only; omega)]; rfl
        rw [hpos] at g3 hnl
        simp [idsR] at hnl
        obtain ⟨H', F', f1, f2⟩ := cdrops0 hx hy k (i + 1) H1 F1 [] (by omega) (by simpa using g3) (.inr ⟨by omega, rfl⟩)
        refine ⟨H', F', ?_, f2⟩
        subst hnl
        simp at f1
        rw [Rc_loop]
        simp [m12_0, hlt, e3, hM.symm, w1]
        exact f1
      · omega
    · have hpos : posR (i : Int) ps = 0 := by
        rcases hp with ⟨h1, rfl⟩ | ⟨h1, rfl⟩
        · rw [posR_cons, if_pos (by simp only; omega)]
        · rfl
      rw [hpos] at g3 hnl
      simp at hnl
      obtain ⟨H', F', f1, f2⟩ := cdrops0 hx hy k (i + 1) H1 F1 ps (by omega) (by simpa using g3) (by
        rcases hp with ⟨h1, rfl⟩ | ⟨h1, rfl⟩
        · exact .inl ⟨by omega, rfl⟩
        · exact .inr ⟨by omega, rfl⟩)
      refine ⟨H', F', ?_, f2⟩
      subst hnl
      have hM' : ¬ (i : Int) = max x y := hM
      simp at f1
      rw [Rc_loop]
      simp [m12_0, hlt, e3, hM', w1]
      exact f1
end
theorem clockDrops {H : MH} {a b id : Int} (ha : 0 ≤ a ∧ a < 256) (hb : 0 ≤ b ∧ b < 256) (hid : 0 ≤ id ∧ id < 256) : ∃ H', R mpCk 12 [.int .u8 a, .int .u8 b, .int .u8 id] H = some (.bool true, H') := by
  refine isTrue_ex ?_
  have t1 : a.tmod 30 = a % 30 := Int.tmod_eq_emod_of_nonneg (by omega)
  have t2 : b.tmod 30 = b % 30 := Int.tmod_eq_emod_of_nonneg (by omega)
  have hx : 0 ≤ a % 30 ∧ a % 30 < 30 := by omega
  have hy : 0 ≤ b % 30 ∧ b % 30 < 30 := by omega
  generalize a % 30 = x at *
  generalize b % 30 = y at *
  obtain ⟨H1, e1, g1, x1⟩ := R_cnew (mp := mpCk) rfl (H := H)
  obtain ⟨H2, F2, e2, g2, u2⟩ := R_cput (mp := mpCk) rfl rfl g1 (k := x) (d := id) (by omega) (by omega) (by simp)
  have p2 : putAt [] (posR x []) (x, id) = [(x, id)] := rfl
  rw [p2] at g2
  obtain ⟨H3, F3, e3, g3, u3⟩ := R_cput (mp := mpCk) rfl rfl g2 (k := y) (d := id) (by omega) (by omega) (by simp)
  have p3 : putAt [(x, id)] (posR y [(x, id)]) (y, id) = [(min x y, id), (max x y, id)] := by
    rw [posR_cons]
    by_cases h : y < x
    · rw [if_pos h, show min x y = y by omega, show max x y = x by omega]; rfl
    · rw [if_neg h, show min x y = x by omega, show max x y = y by omega]; rfl
  rw [p3] at g3
  obtain ⟨H4, F4, ps4, e4, g4, u4, hd4⟩ := R_cdrop (mp := mpCk) rfl rfl rfl rfl rfl g3 id
  have hids : idsR [(min x y, id), (max x y, id)] = [id, id] := rfl
  rw [hids] at e4 hd4
  have p4 : ps4 = [(max x y, id)] := by
    rcases hd4 with ⟨h, _⟩ | ⟨q, h1, h2, rfl⟩
    · simp at h
    · cases q with
      | zero => rfl
      | succ q => exact absurd rfl (h2 0 (by omega))
  subst p4
  have h5 := R_clen (mp := mpCk) rfl g4
  obtain ⟨a6, n6, c6, H6, G6, e6, r6, x6, m6⟩ := R_call (mp := mpCk) rfl rfl g4
  obtain ⟨hn6, b6, o6, j6, cs6, rfl, hb6, h61, _, _⟩ := r6.1.pr (k := 0) rfl
  simp at hn6 h61
  subst hn6
  obtain ⟨H7, F7, e7, g7⟩ := cdrops0 (id := id) hx hy 30 0 H6 F4 _ (by omega) (ClkA.good.ext g4 x6) (.inl ⟨by omega, rfl⟩)
  obtain ⟨H8, F8, ps8, e8, g8, u8, hd8⟩ := R_cdrop (mp := mpCk) rfl rfl rfl rfl rfl g7 id
  have w1 : IntKind.i64.wrap x = x := wrap_i64 (by omega) (by omega)
  have w2 : IntKind.i64.wrap y = y := wrap_i64 (by omega) (by omega)
  have w3 : IntKind.i64.wrap id = id := wrap_i64 (by omega) (by omega)
  simp [idsR] at e4 e7 e8 h5
  rw [R_code (fn := m12) rfl]
  simp [m12, knownC_R, e1, t1, t2, w1, w2, w3, e2, e3, e4, h5, e6, ld_at hb6, h61, e7, e8]
end Go.Mod

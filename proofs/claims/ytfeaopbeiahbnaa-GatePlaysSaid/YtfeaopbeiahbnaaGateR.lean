/- The reference's gate: what its functions come to. -/
import Derived.Test.YtfeaopbeiahbnaaGateF
set_option linter.unusedVariables false
set_option linter.unusedSimpArgs false
namespace Go.Mod

variable {mp : FuncId → Option MDef}

def RGateA (u : Nat) (ins wait : List Int) (most : Int) : HP := fun H F => ∃ v w, ((Pt u ⟨0, true, false⟩ [.int .i64 most, v, w] * RowA 1 w (i64s wait)) * OwnA 1 v (i64s ins)) H F ∧ ins.length ≤ most ∧ 1 ≤ most ∧ most ≤ 64 ∧ wait.length ≤ 64
theorem RGateA.good {u : Nat} {ins wait : List Int} {most : Int} : Good (RGateA u ins wait most) := Good.ex fun _ => Good.ex fun _ => ((Pt.good.star RowA.good).star OwnA.good).and

theorem R_rgnew (hf : mp 55 = some (.code m55)) {H : MH} {most : Int} :
    ∃ H', R mp 55 [.int .i64 most] H = some (.pointer (some ⟨H.length, 0, none⟩), H') ∧ Ext H H' ∧ RGateA H.length [] [] (max 1 (min most 64)) H' [H.length] := by
  refine ⟨H ++ [.cells ⟨0, true, false⟩ [.int .i64 (max 1 (min most 64)), .slice none 0 0, .slice none 0 0]], ?_, ⟨_, rfl⟩, .slice none 0 0, .slice none 0 0, ⟨[H.length], [], ⟨[H.length], [], ⟨rfl, by simp⟩, ⟨.inl ⟨rfl, rfl⟩, by simp, by simp⟩, by simp, by simp⟩, .inl ⟨rfl, rfl, rfl⟩, by simp, by simp⟩, by simp; omega, by omega, by omega, by simp⟩
  rw [R_code hf]
  simp [m55]

section
variable {H : MH} {F : List Nat} {u : Nat} {ins wait : List Int} {most : Int}
/-- What stands in a gate. -/
theorem RGateA.open (h : RGateA u ins wait most H F) : ∃ v w, H[u]? = some (.cells ⟨0, true, false⟩ [.int .i64 most, v, w]) ∧ Row 1 H v (i64s ins) ∧ Row 1 H w (i64s wait) := by
  obtain ⟨v, w, h, _⟩ := h
  obtain ⟨B, hB, _⟩ := star_r h
  obtain ⟨A, hA, _⟩ := star_l h
  obtain ⟨C, hC, _⟩ := star_r hA
  exact ⟨v, w, star_at2 h, Own.row hB, hC.1⟩

theorem ixOf_neg {x : Int} {l : List Int} (h : x ∉ l) : ¬ 0 ≤ ixOf x l := fun e => h (ixOf_nonneg.1 e)
theorem R_rgask_twice (hf : mp 57 = some (.code m57)) (h36 : mp 36 = some (.code cAt)) (h : RGateA u ins wait most H F) {x : Int} (hx : x ∈ ins ∨ x ∈ wait) :
    R mp 57 [.pointer (some ⟨u, 0, none⟩), .int .i64 x] H = some (.tuple #[.bool false, .int .i64 17], H) := by
  obtain ⟨v, w, hat, r1, r2⟩ := h.open
  obtain ⟨_, _, _, h1, h2, h3, h4⟩ := h
  have a1 := R_at (mp := mp) h36 (x := x) r1 (by omega)
  have a2 := R_at (mp := mp) h36 (x := x) r2 (by omega)
  obtain ⟨a, n, c, rfl, hl⟩ := r1.slice
  obtain ⟨a', n', c', rfl, hl'⟩ := r2.slice
  rw [R_code hf]
  by_cases hi : x ∈ ins
  · have := ixOf_nonneg.2 hi
    simp [m57, ld_at hat, a1, this]
  · have n1 := ixOf_neg hi
    have := ixOf_nonneg.2 (hx.resolve_left hi)
    simp [m57, ld_at hat, a1, a2, n1, this]
theorem R_rgask_in (hf : mp 57 = some (.code m57)) (h36 : mp 36 = some (.code cAt)) (h : RGateA u ins wait most H F) {x : Int} (hi : x ∉ ins) (hw : x ∉ wait) (hm : (ins.length : Int) < most) :
    ∃ H' F', R mp 57 [.pointer (some ⟨u, 0, none⟩), .int .i64 x] H = some (.tuple #[.bool true, .int .i64 0], H') ∧ RGateA u (ins ++ [x]) wait most H' F' ∧ Upd H F H' F' := by
  obtain ⟨v, w, h, h1, h2, h3, h4⟩ := h
  have hat := star_at2 h
  obtain ⟨B, hB, _⟩ := star_r h
  obtain ⟨A, hA, _⟩ := star_l h
  obtain ⟨C, hC, _⟩ := star_r hA
  have r1 := Own.row hB
  have r2 := hC.1
  have a1 := R_at (mp := mp) h36 (x := x) r1 (by omega)
  have a2 := R_at (mp := mp) h36 (x := x) r2 (by omega)
  obtain ⟨v1, H1, v2, H2, G, b1, b2, b3, b4, b5, b6⟩ := own_snoc (bytes := 8) (x := .int .i64 x) r1 (i64s_one ins) rfl (by rw [i64s_len]; omega) (by omega)
  rw [i64s_snoc] at b4
  obtain ⟨F1, p1, u1⟩ := star_swap (Pt.good.star RowA.good) h b5 b4 b6
  obtain ⟨p2, u2⟩ := star_put2 (cs' := [.int .i64 most, v2, w]) RowA.good OwnA.good p1
  have hat2 := star_at2 p1
  obtain ⟨a, n, c, rfl, hl⟩ := r1.slice
  obtain ⟨a', n', c', rfl, hl'⟩ := r2.slice
  have hn : n = ins.length := by rw [i64s_len] at hl; omega
  subst hn
  have n1 := ixOf_neg hi
  have n2 := ixOf_neg hw
  obtain ⟨a2', m2, c2, rfl⟩ : ∃ a n c, v1 = .slice a n c := by
    cases v1 <;> first | exact ⟨_, _, _, rfl⟩ | simp [meff] at b2
  refine ⟨_, F1, ?_, ⟨_, _, p2, by simp; omega, h2, h3, h4⟩, u1.trans u2⟩
  rw [R_code hf]
  simp [m57, ld_at hat, a1, a2, n1, n2, mdraw_plain, hm, b1, b2, st_at hat2 rfl 1 v2 b3]
theorem R_rgask_full (hf : mp 57 = some (.code m57)) (h36 : mp 36 = some (.code cAt)) (h : RGateA u ins wait most H F) {x : Int} (hi : x ∉ ins) (hw : x ∉ wait) (hm : ¬ (ins.length : Int) < most) :
    (wait.length = 64 → R mp 57 [.pointer (some ⟨u, 0, none⟩), .int .i64 x] H = some (.tuple #[.bool false, .int .i64 12], H)) ∧
    (wait.length < 64 → ∃ H' F', R mp 57 [.pointer (some ⟨u, 0, none⟩), .int .i64 x] H = some (.tuple #[.bool false, .int .i64 0], H') ∧ RGateA u ins (wait ++ [x]) most H' F' ∧ Upd H F H' F') := by
  obtain ⟨v, w, h, h1, h2, h3, h4⟩ := h
  have hat := star_at2 h
  obtain ⟨B, hB, _⟩ := star_r h
  obtain ⟨A, hA, _⟩ := star_l h
  obtain ⟨C, hC, _⟩ := star_r hA
  have r1 := Own.row hB
  have r2 := hC.1
  have a1 := R_at (mp := mp) h36 (x := x) r1 (by omega)
  have a2 := R_at (mp := mp) h36 (x := x) r2 (by omega)
  obtain ⟨v1, H1, v2, H2, G, b1, b2, b3, b4, b5, b6⟩ := own_snoc (bytes := 8) (x := .int .i64 x) r2 (i64s_one wait) rfl (by rw [i64s_len]; omega) (by omega)
  rw [i64s_snoc] at b4
  obtain ⟨F1, p1, u1⟩ := star_swap (Q' := RowA 1 v2 (i64s (wait ++ [x]))) (Pt.good.star OwnA.good) (star_rcomm h) b5 (OwnA.row b4) b6
  obtain ⟨p2, u2⟩ := star_put2 (cs' := [.int .i64 most, v, v2]) OwnA.good RowA.good p1
  have hat2 := star_at2 p1
  obtain ⟨a, n, c, rfl, hl⟩ := r1.slice
  obtain ⟨a', n', c', rfl, hl'⟩ := r2.slice
  have hn : n = ins.length := by rw [i64s_len] at hl; omega
  subst hn
  have hn' : n' = wait.length := by rw [i64s_len] at hl'; omega
  have n1 := ixOf_neg hi
  have n2 := ixOf_neg hw
  obtain ⟨a2', m2, c2, rfl⟩ : ∃ a n c, v1 = .slice a n c := by
    cases v1 <;> first | exact ⟨_, _, _, rfl⟩ | simp [meff] at b2
  refine ⟨fun h64 => ?_, fun hlt => ⟨_, F1, ?_, ⟨_, _, star_rcomm p2, h1, h2, h3, by simp; omega⟩, u1.trans u2⟩⟩
  · have : n' = 64 := by omega
    subst this
    rw [R_code hf]
    simp [m57, ld_at hat, a1, a2, n1, n2, mdraw_plain, hm]
  · have : ¬ (64 : Int) ≤ (n' : Int) := by omega
    have h64 : ¬ 64 ≤ n' := by omega
    rw [R_code hf]
    simp [m57, ld_at hat, a1, a2, n1, n2, mdraw_plain, hm, this, h64, b1, b2, st_at hat2 rfl 2 v2 b3]
theorem R_rgleave_none (hf : mp 59 = some (.code m59)) (h36 : mp 36 = some (.code cAt)) (h : RGateA u ins wait most H F) {x : Int} (hi : x ∉ ins) :
    R mp 59 [.pointer (some ⟨u, 0, none⟩), .int .i64 x] H = some (.tuple #[.int .i64 0, .bool false, .int .i64 13], H) := by
  obtain ⟨v, w, hat, r1, r2⟩ := h.open
  obtain ⟨_, _, _, h1, h2, h3, h4⟩ := h
  have a1 := R_at (mp := mp) h36 (x := x) r1 (by omega)
  obtain ⟨a, n, c, rfl, hl⟩ := r1.slice
  have n1 : ixOf x ins < 0 := by have := ixOf_neg hi; omega
  rw [R_code hf]
  simp [m59, ld_at hat, a1, n1]
theorem R_rgleave (hf : mp 59 = some (.code m59)) (h36 : mp 36 = some (.code cAt)) (h67 : mp 67 = some (.code cWithout)) (h : RGateA u ins wait most H F) {x : Int} (hi : x ∈ ins) :
    ∃ H' F', R mp 59 [.pointer (some ⟨u, 0, none⟩), .int .i64 x] H = some (.tuple #[.int .i64 (wait.headD 0), .bool (!wait.isEmpty), .int .i64 0], H') ∧ RGateA u (ins.erase x ++ wait.head?.toList) wait.tail most H' F' ∧ Upd H F H' F' := by
  obtain ⟨v, w, h, h1, h2, h3, h4⟩ := h
  have hat := star_at2 h
  obtain ⟨B, hB, _⟩ := star_r h
  have r1 := Own.row hB
  obtain ⟨q, hq, hqb, hql⟩ := first_at hi
  have her : ins.erase x = ins.eraseIdx q := erase_first ins q x hq hqb
  have hel : (ins.eraseIdx q).length + 1 = ins.length := by rw [List.length_eraseIdx_of_lt hql]; omega
  have a1 := R_at (mp := mp) h36 (x := x) r1 (by omega)
  rw [ixOf_some hq hqb] at a1
  obtain ⟨v1, H1, G, b1, b4, b5, b6⟩ := R_without (mp := mp) h67 r1 (i64s_one ins) (by rw [i64s_len]; omega) (i := q) (by rw [i64s_len]; exact hql)
  rw [i64s_erase, ← her] at b4
  obtain ⟨F1, p1, u1⟩ := star_swap (Q' := OwnA 1 v1 (i64s (ins.erase x))) (Pt.good.star RowA.good) h b5 b4 b6
  have hat1 := star_at2 p1
  have hv1 : one v1 = true := by rcases b4 with ⟨rfl, _⟩ | ⟨b, n, c, cs, rfl, _⟩ <;> rfl
  obtain ⟨H2, s2, p2, u2⟩ := fld_put2 (n := 1) RowA.good OwnA.good p1 rfl (by simp) hv1
  have hat2 := star_at2 p2
  simp only [List.set] at p2 hat2
  obtain ⟨a, n, c, rfl, hl⟩ := r1.slice
  have hqn : ¬ (q : Int) < 0 := by omega
  obtain ⟨a', n', c', rfl, hl'⟩ := (Own.row b4).slice
  cases wait with
  | nil =>
    obtain ⟨A, hA, _⟩ := star_l h
    obtain ⟨C, hC, _⟩ := star_r hA
    obtain ⟨aw, nw, cw, rfl, hlw⟩ := hC.1.slice
    have hnw : nw = 0 := by simpa [i64s] using hlw
    subst hnw
    refine ⟨_, F1, ?_, ⟨_, _, by simpa using p2, by simp [her]; omega, h2, h3, by simp⟩, u1.trans u2⟩
    rw [R_code hf]
    simp [m59, ld_at hat, a1, hqn, b1, s2, ld_at hat2]
  | cons y ws =>
    -- the line's first one
    obtain ⟨A2, hA2, _⟩ := star_l p2
    obtain ⟨C2, hC2, _⟩ := star_r hA2
    obtain ⟨b, o, nn, cc, i, cs, rfl, hnn, hcc, hBk, hes, hy, _⟩ := RowA.tail (x := .int .i64 y) (l := i64s ws) (by simpa [i64s] using hC2)
    have p3 := star_rcomm (star_imp (Q' := RowA 1 (.slice (some ⟨b, o + 1, none⟩) nn (cc - 1)) (i64s ws)) (star_rcomm p2) (fun B hB => by
      obtain ⟨b', o', nn', cc', i', cs', e, _, _, _, _, _, hr⟩ := RowA.tail (x := .int .i64 y) (l := i64s ws) (by simpa [i64s] using hB)
      cases e; exact hr))
    obtain ⟨H4, s4, p4, u4⟩ := fld_put2 (n := 2) RowA.good OwnA.good p3 rfl (by simp) (v := .slice (some ⟨b, o + 1, none⟩) nn (cc - 1)) rfl
    simp only [List.set] at p4
    have hat4 := star_at2 p4
    -- it comes in
    obtain ⟨v6, H5, H6, F6, c1, c2, q6, u6⟩ := push_fld2 (bytes := 8) (k := 1) (xs := [.int .i64 y]) RowA.good (star_rcomm p4) rfl (by simp) (i64s_one _) rfl rfl (by omega) (by rw [i64s_len, her]; omega) (by omega)
    simp only [List.set, i64s_snoc] at q6
    refine ⟨_, F6, ?_, ⟨_, _, star_rcomm (by simpa using q6), by simp [her]; omega, h2, h3, by simp at h4 ⊢; omega⟩, (((u1.trans u2).trans u4).trans u6)⟩
    have hz : ¬ ((nn : Int) + 1 = 0) := by omega
    have hz1 : (0 : Int) < (nn : Int) + 1 := by omega
    have hz2 : (1 : Int) ≤ (nn : Int) + 1 := by omega
    rw [R_code hf]
    simp [m59, ld_at hat, a1, hqn, b1, s2, ld_at hat2, hz, hz1, hz2, ld_at hBk, hy, sl_at hBk hes, s4, ld_at hat4, c1, c2]
end
end Go.Mod

/- Contracts of the reference's clock. -/
import Derived.Test.YtpdkmcnoidbjoaaClockP
import Derived.Test.YtpdkmcnoidbjoaaLib9
set_option linter.unusedVariables false
set_option linter.unusedSimpArgs false
namespace Go.Mod
open Go.Proofs

/-- The reference's clock. -/
def RefC0 (u : Nat) (now : Int) (v : Value) (ps : List (Int × Int)) : HP := Pt u ⟨0, true, false⟩ [v, .int .i64 now] * RowA 2 v (prv ps)
theorem RefC0.good {u : Nat} {now : Int} {v : Value} {ps : List (Int × Int)} : Good (RefC0 u now v ps) := Pt.good.star RowA.good
def RefC (u : Nat) (now : Int) (ps : List (Int × Int)) : HP := fun H F => ∃ v, RefC0 u now v ps H F ∧ (ps.length ≤ 64 ∧ InTime now ps ∧ 0 ≤ now ∧ now ≤ 1000000)
theorem RefC.good {u : Nat} {now : Int} {ps : List (Int × Int)} : Good (RefC u now ps) := Good.ex fun _ => RefC0.good.and

section
variable {mp : FuncId → Option MDef} {u n c bx : Nat} {a : Option Addr} {ps : List (Int × Int)} {k d now : Int} {ix : Info} {F : List Nat}
theorem dput_loopB (hl : ps.length ≤ 1000) : ∀ (rest l0 : List (Int × Int)) (i : Nat) (H : MH) (ao : Option Addr) (no co : Nat) (G : List Nat), ps.drop i = rest → i ≤ ps.length → RefC0 u now (.slice a n c) ps H F → (∀ id ∈ F, id ∉ G) → OwnA 2 (.slice ao no co) (prv l0) H G → l0.length + rest.length ≤ 1001 →
    ∃ (a' : Option Addr) (n' c' : Nat) (H' : MH) (G' : List Nat), Rc mp (.loop m44_0) [(0, .pointer (some ⟨u, 0, none⟩)), (3, .pointer (some ⟨bx, 0, none⟩)), (5, .slice ao no co), (6, .bool true), (7, .int .i64 (i : Int))] H =
        some (.exit 0, [(0, .pointer (some ⟨u, 0, none⟩)), (3, .pointer (some ⟨bx, 0, none⟩)), (5, .slice a' n' c'), (6, .bool true), (7, .int .i64 (n : Int)), (32, .bool false)], H') ∧ OwnA 2 (.slice a' n' c') (prv (l0 ++ rest)) H' G' ∧ Upd H G H' G' := by
  intro rest
  induction rest with
  | nil =>
    intro l0 i H ao no co G hr hi h hd ho hb
    have hat := star_at h
    obtain ⟨B, hB, _⟩ := star_r h
    have hn := hB.1.prn
    have : i = n := by
      have := congrArg List.length hr
      simp at this; omega
    subst this
    refine ⟨ao, no, co, H, G, ?_, by simpa using ho, Upd.refl _ _⟩
    rw [Rc_loop]
    simp [m44_0, ld_at hat]
  | cons e rest ih =>
    intro l0 i H ao no co G hr hi h hd ho hb
    have hat := star_at h
    obtain ⟨B, hB, _⟩ := star_r h
    have hn := hB.1.prn
    obtain ⟨he, hr', hil⟩ := drop_cons hr
    have hil' : i < n := by omega
    obtain ⟨_, b, o, j, cs, rfl, hb', h1, h2, h3⟩ := hB.1.pr he
    obtain ⟨a2, n2, c2, H2, G2, q1, q2, q3⟩ := own_push1 (es := 2) (bytes := 16) (xs := [.int .i64 e.1, .int .i64 e.2]) ho (prv_one _) rfl rfl (by omega) (by rw [prv_len]; simp at hb; omega) (by omega)
    rw [prv_snoc] at q2
    simp at hb
    obtain ⟨h', hd'⟩ := RefC0.good.upd h hd q3
    obtain ⟨a', n', c', H', G', f1, f2, f3⟩ := ih (l0 ++ [e]) (i + 1) H2 a2 n2 c2 G2 hr' (by omega) h' hd' q2 (by simp; omega)
    refine ⟨a', n', c', H', G', ?_, by simpa using f2, q3.trans f3⟩
    have w : IntKind.i64.wrap ((i : Int) + 1) = (i : Int) + 1 := wrap_i64 (by omega) (by omega)
    simp at f1
    rw [Rc_loop]
    simp [m44_0, hil', ld_at hat, h3, mdraw_plain, w, q1]
    exact f1
theorem dput_loopA (hl : ps.length ≤ 1000) : ∀ (rest l0 : List (Int × Int)) (i : Nat) (H : MH) (ao : Option Addr) (no co : Nat) (G : List Nat), ps.drop i = rest → i ≤ ps.length → RefC0 u now (.slice a n c) ps H F → (∀ id ∈ F, id ∉ G) → OwnA 2 (.slice ao no co) (prv l0) H G → l0.length + rest.length ≤ 1000 →
    H[bx]? = some (.cells ix [.int .i64 k, .int .i64 d]) → bx ∉ G →
    ∃ (a' : Option Addr) (n' c' : Nat) (H' : MH) (G' : List Nat), Rc mp (.loop m44_0) [(0, .pointer (some ⟨u, 0, none⟩)), (3, .pointer (some ⟨bx, 0, none⟩)), (5, .slice ao no co), (6, .bool false), (7, .int .i64 (i : Int))] H =
        some (.exit 0, [(0, .pointer (some ⟨u, 0, none⟩)), (3, .pointer (some ⟨bx, 0, none⟩)), (5, .slice a' n' c'), (6, .bool (decide (posR k rest < rest.length))), (7, .int .i64 (n : Int)), (32, .bool false)], H') ∧
      OwnA 2 (.slice a' n' c') (prv (l0 ++ (if posR k rest < rest.length then putAt rest (posR k rest) (k, d) else rest))) H' G' ∧ Upd H G H' G' := by
  intro rest
  induction rest with
  | nil =>
    intro l0 i H ao no co G hr hi h hd ho hb hx hxG
    have hat := star_at h
    obtain ⟨B, hB, _⟩ := star_r h
    have hn := hB.1.prn
    have : i = n := by
      have := congrArg List.length hr
      simp at this; omega
    subst this
    refine ⟨ao, no, co, H, G, ?_, by simpa using ho, Upd.refl _ _⟩
    rw [Rc_loop]
    simp [m44_0, ld_at hat]
  | cons e rest ih =>
    intro l0 i H ao no co G hr hi h hd ho hb hx hxG
    have hat := star_at h
    obtain ⟨B, hB, _⟩ := star_r h
    have hn := hB.1.prn
    obtain ⟨he, hr', hil⟩ := drop_cons hr
    have hil' : i < n := by omega
    obtain ⟨_, b, o, j, cs, rfl, hb', h1, h2, h3⟩ := hB.1.pr he
    have w : IntKind.i64.wrap ((i : Int) + 1) = (i : Int) + 1 := wrap_i64 (by omega) (by omega)
    simp at hb
    have hbl := (List.getElem?_eq_some_iff.1 hx).1
    by_cases hk : k < e.1
    · obtain ⟨a2, n2, c2, H2, G2, q1, q2, q3⟩ := own_push1 (es := 2) (bytes := 16) (xs := [.int .i64 k, .int .i64 d]) ho (prv_one _) rfl rfl (by omega) (by rw [prv_len]; omega) (by omega)
      rw [show ([Value.int .i64 k, Value.int .i64 d]) = [Value.int .i64 (k, d).1, Value.int .i64 (k, d).2] from rfl, prv_snoc] at q2
      obtain ⟨h', hd'⟩ := RefC0.good.upd h hd q3
      have hat2 := star_at h'
      obtain ⟨B2, hB2, _⟩ := star_r h'
      obtain ⟨_, b', o', j', cs', e', hb2, _, _, h3'⟩ := hB2.1.pr he
      cases e'
      obtain ⟨a4, n4, c4, H4, G4, r1, r2, r3⟩ := own_push1 (es := 2) (bytes := 16) (xs := [.int .i64 e.1, .int .i64 e.2]) q2 (prv_one _) rfl rfl (by omega) (by rw [prv_len]; simp; omega) (by omega)
      rw [prv_snoc] at r2
      obtain ⟨h'', hd''⟩ := RefC0.good.upd h' hd' r3
      obtain ⟨a', n', c', H', G', f1, f2, f3⟩ := dput_loopB (mp := mp) (bx := bx) hl rest (l0 ++ [(k, d)] ++ [e]) (i + 1) H4 a4 n4 c4 G4 hr' (by omega) h'' hd'' r2 (by simp; omega)
      refine ⟨a', n', c', H', G', ?_, ?_, (q3.trans r3).trans f3⟩
      · simp at f1
        rw [Rc_loop]
        simp [m44_0, hil', ld_at hat, ld_at hat2, h3, h3', mdraw_plain, ld_at hb', h1, ldx, ldnx, hx, hk, w, q1, r1, posR_cons]
        exact f1
      · rw [posR_cons, if_pos hk, if_pos (by simp), putAt_zero]
        simpa using f2
    · obtain ⟨a2, n2, c2, H2, G2, q1, q2, q3⟩ := own_push1 (es := 2) (bytes := 16) (xs := [.int .i64 e.1, .int .i64 e.2]) ho (prv_one _) rfl rfl (by omega) (by rw [prv_len]; omega) (by omega)
      rw [prv_snoc] at q2
      obtain ⟨h', hd'⟩ := RefC0.good.upd h hd q3
      obtain ⟨a', n', c', H', G', f1, f2, f3⟩ := ih (l0 ++ [e]) (i + 1) H2 a2 n2 c2 G2 hr' (by omega) h' hd' q2 (by simp; omega) (q3.get hx hxG) (fun hh => by rcases q3.new bx hh with h | h; exact hxG h; omega)
      refine ⟨a', n', c', H', G', ?_, ?_, q3.trans f3⟩
      · simp at f1
        rw [Rc_loop]
        simp [m44_0, hil', ld_at hat, h3, mdraw_plain, ld_at hb', h1, ldx, hx, hk, w, q1, posR_cons]
        exact f1
      · rw [posR_cons, if_neg hk]
        by_cases hp : posR k rest < rest.length
        · rw [if_pos hp] at f2
          rw [if_pos (by simp; omega), putAt_succ]
          simpa using f2
        · rw [if_neg hp] at f2
          rw [if_neg (by simp; omega)]
          simpa using f2
end
section
variable {mp : FuncId → Option MDef} {u : Nat} {ps : List (Int × Int)} {k d now : Int} {H : MH} {F : List Nat}
theorem R_dput_form (hf : mp 44 = some (.code m44)) (h : RefC u now ps H F) (hk : k < now ∨ 1000000 < k) :
    ∃ H', R mp 44 [.pointer (some ⟨u, 0, none⟩), .agg #[.int .i64 k, .int .i64 d]] H = some (.int .i64 10, H') ∧ RefC u now ps H' F ∧ Ext H H' := by
  have e1 : Ext H (H ++ [.cells ⟨0, true, false⟩ [.int .i64 k, .int .i64 d]]) := ⟨_, rfl⟩
  have h1 := RefC.good.ext h e1
  obtain ⟨v, h2, _⟩ := h1
  have hat := star_at h2
  refine ⟨_, ?_, RefC.good.ext h e1, e1⟩
  rw [R_code hf]
  by_cases hk1 : k < now
  · simp [m44, mdraw_plain, ldx, ld_at hat, hk1]
  · have hk2 : 1000000 < k := hk.resolve_left hk1
    simp [m44, mdraw_plain, ldx, ld_at hat, hk1, hk2]
theorem R_dput_full (hf : mp 44 = some (.code m44)) (h : RefC u now ps H F) (hk : ¬ k < now) (hk2 : ¬ 1000000 < k) (hl : 64 ≤ ps.length) :
    ∃ H', R mp 44 [.pointer (some ⟨u, 0, none⟩), .agg #[.int .i64 k, .int .i64 d]] H = some (.int .i64 12, H') ∧ RefC u now ps H' F ∧ Ext H H' := by
  have e1 : Ext H (H ++ [.cells ⟨0, true, false⟩ [.int .i64 k, .int .i64 d]]) := ⟨_, rfl⟩
  have h1 := RefC.good.ext h e1
  obtain ⟨v, h2, _⟩ := h1
  have hat := star_at h2
  obtain ⟨B, hB, _⟩ := star_r h2
  obtain ⟨a, n, c, rfl, _⟩ := hB.1.slice
  have hn := hB.1.prn
  have hn64 : (64 : Int) ≤ (n : Int) := by omega
  refine ⟨_, ?_, RefC.good.ext h e1, e1⟩
  rw [R_code hf]
  simp [m44, mdraw_plain, ldx, ld_at hat, hk, hk2, hn64]
theorem R_dput (hf : mp 44 = some (.code m44)) (h : RefC u now ps H F) (hk : now ≤ k) (hk2 : k ≤ 1000000) (hl : ps.length < 64) :
    ∃ H' F', R mp 44 [.pointer (some ⟨u, 0, none⟩), .agg #[.int .i64 k, .int .i64 d]] H = some (.int .i64 0, H') ∧ RefC u now (putAt ps (posR k ps) (k, d)) H' F' ∧ Upd H F H' F' := by
  have hple := posR_le k ps
  have e1 : Ext H (H ++ [.cells ⟨0, true, false⟩ [.int .i64 k, .int .i64 d]]) := ⟨_, rfl⟩
  obtain ⟨v, h1, _, hin, h0, h01⟩ := h
  have h2 := RefC0.good.ext h1 e1
  have hat := star_at h2
  obtain ⟨B, hB, _⟩ := star_r h2
  obtain ⟨a, n, c, rfl, _⟩ := hB.1.slice
  have hn := hB.1.prn
  have g1 : ¬ k < now := by omega
  have g2 : ¬ 1000000 < k := by omega
  have hn64 : ¬ (64 : Int) ≤ (n : Int) := by omega
  obtain ⟨a', n', c', H', G', f1, f2, f3⟩ := dput_loopA (mp := mp) (k := k) (d := d) (bx := H.length) (ix := ⟨0, true, false⟩) (ps := ps) (by omega) ps [] 0 _ none 0 0 [] (by simp) (by omega) h2 (by simp) (.inl ⟨rfl, rfl, rfl⟩) (by simp; omega) (by simp) (by simp)
  obtain ⟨x3, n3⟩ := f3.toExt
  have hx : H'[H.length]? = some (.cells ⟨0, true, false⟩ [.int .i64 k, .int .i64 d]) := x3.get (by simp)
  have fin : ∀ (H5 : MH) (a5 : Option Addr) (n5 c5 : Nat) (G5 : List Nat), OwnA 2 (.slice a5 n5 c5) (prv (putAt ps (posR k ps) (k, d))) H5 G5 → Ext (H ++ [.cells ⟨0, true, false⟩ [.int .i64 k, .int .i64 d]]) H5 → (∀ id ∈ G5, (H ++ [MObj.cells ⟨0, true, false⟩ [.int .i64 k, .int .i64 d]]).length ≤ id) →
      ∃ H6 F6, meff (.st 1) [.pointer (some ⟨u, 0, none⟩), .slice a5 n5 c5] H5 = some (.tuple #[], H6) ∧ RefC u now (putAt ps (posR k ps) (k, d)) H6 F6 ∧ Upd H F H6 F6 := by
    intro H5 a5 n5 c5 G5 o5 x5 m5
    obtain ⟨F1, p1, u1⟩ := star_swap Pt.good h2 x5 (OwnA.row o5) m5
    obtain ⟨H6, e6, p6, u6⟩ := fld_put (n := 0) (v := .slice a5 n5 c5) RowA.good p1 rfl (by simp) rfl
    exact ⟨H6, F1, e6, ⟨_, p6, by rw [putAt_len hple]; omega, hin.put hk hk2, h0, h01⟩, ((Upd.ext e1).trans u1).trans u6⟩
  by_cases hp : posR k ps < ps.length
  · rw [if_pos hp] at f2
    rw [decide_eq_true hp] at f1
    obtain ⟨H6, F6, e6, p6, u6⟩ := fin H' a' n' c' G' (by simpa using f2) x3 n3
    refine ⟨H6, F6, ?_, p6, u6⟩
    simp at f1
    rw [R_code hf]
    simp [m44, mdraw_plain, ldx, ld_at hat, g1, g2, hn64, f1, e6]
  · rw [if_neg hp] at f2
    rw [decide_eq_false hp] at f1
    obtain ⟨a2, n2, c2, H2, G2, q1, q2, q3⟩ := own_push1 (es := 2) (bytes := 16) (xs := [.int .i64 k, .int .i64 d]) f2 (prv_one _) rfl rfl (by omega) (by rw [prv_len]; simp; omega) (by omega)
    rw [show ([Value.int .i64 k, Value.int .i64 d]) = [Value.int .i64 (k, d).1, Value.int .i64 (k, d).2] from rfl, prv_snoc] at q2
    obtain ⟨x4, n4⟩ := (f3.trans q3).toExt
    obtain ⟨H6, F6, e6, p6, u6⟩ := fin H2 a2 n2 c2 G2 (by rw [show posR k ps = ps.length by omega, putAt_end]; simpa using q2) x4 n4
    refine ⟨H6, F6, ?_, p6, u6⟩
    simp at f1
    rw [R_code hf]
    simp [m44, mdraw_plain, ldx, ld_at hat, g1, g2, hn64, f1, ldnx, hx, q1, e6]
end
end Go.Mod

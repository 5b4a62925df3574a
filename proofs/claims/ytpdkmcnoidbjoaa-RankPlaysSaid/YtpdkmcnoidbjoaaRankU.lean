/- Contracts of the reference's rank. -/
import Derived.Test.YtpdkmcnoidbjoaaRankP
set_option linter.unusedVariables false
set_option linter.unusedSimpArgs false
namespace Go.Mod
open Go.Proofs

theorem posR_nil {k : Int} : posR k [] = 0 := rfl
theorem posR_cons {k : Int} {e : Int × Int} {l : List (Int × Int)} : posR k (e :: l) = if k < e.1 then 0 else posR k l + 1 := by
  unfold posR
  rw [List.findIdx_cons]
  by_cases h : k < e.1
  · simp [h]
  · simp [h]
theorem putAt_zero {l : List (Int × Int)} {p : Int × Int} : putAt l 0 p = p :: l := rfl
theorem putAt_succ {e : Int × Int} {l : List (Int × Int)} {j : Nat} {p : Int × Int} : putAt (e :: l) (j + 1) p = e :: putAt l j p := rfl
theorem putAt_end {l : List (Int × Int)} {p : Int × Int} : putAt l l.length p = l ++ [p] := by simp [putAt]
theorem drop_cons {ps rest : List (Int × Int)} {e : Int × Int} {i : Nat} (h : ps.drop i = e :: rest) : ps[i]? = some e ∧ ps.drop (i + 1) = rest ∧ i < ps.length := by
  have h1 : ps[i]? = some e := by
    have := congrArg (fun l => l[0]?) h
    simpa using this
  refine ⟨h1, ?_, (List.getElem?_eq_some_iff.1 h1).1⟩
  have := congrArg (List.drop 1) h
  simpa [List.drop_drop, Nat.add_comm] using this
theorem prv_snoc (l : List (Int × Int)) (p : Int × Int) : prv l ++ [.int .i64 p.1, .int .i64 p.2] = prv (l ++ [p]) := by rw [prv_app]; rfl

section
variable {mp : FuncId → Option MDef} {a : Option Addr} {n c bx : Nat} {ps : List (Int × Int)} {k d : Int} {ix : Info}
/-- Behind it. -/
theorem qput_loopB (hl : ps.length ≤ 1000) : ∀ (rest l0 : List (Int × Int)) (i : Nat) (H : MH) (ao : Option Addr) (no co : Nat) (G : List Nat), ps.drop i = rest → i ≤ ps.length → l0.length ≤ 1001 → Stay 2 (.slice a n c) (prv ps) H G → OwnA 2 (.slice ao no co) (prv l0) H G → l0.length + rest.length ≤ 1001 →
    ∃ (a' : Option Addr) (n' c' : Nat) (H' : MH) (G' : List Nat), Rc mp (.loop m70_0) [(0, .slice a n c), (3, .pointer (some ⟨bx, 0, none⟩)), (5, .slice ao no co), (6, .bool true), (7, .int .i64 (i : Int))] H =
        some (.exit 0, [(0, .slice a n c), (3, .pointer (some ⟨bx, 0, none⟩)), (5, .slice a' n' c'), (6, .bool true), (7, .int .i64 (n : Int)), (11, .bool false)], H') ∧ OwnA 2 (.slice a' n' c') (prv (l0 ++ rest)) H' G' ∧ Upd H G H' G' := by
  intro rest
  induction rest with
  | nil =>
    intro l0 i H ao no co G hr hi hl0 hS ho hb
    have hn := hS.1.prn
    have : i = n := by
      have := congrArg List.length hr
      simp at this; omega
    subst this
    refine ⟨ao, no, co, H, G, ?_, by simpa using ho, Upd.refl _ _⟩
    rw [Rc_loop]
    simp [m70_0]
  | cons e rest ih =>
    intro l0 i H ao no co G hr hi hl0 hS ho hb
    have hn := hS.1.prn
    obtain ⟨he, hr', hil⟩ := drop_cons hr
    have hil' : i < n := by omega
    obtain ⟨_, b, o, j, cs, rfl, hB, h1, h2, h3⟩ := hS.1.pr he
    obtain ⟨a2, n2, c2, H2, G2, q1, q2, q3⟩ := own_push1 (es := 2) (bytes := 16) (xs := [.int .i64 e.1, .int .i64 e.2]) ho (prv_one _) rfl rfl (by omega) (by rw [prv_len]; omega) (by omega)
    rw [prv_snoc] at q2
    simp at hb
    obtain ⟨a', n', c', H', G', f1, f2, f3⟩ := ih (l0 ++ [e]) (i + 1) H2 a2 n2 c2 G2 hr' (by omega) (by simp; omega) (hS.upd q3) q2 (by simp; omega)
    refine ⟨a', n', c', H', G', ?_, by simpa using f2, q3.trans f3⟩
    have w : IntKind.i64.wrap ((i : Int) + 1) = (i : Int) + 1 := wrap_i64 (by omega) (by omega)
    simp at f1
    rw [Rc_loop]
    simp [m70_0, hil', h3, mdraw_plain, w, q1]
    exact f1
theorem qput_loopA (hl : ps.length ≤ 1000) : ∀ (rest l0 : List (Int × Int)) (i : Nat) (H : MH) (ao : Option Addr) (no co : Nat) (G : List Nat), ps.drop i = rest → i ≤ ps.length → Stay 2 (.slice a n c) (prv ps) H G → OwnA 2 (.slice ao no co) (prv l0) H G → l0.length + rest.length ≤ 1000 →
    H[bx]? = some (.cells ix [.int .i64 k, .int .i64 d]) → bx ∉ G →
    ∃ (a' : Option Addr) (n' c' : Nat) (H' : MH) (G' : List Nat), Rc mp (.loop m70_0) [(0, .slice a n c), (3, .pointer (some ⟨bx, 0, none⟩)), (5, .slice ao no co), (6, .bool false), (7, .int .i64 (i : Int))] H =
        some (.exit 0, [(0, .slice a n c), (3, .pointer (some ⟨bx, 0, none⟩)), (5, .slice a' n' c'), (6, .bool (decide (posR k rest < rest.length))), (7, .int .i64 (n : Int)), (11, .bool false)], H') ∧
      OwnA 2 (.slice a' n' c') (prv (l0 ++ (if posR k rest < rest.length then putAt rest (posR k rest) (k, d) else rest))) H' G' ∧ Upd H G H' G' := by
  intro rest
  induction rest with
  | nil =>
    intro l0 i H ao no co G hr hi hS ho hb hx hxG
    have hn := hS.1.prn
    have : i = n := by
      have := congrArg List.length hr
      simp at this; omega
    subst this
    refine ⟨ao, no, co, H, G, ?_, by simpa using ho, Upd.refl _ _⟩
    rw [Rc_loop]
    simp [m70_0]
  | cons e rest ih =>
    intro l0 i H ao no co G hr hi hS ho hb hx hxG
    have hn := hS.1.prn
    obtain ⟨he, hr', hil⟩ := drop_cons hr
    have hil' : i < n := by omega
    obtain ⟨_, b, o, j, cs, rfl, hB, h1, h2, h3⟩ := hS.1.pr he
    have w : IntKind.i64.wrap ((i : Int) + 1) = (i : Int) + 1 := wrap_i64 (by omega) (by omega)
    simp at hb
    have hbl := (List.getElem?_eq_some_iff.1 hx).1
    by_cases hk : k < e.1
    · obtain ⟨a2, n2, c2, H2, G2, q1, q2, q3⟩ := own_push1 (es := 2) (bytes := 16) (xs := [.int .i64 k, .int .i64 d]) ho (prv_one _) rfl rfl (by omega) (by rw [prv_len]; omega) (by omega)
      rw [show ([Value.int .i64 k, Value.int .i64 d]) = [Value.int .i64 (k, d).1, Value.int .i64 (k, d).2] from rfl, prv_snoc] at q2
      have hS2 := hS.upd q3
      obtain ⟨_, b', o', j', cs', e', _, _, _, h3'⟩ := hS2.1.pr he
      cases e'
      obtain ⟨a4, n4, c4, H4, G4, r1, r2, r3⟩ := own_push1 (es := 2) (bytes := 16) (xs := [.int .i64 e.1, .int .i64 e.2]) q2 (prv_one _) rfl rfl (by omega) (by rw [prv_len]; simp; omega) (by omega)
      rw [prv_snoc] at r2
      obtain ⟨a', n', c', H', G', f1, f2, f3⟩ := qput_loopB (mp := mp) (bx := bx) hl rest (l0 ++ [(k, d)] ++ [e]) (i + 1) H4 a4 n4 c4 G4 hr' (by omega) (by simp; omega) (hS2.upd r3) r2 (by simp; omega)
      refine ⟨a', n', c', H', G', ?_, ?_, (q3.trans r3).trans f3⟩
      · simp at f1
        rw [Rc_loop]
        simp [m70_0, hil', h3, h3', mdraw_plain, ld_at hB, h1, ldx, ldnx, hx, hk, w, q1, r1, posR_cons]
        exact f1
      · rw [posR_cons, if_pos hk, if_pos (by simp), putAt_zero]
        simpa using f2
    · obtain ⟨a2, n2, c2, H2, G2, q1, q2, q3⟩ := own_push1 (es := 2) (bytes := 16) (xs := [.int .i64 e.1, .int .i64 e.2]) ho (prv_one _) rfl rfl (by omega) (by rw [prv_len]; omega) (by omega)
      rw [prv_snoc] at q2
      obtain ⟨a', n', c', H', G', f1, f2, f3⟩ := ih (l0 ++ [e]) (i + 1) H2 a2 n2 c2 G2 hr' (by omega) (hS.upd q3) q2 (by simp; omega) (q3.get hx hxG) (fun hh => by rcases q3.new bx hh with h | h; exact hxG h; omega)
      refine ⟨a', n', c', H', G', ?_, ?_, q3.trans f3⟩
      · simp at f1
        rw [Rc_loop]
        simp [m70_0, hil', h3, mdraw_plain, ld_at hB, h1, ldx, hx, hk, w, q1, posR_cons]
        exact f1
      · rw [posR_cons, if_neg hk]
        by_cases hp : posR k rest < rest.length
        · rw [if_pos hp] at f2
          rw [if_pos (by simp; omega), putAt_succ]
          simpa using f2
        · rw [if_neg hp] at f2
          rw [if_neg (by simp; omega)]
          simpa using f2
theorem R_sput (hf : mp 70 = some (.code m70)) {H : MH} (hr : Row 2 H (.slice a n c) (prv ps)) (hl : ps.length ≤ 900) :
    ∃ a' n' c' H' G', R mp 70 [.slice a n c, .agg #[.int .i64 k, .int .i64 d]] H = some (.slice a' n' c', H') ∧ OwnA 2 (.slice a' n' c') (prv (putAt ps (posR k ps) (k, d))) H' G' ∧ Ext H H' ∧ ∀ id ∈ G', H.length ≤ id := by
  have e1 : Ext H (H ++ [.cells ⟨0, true, false⟩ [.int .i64 k, .int .i64 d]]) := ⟨_, rfl⟩
  obtain ⟨a', n', c', H', G', f1, f2, f3⟩ := qput_loopA (mp := mp) (k := k) (d := d) (bx := H.length) (ix := ⟨0, true, false⟩) (n := n) (c := c) (by omega) ps [] 0 _ none 0 0 [] (by simp) (by omega) ⟨e1.row hr, by simp⟩ (.inl ⟨rfl, rfl, rfl⟩) (by simp; omega) (by simp) (by simp)
  obtain ⟨x3, n3⟩ := f3.toExt
  have hx : H'[H.length]? = some (.cells ⟨0, true, false⟩ [.int .i64 k, .int .i64 d]) := x3.get (by simp)
  have hle := posR_le k ps
  by_cases hp : posR k ps < ps.length
  · rw [if_pos hp] at f2
    rw [decide_eq_true hp] at f1
    refine ⟨a', n', c', H', G', ?_, by simpa using f2, e1.trans x3, fun id hid => by have := n3 id hid; simp at this; omega⟩
    simp at f1
    rw [R_code hf]
    simp [m70, f1]
  · rw [if_neg hp] at f2
    rw [decide_eq_false hp] at f1
    obtain ⟨a2, n2, c2, H2, G2, q1, q2, q3⟩ := own_push1 (es := 2) (bytes := 16) (xs := [.int .i64 k, .int .i64 d]) f2 (prv_one _) rfl rfl (by omega) (by rw [prv_len]; simp; omega) (by omega)
    rw [show ([Value.int .i64 k, Value.int .i64 d]) = [Value.int .i64 (k, d).1, Value.int .i64 (k, d).2] from rfl, prv_snoc] at q2
    obtain ⟨x4, n4⟩ := (f3.trans q3).toExt
    refine ⟨a2, n2, c2, H2, G2, ?_, ?_, e1.trans x4, fun id hid => by have := n4 id hid; simp at this; omega⟩
    · simp at f1
      rw [R_code hf]
      simp [m70, f1, ldnx, hx, q1]
    · rw [show posR k ps = ps.length by omega, putAt_end]
      simpa using q2
end

theorem Good.upd {P : HP} {H H1 : MH} {F G G1 : List Nat} (g : Good P) (h : P H F) (dis : ∀ id ∈ F, id ∉ G) (u : Upd H G H1 G1) : P H1 F ∧ ∀ id ∈ F, id ∉ G1 :=
  ⟨g.frame h fun id hid => u.same id (g.lt h id hid) (dis id hid), fun id hid hg => by
    rcases u.new id hg with h' | h'
    · exact dis id hid h'
    · have := g.lt h id hid; omega⟩
theorem Row.part2 {H : MH} {b o n c : Nat} {i : Info} {cs l : List Value} (hB : H[b]? = some (.cells i cs)) (hes : i.es = 2) (hlc : o + n * 2 ≤ cs.length) (hnc : n ≤ c) (htk : (cs.drop o).take (n * 2) = l) : Row 2 H (.slice (some ⟨b, o, none⟩) n c) l :=
  .inr ⟨b, o, n, c, i, cs, rfl, hnc, hB, hes, hlc, htk⟩
/-- The reference's rank. -/
def RefK (u : Nat) (ps : List (Int × Int)) (room : Int) : HP := fun H F => ∃ v, (Pt u ⟨0, true, false⟩ [v, .int .i64 room] * RowA 2 v (prv ps)) H F ∧ ((ps.length : Int) ≤ room ∧ room ≤ 64)
theorem RefK.good {u : Nat} {ps : List (Int × Int)} {room : Int} : Good (RefK u ps room) := Good.ex fun _ => (Pt.good.star RowA.good).and
section
variable {mp : FuncId → Option MDef} {H : MH} {F : List Nat} {u : Nat} {ps : List (Int × Int)} {room : Int}
theorem R_qnew (hf : mp 29 = some (.code m29)) {x : Int} : ∃ H', R mp 29 [.int .i64 x] H = some (.pointer (some ⟨H.length, 0, none⟩), H') ∧ RefK H.length [] (min (max x 0) 64) H' [H.length] ∧ Ext H H' := by
  have e : max 0 (min x 64) = min (max x 0) 64 := by omega
  refine ⟨H ++ [.cells ⟨0, true, false⟩ [.slice none 0 0, .int .i64 (min (max x 0) 64)]], ?_, ⟨_, ⟨[H.length], [], ⟨rfl, by simp⟩, ⟨.inl ⟨rfl, rfl⟩, by simp, by simp⟩, by simp, by simp⟩, by simp; omega, by omega⟩, ⟨_, rfl⟩⟩
  rw [R_code hf]
  simp [m29, e]
theorem R_qput_full (hf : mp 31 = some (.code m31)) (h : RefK u ps room H F) (hr : room ≤ ps.length) (k d : Int) : R mp 31 [.pointer (some ⟨u, 0, none⟩), .int .i64 k, .int .i64 d] H = some (.int .i64 12, H) := by
  obtain ⟨v, h, _⟩ := h
  have hat := star_at h
  obtain ⟨B, hB, _⟩ := star_r h
  obtain ⟨a, n, c, rfl, _⟩ := hB.1.slice
  have hn := hB.1.prn
  subst hn
  rw [R_code hf]
  simp [m31, ld_at hat, mdraw_plain, hr]
theorem R_qput (hf : mp 31 = some (.code m31)) (h70 : mp 70 = some (.code m70)) (h : RefK u ps room H F) (hr : ps.length < room) (k d : Int) :
    ∃ H' F', R mp 31 [.pointer (some ⟨u, 0, none⟩), .int .i64 k, .int .i64 d] H = some (.int .i64 0, H') ∧ RefK u (putAt ps (posR k ps) (k, d)) room H' F' ∧ Upd H F H' F' := by
  obtain ⟨v, h, hl, h64⟩ := h
  have hnr : ¬ room ≤ (ps.length : Int) := by omega
  have hple := posR_le k ps
  have hat := star_at h
  obtain ⟨B, hB, _⟩ := star_r h
  obtain ⟨a, n, c, rfl, _⟩ := hB.1.slice
  have hn := hB.1.prn
  obtain ⟨a', n', c', H1, G', e1, o1, x1, n1⟩ := R_sput (mp := mp) (k := k) (d := d) h70 hB.1 (by omega)
  obtain ⟨F1, h1, u1⟩ := star_swap Pt.good h x1 (OwnA.row o1) n1
  obtain ⟨H2, e2, h2, u2⟩ := fld_put (n := 0) (v := .slice a' n' c') RowA.good h1 rfl (by simp) rfl
  refine ⟨H2, F1, ?_, ⟨_, h2, by rw [putAt_len hple]; omega, h64⟩, u1.trans u2⟩
  subst hn
  rw [R_code hf]
  simp [m31, ld_at hat, mdraw_plain, hnr, e1, e2]
theorem R_qtake0 (hf : mp 33 = some (.code m33)) (h : RefK u [] room H F) : R mp 33 [.pointer (some ⟨u, 0, none⟩)] H = some (.tuple #[.int .i64 0, .int .i64 13], H) := by
  obtain ⟨v, h, _⟩ := h
  have hat := star_at h
  obtain ⟨B, hB, _⟩ := star_r h
  obtain ⟨a, n, c, rfl, _⟩ := hB.1.slice
  have hn := hB.1.prn
  subst hn
  rw [R_code hf]
  simp [m33, ld_at hat]
theorem R_qtake (hf : mp 33 = some (.code m33)) {p : Int × Int} (h : RefK u (p :: ps) room H F) :
    ∃ H', R mp 33 [.pointer (some ⟨u, 0, none⟩)] H = some (.tuple #[.int .i64 p.2, .int .i64 0], H') ∧ RefK u ps room H' F ∧ Upd H F H' F := by
  obtain ⟨v, h, hl, h64⟩ := h
  have hat := star_at h
  have h' := h
  obtain ⟨A, B, hA, hB, hAB, hF⟩ := h
  obtain ⟨a, n, c, rfl, _⟩ := hB.1.slice
  have hrow := hB.1
  obtain ⟨hn, b, o, j, cs, rfl, hb, g1, g2, g3⟩ := hB.1.pr (k := 0) rfl
  simp at hn g1 g2
  subst hn
  rcases hrow with ⟨h1, _⟩ | ⟨b', o', n', c', i', cs', h1, h2, h3, h4, h5, h6⟩
  · cases h1
  cases h1
  rw [hb] at h3; cases h3
  have r' : Row 2 H (.slice (some ⟨b, o + 2, none⟩) ps.length (c - 1)) (prv ps) := by
    refine Row.part2 hb h4 (by omega) (by omega) ?_
    have := congrArg (List.drop 2) h6
    rw [List.drop_take, prv_cons] at this
    simp at this
    rw [show (ps.length + 1) * 2 - 2 = ps.length * 2 by omega] at this
    exact this
  have hB' : RowA 2 (.slice (some ⟨b, o + 2, none⟩) ps.length (c - 1)) (prv ps) H B := ⟨r', fun b' o' n' c' e => by cases e; exact hB.2.1 _ _ _ _ rfl, hB.2.2⟩
  obtain ⟨H2, e2, p2, u2⟩ := fld_put (n := 0) (v := .slice (some ⟨b, o + 2, none⟩) ps.length (c - 1)) RowA.good (⟨A, B, hA, hB', hAB, hF⟩ : (Pt u ⟨0, true, false⟩ _ * RowA 2 (.slice (some ⟨b, o + 2, none⟩) ps.length (c - 1)) (prv ps)) H F) rfl (by simp) rfl
  refine ⟨H2, ?_, ⟨_, p2, by simp at hl; omega, h64⟩, u2⟩
  have c1 : (1 : Int) ≤ (ps.length : Int) + 1 := by omega
  have c0 : ¬ (ps.length : Int) + 1 = 0 := by omega
  have c2 : (0 : Int) < (ps.length : Int) + 1 := by omega
  rw [R_code hf]
  simp [m33, ld_at hat, c0, c1, c2, ld_at hb, g2, sl_at hb h4, e2]
theorem qall_loop {a : Option Addr} {n c : Nat} (hl : ps.length ≤ 1000) : ∀ (z i : Nat) (H : MH) (ao : Option Addr) (no co : Nat) (G : List Nat), ps.length - i = z → i ≤ ps.length → (Pt u ⟨0, true, false⟩ [.slice a n c, .int .i64 room] * RowA 2 (.slice a n c) (prv ps)) H F → (∀ id ∈ F, id ∉ G) → OwnA 1 (.slice ao no co) (i64s ((idsR ps).take i)) H G →
    ∃ (a' : Option Addr) (n' c' : Nat) (H' : MH) (G' : List Nat), Rc mp (.loop m36_0) [(0, .pointer (some ⟨u, 0, none⟩)), (3, .slice ao no co), (4, .int .i64 (i : Int))] H =
        some (.exit 0, [(0, .pointer (some ⟨u, 0, none⟩)), (3, .slice a' n' c'), (4, .int .i64 (n : Int)), (11, .bool false)], H') ∧ OwnA 1 (.slice a' n' c') (i64s (idsR ps)) H' G' ∧ Upd H G H' G' := by
  intro z
  induction z with
  | zero =>
    intro i H ao no co G hz hi h hd ho
    have hat := star_at h
    obtain ⟨B, hB, _⟩ := star_r h
    have hn := hB.1.prn
    have hin : i = n := by omega
    subst hin
    rw [List.take_of_length_le (by rw [idsR_len]; omega)] at ho
    refine ⟨ao, no, co, H, G, ?_, ho, Upd.refl _ _⟩
    rw [Rc_loop]
    simp [m36_0, ld_at hat]
  | succ z ih =>
    intro i H ao no co G hz hi h hd ho
    have hat := star_at h
    obtain ⟨B, hB, _⟩ := star_r h
    have hn := hB.1.prn
    have hil : i < n := by omega
    obtain ⟨p, hp⟩ : ∃ p, ps[i]? = some p := ⟨_, List.getElem?_eq_getElem (by omega)⟩
    obtain ⟨_, b, o, j, cs, rfl, hb, h1, h2, h3⟩ := hB.1.pr hp
    have hlen : (i64s ((idsR ps).take i)).length = i := by rw [i64s_len, List.length_take, idsR_len]; omega
    obtain ⟨a2, n2, c2, H2, G2, q1, q2, q3⟩ := own_push1 (es := 1) (bytes := 8) (xs := [.int .i64 p.2]) ho (i64s_one _) rfl rfl (by omega) (by rw [hlen]; omega) (by omega)
    have hget : (idsR ps)[i]? = some p.2 := ids_get hp
    rw [i64s_snoc, show (idsR ps).take i ++ [p.2] = (idsR ps).take (i + 1) from by rw [List.take_add_one, hget]; rfl] at q2
    obtain ⟨h', hd'⟩ := (Pt.good.star RowA.good).upd h hd q3
    obtain ⟨a', n', c', H', G', f1, f2, f3⟩ := ih (i + 1) H2 a2 n2 c2 G2 (by omega) (by omega) h' hd' q2
    refine ⟨a', n', c', H', G', ?_, f2, q3.trans f3⟩
    have w : IntKind.i64.wrap ((i : Int) + 1) = (i : Int) + 1 := wrap_i64 (by omega) (by omega)
    simp at f1 q1
    rw [Rc_loop]
    simp [m36_0, hil, ld_at hat, ld_at hb, h2, w, q1]
    exact f1
theorem R_qall (hf : mp 36 = some (.code m36)) (h : RefK u ps room H F) :
    ∃ v' H' G, R mp 36 [.pointer (some ⟨u, 0, none⟩)] H = some (v', H') ∧ OwnA 1 v' (i64s (idsR ps)) H' G ∧ Ext H H' ∧ ∀ id ∈ G, H.length ≤ id := by
  obtain ⟨v, h, hl, h64⟩ := h
  obtain ⟨B, hB, _⟩ := star_r h
  obtain ⟨a, n, c, rfl, _⟩ := hB.1.slice
  obtain ⟨a', n', c', H', G', f1, f2, f3⟩ := qall_loop (mp := mp) (a := a) (n := n) (c := c) (ps := ps) (by omega) ps.length 0 H none 0 0 [] rfl (by omega) h (by simp) (.inl ⟨rfl, rfl, rfl⟩)
  obtain ⟨e, hG⟩ := f3.toExt
  refine ⟨_, H', G', ?_, f2, e, hG⟩
  simp at f1
  rw [R_code hf]
  simp [m36, f1]
theorem R_qdrop (hf : mp 35 = some (.code m35)) (h36 : mp 36 = some (.code m36)) (h74 : mp 74 = some (.code cAt)) (h : RefK u ps room H F) (x : Int) :
    ∃ H' F' ps', R mp 35 [.pointer (some ⟨u, 0, none⟩), .int .i64 x] H = some (.bool (decide (x ∈ idsR ps)), H') ∧ RefK u ps' room H' F' ∧ Upd H F H' F' ∧
      ((x ∉ idsR ps ∧ ps' = ps) ∨ ∃ q : Nat, (idsR ps)[q]? = some x ∧ (∀ j, j < q → (idsR ps)[j]? ≠ some x) ∧ ps' = ps.eraseIdx q) := by
  obtain ⟨v1, H1, G1, e1, o1, x1, n1⟩ := R_qall (mp := mp) h36 h
  have g1 := RefK.good.ext h x1
  have e2 := R_at (mp := mp) h74 (x := x) (Own.row o1) (by obtain ⟨v, _, h1, h2⟩ := h; rw [idsR_len]; omega)
  obtain ⟨v, h1, hl, h64⟩ := g1
  have hat := star_at h1
  obtain ⟨B, hB, _⟩ := star_r h1
  obtain ⟨a, n, c, rfl, _⟩ := hB.1.slice
  have hn := hB.1.prn
  obtain ⟨a1, k1, c1, rfl, _⟩ := (Own.row o1).slice
  by_cases hm : x ∈ idsR ps
  · obtain ⟨q, hq, hqb, hlt⟩ := first_at hm
    rw [idsR_len] at hlt
    rcases hB.1 with ⟨h2, h3⟩ | ⟨b, o, n', c', i, cs, h2, h3, h4, h5, h6, h7⟩
    · have := prv_len ps
      rw [h3] at this; simp at this; omega
    cases h2
    have r1 : Row 2 H1 (.slice (some ⟨b, o + 0 * 2, none⟩) (q - 0) (c - 0)) (prv (ps.take q)) := by
      refine Row.part2 h4 h5 (by omega) (by omega) ?_
      rw [← prv_take, ← h7, List.take_take, Nat.min_eq_left (by omega)]; simp
    obtain ⟨v2, H2, G2, e3, o2, x2, n2⟩ := own_new (bytes := 16) r1 (prv_one _) (by omega) (by rw [prv_len]; simp; omega) (by omega)
    have hb2 := x2.get h4
    have r2 : Row 2 H2 (.slice (some ⟨b, o + (q + 1) * 2, none⟩) (n - (q + 1)) (c - (q + 1))) (prv (ps.drop (q + 1))) := by
      refine Row.part2 hb2 h5 (by omega) (by omega) ?_
      rw [← prv_drop, ← h7, ← List.drop_drop, List.drop_take, Nat.sub_mul]
    obtain ⟨v3, H3, G3, e4, o3, u3⟩ := own_appU (bytes := 16) o2 (prv_one _) r2 (prv_one _) (by omega) (by rw [prv_len, prv_len]; simp; omega) (by omega)
    rw [← prv_app, ← List.eraseIdx_eq_take_drop_succ] at o3
    have x3 : Ext H1 H3 := x2.of_fp (S := fun id => id ∈ G2) ⟨u3.len, fun id h1 h2 => u3.same id h1 h2⟩ n2
    have n3 : ∀ id ∈ G3, H1.length ≤ id := fun id hid => by
      rcases u3.new id hid with h | h
      · exact n2 id h
      · have := x2.len; omega
    obtain ⟨F4, h8, u4⟩ := star_swap Pt.good h1 x3 (OwnA.row o3) n3
    obtain ⟨a3, k3, c3, rfl, _⟩ := (Own.row o3).slice
    obtain ⟨a2, k2, c2, rfl, _⟩ := (Own.row o2).slice
    obtain ⟨H5, e5, p5, u5⟩ := fld_put (n := 0) (v := .slice a3 k3 c3) RowA.good h8 rfl (by simp) rfl
    refine ⟨H5, F4, ps.eraseIdx q, ?_, ⟨_, p5, by rw [List.length_eraseIdx, if_pos hlt]; omega, h64⟩, ((Upd.ext x1).trans u4).trans u5, .inr ⟨q, hq, hqb, rfl⟩⟩
    rw [ixOf_some hq hqb] at e2
    have w : IntKind.i64.wrap ((q : Int) + 1) = (q : Int) + 1 := wrap_i64 (by omega) (by omega)
    have k1 : q ≤ c := by omega
    have k2 : (q : Int) + 1 ≤ (n : Int) := by omega
    have k3 : (0 : Int) ≤ (q : Int) + 1 := by omega
    have k4 : ((q : Int) + 1).toNat = q + 1 := by omega
    have hat2 := x2.get hat
    simp at e3 e4 e5
    rw [R_code hf]
    simp [m35, e1, e2, hm, mdraw_full, ld_at hat, ld_at hat2, sl_at h4 h5, sl_at hb2 h5, k1, k2, k3, k4, w, e3, e4, e5]
  · have hix : ixOf x (idsR ps) = -1 := ixOf_none fun j hj => hm (List.mem_of_getElem? hj)
    refine ⟨H1, F, ps, ?_, ⟨_, h1, hl, h64⟩, Upd.ext x1, .inl ⟨hm, rfl⟩⟩
    rw [hix] at e2
    rw [R_code hf]
    simp [m35, e1, e2, hm]
end
end Go.Mod

/- Contracts of the rank. -/
import Derived.Test.YthpeamllfledkaaLkL
set_option linter.unusedVariables false
set_option linter.unusedSimpArgs false
namespace Go.Mod
open Go.Proofs

def RankA (r : Nat) (ps : List (Int × Int)) (room : Int) : HP := fun H F => ∃ v, ((Pt r ⟨0, true, false⟩ [v, .int .i64 room] * OwnP 2 v (prv ps)) * Emp) H F ∧ ((ps.length : Int) ≤ room ∧ room ≤ 64)
theorem RankA.good {r : Nat} {ps : List (Int × Int)} {room : Int} : Good (RankA r ps room) := Good.ex fun _ => ((Pt.good.star OwnP.good).star Emp.good).and

section
variable {mp : FuncId → Option MDef} {H : MH} {F : List Nat} {r : Nat} {ps : List (Int × Int)} {room : Int}
theorem R_knew (hf : mp 58 = some (.code m58)) {x : Int} : ∃ H', R mp 58 [.int .i64 x] H = some (.pointer (some ⟨H.length, 0, none⟩), H') ∧ RankA H.length [] (min (max x 0) 64) H' [H.length] ∧ Ext H H' := by
  refine ⟨H ++ [.cells ⟨0, true, false⟩ [.slice none 0 0, .int .i64 (min (max x 0) 64)]], ?_, ⟨_, ⟨[H.length], [], ⟨[H.length], [], ⟨rfl, by simp⟩, OwnP.nil, by simp, by simp⟩, rfl, by simp, by simp⟩, by simp; omega, by omega⟩, ⟨_, rfl⟩⟩
  rw [R_code hf]
  simp [m58]
theorem R_kput_full (hf : mp 59 = some (.code m59)) (h : RankA r ps room H F) (hr : room ≤ ps.length) (k d : Int) : R mp 59 [.pointer (some ⟨r, 0, none⟩), .int .i64 k, .int .i64 d] H = some (.int .i64 12, H) := by
  obtain ⟨v, h, _⟩ := h
  have hat := star_at2 h
  obtain ⟨A, hA, _⟩ := star_l h
  obtain ⟨B, hB, _⟩ := star_r hA
  obtain ⟨a, n, c, rfl, _⟩ := hB.row.slice
  have hn := hB.row.prn
  subst hn
  rw [R_code hf]
  simp [m59, ld_at hat, mdraw_plain, hr]
theorem kput_loop {a : Option Addr} {n c : Nat} {k d : Int} (hl : ps.length ≤ 1000) : ∀ (z i : Nat) (H : MH), ps.length - i = z → i ≤ ps.length → Row 2 H (.slice a n c) (prv ps) → (∀ j p, j < i → ps[j]? = some p → p.1 ≤ k) →
    ∃ X : MH, (posR k ps < ps.length ∧ Rc mp (.loop m59_0) [(0, .pointer (some ⟨r, 0, none⟩)), (1, .int .i64 k), (2, .int .i64 d), (7, .int .i64 (i : Int)), (23, .slice a n c), (24, .int .i64 (n : Int)), (25, .int .i64 (i : Int))] H =
        some (.exit 0, [(0, .pointer (some ⟨r, 0, none⟩)), (1, .int .i64 k), (2, .int .i64 d), (7, .int .i64 (posR k ps : Int)), (23, .slice a n c), (24, .int .i64 (n : Int)), (25, .int .i64 (posR k ps : Int)), (32, .bool true)], H ++ X)) ∨
      (posR k ps = ps.length ∧ Rc mp (.loop m59_0) [(0, .pointer (some ⟨r, 0, none⟩)), (1, .int .i64 k), (2, .int .i64 d), (7, .int .i64 (i : Int)), (23, .slice a n c), (24, .int .i64 (n : Int)), (25, .int .i64 (i : Int))] H =
        some (.exit 0, [(0, .pointer (some ⟨r, 0, none⟩)), (1, .int .i64 k), (2, .int .i64 d), (7, .int .i64 (n : Int)), (23, .slice a n c), (24, .int .i64 (n : Int)), (25, .int .i64 (n : Int)), (26, .bool false)], H ++ X)) := by
  intro z
  induction z with
  | zero =>
    intro i H hz hi hr hb
    have hn := hr.prn
    have hin : i = n := by omega
    subst hin
    refine ⟨[], .inr ⟨posR_of (Nat.le_refl _) (fun j p hj => hb j p (by omega)) (fun p hp => by rw [List.getElem?_eq_none (Nat.le_refl _)] at hp; cases hp), ?_⟩⟩
    rw [Rc_loop]
    simp [m59_0]
  | succ z ih =>
    intro i H hz hi hr hb
    have hn := hr.prn
    have hil : i < n := by omega
    obtain ⟨p, hp⟩ : ∃ p, ps[i]? = some p := ⟨_, List.getElem?_eq_getElem (by omega)⟩
    obtain ⟨_, b, o, j, cs, rfl, hB, h1, h2, h3⟩ := hr.pr hp
    by_cases hk : k < p.1
    · have hq : posR k ps = i := posR_of (by omega) hb fun p' hp' => by rw [hp] at hp'; cases hp'; exact hk
      refine ⟨[.cells ⟨0, true, false⟩ [.int .i64 p.1, .int .i64 p.2]], .inl ⟨by omega, ?_⟩⟩
      rw [hq, Rc_loop]
      simp [m59_0, hil, h3, stx, ldx, hk]
    · have w : IntKind.i64.wrap ((i : Int) + 1) = (i : Int) + 1 := wrap_i64 (by omega) (by omega)
      have step : Rc mp (.loop m59_0) [(0, .pointer (some ⟨r, 0, none⟩)), (1, .int .i64 k), (2, .int .i64 d), (7, .int .i64 (i : Int)), (23, .slice (some ⟨b, o, none⟩) n c), (24, .int .i64 (n : Int)), (25, .int .i64 (i : Int))] H =
          Rc mp (.loop m59_0) [(0, .pointer (some ⟨r, 0, none⟩)), (1, .int .i64 k), (2, .int .i64 d), (7, .int .i64 ((i + 1 : Nat) : Int)), (23, .slice (some ⟨b, o, none⟩) n c), (24, .int .i64 (n : Int)), (25, .int .i64 ((i + 1 : Nat) : Int))] (H ++ [.cells ⟨0, true, false⟩ [.int .i64 p.1, .int .i64 p.2]]) := by
        rw [Rc_loop]
        simp [m59_0, hil, h3, stx, ldx, hk, w]
      rw [step]
      obtain ⟨X, hX⟩ := ih (i + 1) _ (by omega) (by omega) (Ext.row ⟨_, rfl⟩ hr) (fun j p' hj hp' => by
        rcases Nat.lt_or_ge j i with h | h
        · exact hb j p' h hp'
        · have : j = i := by omega
          subst this
          rw [hp] at hp'; cases hp'; omega)
      refine ⟨[.cells ⟨0, true, false⟩ [.int .i64 p.1, .int .i64 p.2]] ++ X, ?_⟩
      rw [← List.append_assoc]
      exact hX
theorem R_kput (hf : mp 59 = some (.code m59)) (h75 : mp 75 = some (.intr (insertS 2))) (h : RankA r ps room H F) (hr : ps.length < room) (k d : Int) :
    ∃ H' F', R mp 59 [.pointer (some ⟨r, 0, none⟩), .int .i64 k, .int .i64 d] H = some (.int .i64 0, H') ∧ RankA r (putAt ps (posR k ps) (k, d)) room H' F' ∧ Upd H F H' F' := by
  obtain ⟨v, h, hl, h64⟩ := h
  have hnr : ¬ room ≤ (ps.length : Int) := by omega
  have hple := posR_le k ps
  have hat := star_at2 h
  obtain ⟨A, hA, _⟩ := star_l h
  obtain ⟨B, hB, _⟩ := star_r hA
  obtain ⟨a, n, c, rfl, _⟩ := hB.row.slice
  have hn := hB.row.prn
  have hg := (Pt.good (t := r) (i := ⟨0, true, false⟩) (cs := [.slice a n c, .int .i64 room])).star (OwnP.good (es := 2) (v := .slice a n c) (l := prv ps)) |>.star Emp.good
  obtain ⟨X, hX⟩ := kput_loop (mp := mp) (r := r) (a := a) (n := n) (c := c) (k := k) (d := d) (ps := ps) (by omega) ps.length 0 H rfl (by omega) hB.row (fun j p hj => by omega)
  have e : Ext H (H ++ X) := ⟨_, rfl⟩
  have h2 := hg.ext h e
  have hat2 := star_at2 h2
  obtain ⟨v', H1, H', F', a1, a2, a3, a4⟩ := ins_fld (mp := mp) (f := 75) (k := 0) h75 Emp.good h2 rfl (by simp) hple (by omega) (k, d)
  refine ⟨H', F', ?_, ⟨v', a3, by rw [putAt_len hple]; omega, h64⟩, (Upd.ext e).trans a4⟩
  have ho1 : one (Value.slice a n c) = true := rfl
  simp at a1 a2
  rw [R_code hf]
  subst hn
  rcases hX with ⟨hq, hX⟩ | ⟨hq, hX⟩
  · simp at hX
    simp [m59, ld_at hat, mdraw_plain, hnr, hX, ld_at hat2, a1, a2]
  · simp at hX
    rw [hq] at a1
    simp [m59, ld_at hat, mdraw_plain, hnr, hX, ld_at hat2, a1, a2]

theorem kall_loop {a : Option Addr} {n c : Nat} (hl : ps.length ≤ 1000) : ∀ (z i : Nat) (H : MH) (ao : Option Addr) (no co : Nat) (G : List Nat), ps.length - i = z → i ≤ ps.length → Stay 2 (.slice a n c) (prv ps) H G → OwnA 1 (.slice ao no co) (i64s ((idsR ps).take i)) H G →
    ∃ (a' : Option Addr) (n' c' : Nat) (H' : MH) (G' : List Nat), Rc mp (.loop m60_0) [(3, .slice ao no co), (9, .slice a n c), (10, .int .i64 (n : Int)), (11, .int .i64 (i : Int))] H =
        some (.exit 0, [(3, .slice a' n' c'), (9, .slice a n c), (10, .int .i64 (n : Int)), (11, .int .i64 (n : Int)), (12, .bool false)], H') ∧ OwnA 1 (.slice a' n' c') (i64s (idsR ps)) H' G' ∧ Upd H G H' G' := by
  intro z
  induction z with
  | zero =>
    intro i H ao no co G hz hi hr ho
    have hn := hr.1.prn
    have hin : i = n := by omega
    subst hin
    rw [List.take_of_length_le (by rw [idsR_len]; omega)] at ho
    refine ⟨ao, no, co, H, G, ?_, ho, Upd.refl _ _⟩
    rw [Rc_loop]
    simp [m60_0]
  | succ z ih =>
    intro i H ao no co G hz hi hr ho
    have hn := hr.1.prn
    have hil : i < n := by omega
    obtain ⟨p, hp⟩ : ∃ p, ps[i]? = some p := ⟨_, List.getElem?_eq_getElem (by omega)⟩
    obtain ⟨_, b, o, j, cs, rfl, hB, h1, h2, h3⟩ := hr.1.pr hp
    have e1 : Ext H (H ++ [.cells ⟨0, true, false⟩ [.int .i64 p.1, .int .i64 p.2]]) := ⟨_, rfl⟩
    have hlen : (i64s ((idsR ps).take i)).length = i := by rw [i64s_len, List.length_take, idsR_len]; omega
    obtain ⟨a2, n2, c2, H2, G2, q1, q2, q3⟩ := own_push1 (es := 1) (bytes := 8) (xs := [.int .i64 p.2]) (OwnA.good.ext ho e1) (i64s_one _) rfl rfl (by omega) (by rw [hlen]; omega) (by omega)
    have hget : (idsR ps)[i]? = some p.2 := ids_get hp
    rw [i64s_snoc, show (idsR ps).take i ++ [p.2] = (idsR ps).take (i + 1) from by rw [List.take_add_one, hget]; rfl] at q2
    have u : Upd H G H2 G2 := (Upd.ext e1).trans q3
    obtain ⟨a', n', c', H', G', f1, f2, f3⟩ := ih (i + 1) H2 a2 n2 c2 G2 (by omega) (by omega) (hr.upd u) q2
    refine ⟨a', n', c', H', G', ?_, f2, u.trans f3⟩
    have w : IntKind.i64.wrap ((i : Int) + 1) = (i : Int) + 1 := wrap_i64 (by omega) (by omega)
    simp at f1 q1
    rw [Rc_loop]
    simp [m60_0, hil, h3, stx, ldx, w, q1]
    exact f1
theorem R_kall (hf : mp 60 = some (.code m60)) (h : RankA r ps room H F) :
    ∃ v' H' G, R mp 60 [.pointer (some ⟨r, 0, none⟩)] H = some (v', H') ∧ OwnA 1 v' (i64s (idsR ps)) H' G ∧ Ext H H' ∧ ∀ id ∈ G, H.length ≤ id := by
  obtain ⟨v, h, hl, h64⟩ := h
  have hat := star_at2 h
  obtain ⟨A, hA, _⟩ := star_l h
  obtain ⟨B, hB, _⟩ := star_r hA
  obtain ⟨a, n, c, rfl, _⟩ := hB.row.slice
  obtain ⟨a', n', c', H', G', f1, f2, f3⟩ := kall_loop (mp := mp) (a := a) (n := n) (c := c) (ps := ps) (by omega) ps.length 0 H none 0 0 [] rfl (by omega) ⟨hB.row, by simp⟩ (.inl ⟨rfl, rfl, rfl⟩)
  obtain ⟨e, hG⟩ := f3.toExt
  refine ⟨_, H', G', ?_, f2, e, hG⟩
  simp at f1
  rw [R_code hf]
  simp [m60, ld_at hat, f1]
end
end Go.Mod

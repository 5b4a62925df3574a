/- Contracts of the rank. -/
import Derived.Test.YtpdkmcnoidbjoaaRankK
set_option linter.unusedVariables false
set_option linter.unusedSimpArgs false
namespace Go.Mod
open Go.Proofs

/-- Where one of this key goes: behind all whose key isn't greater. -/
def posR (k : Int) (ps : List (Int × Int)) : Nat := ps.findIdx fun p => decide (k < p.1)
theorem posR_le (k : Int) (ps : List (Int × Int)) : posR k ps ≤ ps.length := List.findIdx_le_length
theorem posR_of {k : Int} {ps : List (Int × Int)} {q : Nat} (h1 : q ≤ ps.length) (h2 : ∀ j p, j < q → ps[j]? = some p → p.1 ≤ k) (h3 : ∀ p, ps[q]? = some p → k < p.1) : posR k ps = q := by
  unfold posR
  rcases Nat.lt_or_ge q ps.length with h | h
  · rw [List.findIdx_eq h]
    refine ⟨by simpa using h3 _ (List.getElem?_eq_getElem h), fun j hj => ?_⟩
    have := h2 j _ hj (List.getElem?_eq_getElem (by omega))
    simp; omega
  · have : q = ps.length := by omega
    subst this
    rw [List.findIdx_eq_length]
    intro p hp
    obtain ⟨j, hj⟩ := List.mem_iff_getElem?.1 hp
    have := h2 j p (List.getElem?_eq_some_iff.1 hj).1 hj
    simp; omega

def RankA (r : Nat) (ps : List (Int × Int)) (room : Int) : HP := fun H F => ∃ v, ((Pt r ⟨0, true, false⟩ [v, .int .i64 room] * OwnP 2 v (prv ps)) * Emp) H F ∧ ((ps.length : Int) ≤ room ∧ room ≤ 64)
theorem RankA.good {r : Nat} {ps : List (Int × Int)} {room : Int} : Good (RankA r ps room) := Good.ex fun _ => ((Pt.good.star OwnP.good).star Emp.good).and

section
variable {mp : FuncId → Option MDef} {H : MH} {F : List Nat} {r : Nat} {ps : List (Int × Int)} {room : Int}
theorem R_knew (hf : mp 28 = some (.code m28)) {x : Int} : ∃ H', R mp 28 [.int .i64 x] H = some (.pointer (some ⟨H.length, 0, none⟩), H') ∧ RankA H.length [] (min (max x 0) 64) H' [H.length] ∧ Ext H H' := by
  refine ⟨H ++ [.cells ⟨0, true, false⟩ [.slice none 0 0, .int .i64 (min (max x 0) 64)]], ?_, ⟨_, ⟨[H.length], [], ⟨[H.length], [], ⟨rfl, by simp⟩, OwnP.nil, by simp, by simp⟩, rfl, by simp, by simp⟩, by simp; omega, by omega⟩, ⟨_, rfl⟩⟩
  rw [R_code hf]
  simp [m28]
theorem R_klen (hf : mp 40 = some (.code m40)) (h : RankA r ps room H F) : R mp 40 [.pointer (some ⟨r, 0, none⟩)] H = some (.int .i64 (ps.length : Int), H) := by
  obtain ⟨v, h, _⟩ := h
  have hat := star_at2 h
  obtain ⟨A, hA, _⟩ := star_l h
  obtain ⟨B, hB, _⟩ := star_r hA
  obtain ⟨a, n, c, rfl, _⟩ := hB.row.slice
  have hn := hB.row.prn
  subst hn
  rw [R_code hf]
  simp [m40, ld_at hat]
theorem R_kfirst0 (hf : mp 37 = some (.code m37)) (h : RankA r [] room H F) : R mp 37 [.pointer (some ⟨r, 0, none⟩)] H = some (.tuple #[.int .i64 0, .bool false], H) := by
  obtain ⟨v, h, _⟩ := h
  have hat := star_at2 h
  obtain ⟨A, hA, _⟩ := star_l h
  obtain ⟨B, hB, _⟩ := star_r hA
  obtain ⟨a, n, c, rfl, _⟩ := hB.row.slice
  have hn := hB.row.prn
  subst hn
  rw [R_code hf]
  simp [m37, ld_at hat]
theorem R_kfirst (hf : mp 37 = some (.code m37)) {p : Int × Int} (h : RankA r (p :: ps) room H F) : R mp 37 [.pointer (some ⟨r, 0, none⟩)] H = some (.tuple #[.int .i64 p.2, .bool true], H) := by
  obtain ⟨v, h, _⟩ := h
  have hat := star_at2 h
  obtain ⟨A, hA, _⟩ := star_l h
  obtain ⟨B, hB, _⟩ := star_r hA
  obtain ⟨a, n, c, rfl, _⟩ := hB.row.slice
  obtain ⟨hn, b, o, j, cs, rfl, hb, h1, h2, h3⟩ := hB.row.pr (k := 0) rfl
  simp at h1 h2
  simp at hn
  subst hn
  have e0 : ¬ (ps.length : Int) + 1 = 0 := by omega
  have e1 : (0 : Int) < (ps.length : Int) + 1 := by omega
  rw [R_code hf]
  simp [m37, ld_at hat, e0, e1, ld_at hb, h2]
theorem R_ktake0 (hf : mp 32 = some (.code m32)) (h37 : mp 37 = some (.code m37)) (h : RankA r [] room H F) : R mp 32 [.pointer (some ⟨r, 0, none⟩)] H = some (.tuple #[.int .i64 0, .int .i64 13], H) := by
  have h1 := R_kfirst0 h37 h
  rw [R_code hf]
  simp [m32, h1]
theorem R_ktake (hf : mp 32 = some (.code m32)) (h37 : mp 37 = some (.code m37)) (h71 : mp 71 = some (.code m71)) {p : Int × Int} (h : RankA r (p :: ps) room H F) :
    ∃ H' F', R mp 32 [.pointer (some ⟨r, 0, none⟩)] H = some (.tuple #[.int .i64 p.2, .int .i64 0], H') ∧ RankA r ps room H' F' ∧ Upd H F H' F' := by
  have h1 := R_kfirst h37 h
  obtain ⟨v, h, hl⟩ := h
  have hat := star_at2 h
  simp at hl
  obtain ⟨v', H1, H', F', a1, a2, a3, a4⟩ := del_fldp (mp := mp) (f := 71) (k := 0) (x := 0) (y := 1) h71 Emp.good h rfl (by simp) (by omega) (by simp) (by simp; omega)
  simp at a1 a2 a3
  have hone : one v = true := by
    obtain ⟨A, hA, _⟩ := star_l h
    obtain ⟨B, hB, _⟩ := star_r hA
    exact hB.one
  refine ⟨H', F', ?_, ⟨v', a3, by omega⟩, a4⟩
  obtain ⟨A, hA, _⟩ := star_l h
  obtain ⟨B, hB, _⟩ := star_r hA
  obtain ⟨a, n, c, rfl, _⟩ := hB.row.slice
  rw [R_code hf]
  simp [m32, h1, ld_at hat, a1, a2]

theorem R_kput_full (hf : mp 30 = some (.code m30)) (h : RankA r ps room H F) (hr : room ≤ ps.length) (k d : Int) : R mp 30 [.pointer (some ⟨r, 0, none⟩), .int .i64 k, .int .i64 d] H = some (.int .i64 12, H) := by
  obtain ⟨v, h, _⟩ := h
  have hat := star_at2 h
  obtain ⟨A, hA, _⟩ := star_l h
  obtain ⟨B, hB, _⟩ := star_r hA
  obtain ⟨a, n, c, rfl, _⟩ := hB.row.slice
  have hn := hB.row.prn
  subst hn
  rw [R_code hf]
  simp [m30, ld_at hat, mdraw_plain, hr]
theorem kput_loop {a : Option Addr} {n c : Nat} {k d : Int} (hl : ps.length ≤ 1000) : ∀ (z i : Nat) (H : MH), ps.length - i = z → i ≤ ps.length → Row 2 H (.slice a n c) (prv ps) → (∀ j p, j < i → ps[j]? = some p → p.1 ≤ k) →
    ∃ X : MH, (posR k ps < ps.length ∧ Rc mp (.loop m30_0) [(0, .pointer (some ⟨r, 0, none⟩)), (1, .int .i64 k), (2, .int .i64 d), (7, .int .i64 (i : Int)), (23, .slice a n c), (24, .int .i64 (n : Int)), (25, .int .i64 (i : Int))] H =
        some (.exit 0, [(0, .pointer (some ⟨r, 0, none⟩)), (1, .int .i64 k), (2, .int .i64 d), (7, .int .i64 (posR k ps : Int)), (23, .slice a n c), (24, .int .i64 (n : Int)), (25, .int .i64 (posR k ps : Int)), (32, .bool true)], H ++ X)) ∨
      (posR k ps = ps.length ∧ Rc mp (.loop m30_0) [(0, .pointer (some ⟨r, 0, none⟩)), (1, .int .i64 k), (2, .int .i64 d), (7, .int .i64 (i : Int)), (23, .slice a n c), (24, .int .i64 (n : Int)), (25, .int .i64 (i : Int))] H =
        some (.exit 0, [(0, .pointer (some ⟨r, 0, none⟩)), (1, .int .i64 k), (2, .int .i64 d), (7, .int .i64 (n : Int)), (23, .slice a n c), (24, .int .i64 (n : Int)), (25, .int .i64 (n : Int)), (26, .bool false)], H ++ X)) := by
  intro z
  induction z with
  | zero =>
    intro i H hz hi hr hb
    have hn := hr.prn
    have hin : i = n := by omega
    subst hin
    refine ⟨[], .inr ⟨posR_of (Nat.le_refl _) (fun j p hj => hb j p (by omega)) (fun p hp => by rw [List.getElem?_eq_none (Nat.le_refl _)] at hp; cases hp), ?_⟩⟩
    rw [Rc_loop]
    simp [m30_0]
  | succ z ih =>
    intro i H hz hi hr hb
    have hn := hr.prn
    have hil : i < n := by omega
    obtain ⟨p, hp⟩ : ∃ p, ps[i]? = some p := ⟨_, List.getElem?_eq_getElem (by omega)⟩
    obtain ⟨_, b, o, j, cs, rfl, hB, h1, h2, h3⟩ := hr.pr hp
    by_cases hk : k < p.1
    · have hq : posR k ps = i := posR_of (by omega) hb fun p' hp' => by rw [hp] at hp'; cases hp'; exact hk
      refine ⟨[.cells ⟨0, true, false⟩ [.int .i64 p.1, .int .i64 p.2]], .inl ⟨by omega, ?_⟩⟩
      rw [hq, Rc_loop]
      simp [m30_0, hil, h3, stx, ldx, hk]
    · have w : IntKind.i64.wrap ((i : Int) + 1) = (i : Int) + 1 := wrap_i64 (by omega) (by omega)
      have step : Rc mp (.loop m30_0) [(0, .pointer (some ⟨r, 0, none⟩)), (1, .int .i64 k), (2, .int .i64 d), (7, .int .i64 (i : Int)), (23, .slice (some ⟨b, o, none⟩) n c), (24, .int .i64 (n : Int)), (25, .int .i64 (i : Int))] H =
          Rc mp (.loop m30_0) [(0, .pointer (some ⟨r, 0, none⟩)), (1, .int .i64 k), (2, .int .i64 d), (7, .int .i64 ((i + 1 : Nat) : Int)), (23, .slice (some ⟨b, o, none⟩) n c), (24, .int .i64 (n : Int)), (25, .int .i64 ((i + 1 : Nat) : Int))] (H ++ [.cells ⟨0, true, false⟩ [.int .i64 p.1, .int .i64 p.2]]) := by
        rw [Rc_loop]
        simp [m30_0, hil, h3, stx, ldx, hk, w]
      rw [step]
      obtain ⟨X, hX⟩ := ih (i + 1) _ (by omega) (by omega) (Ext.row ⟨_, rfl⟩ hr) (fun j p' hj hp' => by
        rcases Nat.lt_or_ge j i with h | h
        · exact hb j p' h hp'
        · have : j = i := by omega
          subst this
          rw [hp] at hp'; cases hp'; omega)
      refine ⟨[.cells ⟨0, true, false⟩ [.int .i64 p.1, .int .i64 p.2]] ++ X, ?_⟩
      rw [← List.append_assoc]
      exact hX
theorem R_kput (hf : mp 30 = some (.code m30)) (h69 : mp 69 = some (.intr (insertS 2))) (h : RankA r ps room H F) (hr : ps.length < room) (k d : Int) :
    ∃ H' F', R mp 30 [.pointer (some ⟨r, 0, none⟩), .int .i64 k, .int .i64 d] H = some (.int .i64 0, H') ∧ RankA r (putAt ps (posR k ps) (k, d)) room H' F' ∧ Upd H F H' F' := by
  obtain ⟨v, h, hl, h64⟩ := h
  have hnr : ¬ room ≤ (ps.length : Int) := by omega
  have hple := posR_le k ps
  have hat := star_at2 h
  obtain ⟨A, hA, _⟩ := star_l h
  obtain ⟨B, hB, _⟩ := star_r hA
  obtain ⟨a, n, c, rfl, _⟩ := hB.row.slice
  have hn := hB.row.prn
  have hg := (Pt.good (t := r) (i := ⟨0, true, false⟩) (cs := [.slice a n c, .int .i64 room])).star (OwnP.good (es := 2) (v := .slice a n c) (l := prv ps)) |>.star Emp.good
  obtain ⟨X, hX⟩ := kput_loop (mp := mp) (r := r) (a := a) (n := n) (c := c) (k := k) (d := d) (ps := ps) (by omega) ps.length 0 H rfl (by omega) hB.row (fun j p hj => by omega)
  have e : Ext H (H ++ X) := ⟨_, rfl⟩
  have h2 := hg.ext h e
  have hat2 := star_at2 h2
  obtain ⟨v', H1, H', F', a1, a2, a3, a4⟩ := ins_fld (mp := mp) (f := 69) (k := 0) h69 Emp.good h2 rfl (by simp) hple (by omega) (k, d)
  refine ⟨H', F', ?_, ⟨v', a3, by rw [putAt_len hple]; omega, h64⟩, (Upd.ext e).trans a4⟩
  have ho1 : one (Value.slice a n c) = true := rfl
  simp at a1 a2
  rw [R_code hf]
  subst hn
  rcases hX with ⟨hq, hX⟩ | ⟨hq, hX⟩
  · simp at hX
    simp [m30, ld_at hat, mdraw_plain, hnr, hX, ld_at hat2, a1, a2]
  · simp at hX
    rw [hq] at a1
    simp [m30, ld_at hat, mdraw_plain, hnr, hX, ld_at hat2, a1, a2]

/-- The ids. -/
def idsR (ps : List (Int × Int)) : List Int := ps.map (·.2)
theorem idsR_len (ps : List (Int × Int)) : (idsR ps).length = ps.length := by simp [idsR]
theorem R_kdrop (hf : mp 34 = some (.code m34)) (h71 : mp 71 = some (.code m71)) (h72 : mp 72 = some (.code m72)) (h73 : mp 73 = some (.code m73)) (h : RankA r ps room H F) (x : Int) :
    ∃ H' F' ps', R mp 34 [.pointer (some ⟨r, 0, none⟩), .int .i64 x] H = some (.bool (decide (x ∈ idsR ps)), H') ∧ RankA r ps' room H' F' ∧ Upd H F H' F' ∧
      ((x ∉ idsR ps ∧ ps' = ps) ∨ ∃ q : Nat, (idsR ps)[q]? = some x ∧ (∀ j, j < q → (idsR ps)[j]? ≠ some x) ∧ ps' = ps.eraseIdx q) := by
  obtain ⟨v, h, hl, h64⟩ := h
  have hat := star_at2 h
  obtain ⟨A, hA, _⟩ := star_l h
  obtain ⟨B, hB, _⟩ := star_r hA
  obtain ⟨a, n, c, rfl, _⟩ := hB.row.slice
  have hn := hB.row.prn
  have hg := (Pt.good (t := r) (i := ⟨0, true, false⟩) (cs := [.slice a n c, .int .i64 room])).star (OwnP.good (es := 2) (v := .slice a n c) (l := prv ps)) |>.star Emp.good
  have e1 : Ext H (H ++ [.cells ⟨0, true, false⟩ [.int .i64 x]]) := ⟨_, rfl⟩
  obtain ⟨X, hX⟩ := R_ixf (mp := mp) (f := 72) (g := 73) (bx := H.length) (x := x) (ix := ⟨0, true, false⟩) h72 h73 (e1.row hB.row) (by omega) (by simp)
  have e : Ext H (H ++ [.cells ⟨0, true, false⟩ [.int .i64 x]] ++ X) := e1.trans ⟨_, rfl⟩
  have hat1 := e1.get hat
  by_cases hm : x ∈ idsR ps
  · obtain ⟨q, hq, hqb, hlt⟩ := first_at hm
    rw [idsR_len] at hlt
    have h2 := hg.ext h e
    have hat2 := star_at2 h2
    obtain ⟨v', H1, H', F', a1, a2, a3, a4⟩ := del_fldp (mp := mp) (f := 71) (k := 0) (x := q) (y := q + 1) h71 Emp.good h2 rfl (by simp) (by omega) (by omega) (by omega)
    refine ⟨H', F', ps.eraseIdx q, ?_, ⟨v', by rw [List.eraseIdx_eq_take_drop_succ]; exact a3, by rw [List.length_eraseIdx, if_pos hlt]; omega, h64⟩, (Upd.ext e).trans a4, .inr ⟨q, hq, hqb, rfl⟩⟩
    have hix := ixOf_some hq hqb
    change ixOf x (List.map (fun x => x.2) ps) = _ at hix
    rw [hix] at hX
    simp at a1 a2 hX
    rw [List.append_assoc, List.singleton_append] at hat2
    have w : IntKind.i64.wrap ((q : Int) + 1) = (q : Int) + 1 := wrap_i64 (by omega) (by omega)
    have hlt0 : ¬ (q : Int) < 0 := by omega
    rw [R_code hf]
    simp [m34, ld_at hat1, hX, hlt0, ld_at hat2, a1, a2, w, hm]
  · refine ⟨_, F, ps, ?_, ⟨_, hg.ext h e, hl, h64⟩, Upd.ext e, .inl ⟨hm, rfl⟩⟩
    have hix : ixOf x (List.map (fun x => x.2) ps) = -1 := ixOf_none fun j hj => hm (List.mem_of_getElem? hj)
    rw [hix] at hX
    simp at hX
    rw [R_code hf]
    simp [m34, ld_at hat1, hX, hm]
theorem kall_loop {a : Option Addr} {n c : Nat} (hl : ps.length ≤ 1000) : ∀ (z i : Nat) (H : MH) (ao : Option Addr) (no co : Nat) (G : List Nat), ps.length - i = z → i ≤ ps.length → Stay 2 (.slice a n c) (prv ps) H G → OwnA 1 (.slice ao no co) (i64s ((idsR ps).take i)) H G →
    ∃ (a' : Option Addr) (n' c' : Nat) (H' : MH) (G' : List Nat), Rc mp (.loop m39_0) [(3, .slice ao no co), (9, .slice a n c), (10, .int .i64 (n : Int)), (11, .int .i64 (i : Int))] H =
        some (.exit 0, [(3, .slice a' n' c'), (9, .slice a n c), (10, .int .i64 (n : Int)), (11, .int .i64 (n : Int)), (12, .bool false)], H') ∧ OwnA 1 (.slice a' n' c') (i64s (idsR ps)) H' G' ∧ Upd H G H' G' := by
  intro z
  induction z with
  | zero =>
    intro i H ao no co G hz hi hr ho
    have hn := hr.1.prn
    have hin : i = n := by omega
    subst hin
    rw [List.take_of_length_le (by rw [idsR_len]; omega)] at ho
    refine ⟨ao, no, co, H, G, ?_, ho, Upd.refl _ _⟩
    rw [Rc_loop]
    simp [m39_0]
  | succ z ih =>
    intro i H ao no co G hz hi hr ho
    have hn := hr.1.prn
    have hil : i < n := by omega
    obtain ⟨p, hp⟩ : ∃ p, ps[i]? = some p := ⟨_, List.getElem?_eq_getElem (by omega)⟩
    obtain ⟨_, b, o, j, cs, rfl, hB, h1, h2, h3⟩ := hr.1.pr hp
    have e1 : Ext H (H ++ [.cells ⟨0, true, false⟩ [.int .i64 p.1, .int .i64 p.2]]) := ⟨_, rfl⟩
    have hlen : (i64s ((idsR ps).take i)).length = i := by rw [i64s_len, List.length_take, idsR_len]; omega
    obtain ⟨a2, n2, c2, H2, G2, q1, q2, q3⟩ := own_push1 (es := 1) (bytes := 8) (xs := [.int .i64 p.2]) (OwnA.good.ext ho e1) (i64s_one _) rfl rfl (by omega) (by rw [hlen]; omega) (by omega)
    have hget : (idsR ps)[i]? = some p.2 := ids_get hp
    rw [i64s_snoc, show (idsR ps).take i ++ [p.2] = (idsR ps).take (i + 1) from by rw [List.take_add_one, hget]; rfl] at q2
    have u : Upd H G H2 G2 := (Upd.ext e1).trans q3
    obtain ⟨a', n', c', H', G', f1, f2, f3⟩ := ih (i + 1) H2 a2 n2 c2 G2 (by omega) (by omega) (hr.upd u) q2
    refine ⟨a', n', c', H', G', ?_, f2, u.trans f3⟩
    have w : IntKind.i64.wrap ((i : Int) + 1) = (i : Int) + 1 := wrap_i64 (by omega) (by omega)
    simp at f1 q1
    rw [Rc_loop]
    simp [m39_0, hil, h3, stx, ldx, w, q1]
    exact f1
theorem R_kall (hf : mp 39 = some (.code m39)) (h : RankA r ps room H F) :
    ∃ v' H' G, R mp 39 [.pointer (some ⟨r, 0, none⟩)] H = some (v', H') ∧ OwnA 1 v' (i64s (idsR ps)) H' G ∧ Ext H H' ∧ ∀ id ∈ G, H.length ≤ id := by
  obtain ⟨v, h, hl, h64⟩ := h
  have hat := star_at2 h
  obtain ⟨A, hA, _⟩ := star_l h
  obtain ⟨B, hB, _⟩ := star_r hA
  obtain ⟨a, n, c, rfl, _⟩ := hB.row.slice
  obtain ⟨a', n', c', H', G', f1, f2, f3⟩ := kall_loop (mp := mp) (a := a) (n := n) (c := c) (ps := ps) (by omega) ps.length 0 H none 0 0 [] rfl (by omega) ⟨hB.row, by simp⟩ (.inl ⟨rfl, rfl, rfl⟩)
  obtain ⟨e, hG⟩ := f3.toExt
  refine ⟨_, H', G', ?_, f2, e, hG⟩
  simp at f1
  rw [R_code hf]
  simp [m39, ld_at hat, f1]
end
end Go.Mod

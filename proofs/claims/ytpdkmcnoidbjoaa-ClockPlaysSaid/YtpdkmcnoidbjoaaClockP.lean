/- Contracts of the clock. -/
import Derived.Test.YtpdkmcnoidbjoaaClockK
set_option linter.unusedVariables false
set_option linter.unusedSimpArgs false
namespace Go.Mod
open Go.Proofs

def unit : Value := .agg #[]
/-- The clock's parts: m places are taken. -/
def Clk0 (t q : Nat) (now : Int) (v : Value) (ps : List (Int × Int)) (m : Nat) : HP :=
  (Pt t ⟨0, true, false⟩ [.int .i64 now, v, .chan (some q)] * OwnP 2 v (prv ps)) * At q (.chan 64 (List.replicate m unit))
theorem Clk0.good {t q : Nat} {now : Int} {v : Value} {ps : List (Int × Int)} {m : Nat} : Good (Clk0 t q now v ps m) := (Pt.good.star OwnP.good).star At.good
/-- In the order of time; none too early, none too late. -/
structure InTime (now : Int) (ps : List (Int × Int)) : Prop where
  sorted : ps.Pairwise fun a b => a.1 ≤ b.1
  bound : ∀ p ∈ ps, now ≤ p.1 ∧ p.1 ≤ 1000000
def ClkA (t q : Nat) (now : Int) (ps : List (Int × Int)) : HP := fun H F => ∃ v, Clk0 t q now v ps ps.length H F ∧ (ps.length ≤ 64 ∧ InTime now ps ∧ 0 ≤ now ∧ now ≤ 1000000)
theorem ClkA.good {t q : Nat} {now : Int} {ps : List (Int × Int)} : Good (ClkA t q now ps) := Good.ex fun _ => Clk0.good.and

theorem put_sorted1 {ps : List (Int × Int)} (h : ps.Pairwise fun a b => a.1 ≤ b.1) {k d : Int} : (putAt ps (posR k ps) (k, d)).Pairwise fun a b => a.1 ≤ b.1 := by
  unfold putAt
  have hs := h
  rw [← List.take_append_drop (posR k ps) ps, List.pairwise_append] at h
  obtain ⟨h1, h2, h3⟩ := h
  have hlo : ∀ a ∈ ps.take (posR k ps), a.1 ≤ k := fun a ha => by
    obtain ⟨j, hj⟩ := List.mem_iff_getElem?.1 ha
    have hjl := (List.getElem?_eq_some_iff.1 hj).1
    rw [List.length_take] at hjl
    rw [List.getElem?_take_of_lt (by omega)] at hj
    exact posR_lt (by omega) hj
  have hhi : ∀ b ∈ ps.drop (posR k ps), k ≤ b.1 := fun b hb => by
    obtain ⟨j, hj⟩ := List.mem_iff_getElem?.1 hb
    rw [List.getElem?_drop] at hj
    have hjl := (List.getElem?_eq_some_iff.1 hj).1
    have hq := posR_at (k := k) (List.getElem?_eq_getElem (l := ps) (i := posR k ps) (by omega))
    rcases Nat.eq_zero_or_pos j with h0 | h0
    · subst h0
      have := posR_at (k := k) hj
      omega
    · have := List.pairwise_iff_getElem.1 hs (posR k ps) (posR k ps + j) (by omega) hjl (by omega)
      rw [(List.getElem?_eq_some_iff.1 hj).2] at this
      omega
  rw [List.pairwise_append, List.pairwise_cons]
  refine ⟨h1, ⟨hhi, h2⟩, fun a ha b hb => ?_⟩
  rcases List.mem_cons.1 hb with rfl | hb
  · exact hlo a ha
  · exact h3 a ha b hb
theorem InTime.put {now : Int} {ps : List (Int × Int)} (h : InTime now ps) {k d : Int} (h1 : now ≤ k) (h2 : k ≤ 1000000) : InTime now (putAt ps (posR k ps) (k, d)) := by
  refine ⟨put_sorted1 h.sorted, fun p hp => ?_⟩
  rcases mem_putAt.1 hp with rfl | hp
  · exact ⟨h1, h2⟩
  · exact h.bound p hp

section
variable {mp : FuncId → Option MDef} {H : MH} {F : List Nat} {t q : Nat} {now : Int} {ps : List (Int × Int)}
theorem R_cnew (hf : mp 42 = some (.code m42)) : ∃ H', R mp 42 [] H = some (.pointer (some ⟨H.length + 1, 0, none⟩), H') ∧ ClkA (H.length + 1) H.length 0 [] H' [H.length + 1, H.length] ∧ Ext H H' := by
  refine ⟨H ++ [.chan 64 []] ++ [.cells ⟨0, true, false⟩ [.int .i64 0, .slice none 0 0, .chan (some H.length)]], ?_, ⟨_, ⟨[H.length + 1], [H.length], ⟨[H.length + 1], [], ⟨rfl, ?_⟩, OwnP.nil, by simp, by simp⟩, ⟨rfl, ?_⟩, by simp, by simp⟩, by simp, ⟨.nil, by simp⟩, by omega, by omega⟩, ⟨_, List.append_assoc ..⟩⟩
  · have hm := mk_chan (k := .i64) (m := 64) (n := 0) (by omega) (by omega) H.length
    simp at hm
    rw [R_code hf]
    simp [m42, hm]
  · simp
  · simp
theorem R_cnow (hf : mp 51 = some (.code m51)) (h : ClkA t q now ps H F) : R mp 51 [.pointer (some ⟨t, 0, none⟩)] H = some (.int .i64 now, H) := by
  obtain ⟨v, h, _⟩ := h
  have hat := star_at2 h
  rw [R_code hf]
  simp [m51, ld_at hat]
theorem R_clen (hf : mp 52 = some (.code m52)) (h : ClkA t q now ps H F) : R mp 52 [.pointer (some ⟨t, 0, none⟩)] H = some (.int .i64 (ps.length : Int), H) := by
  obtain ⟨v, h, _⟩ := h
  have hat := star_at2 h
  obtain ⟨A, hA, _⟩ := star_l h
  obtain ⟨B, hB, _⟩ := star_r hA
  obtain ⟨a, n, c, rfl, _⟩ := hB.row.slice
  have hn := hB.row.prn
  subst hn
  rw [R_code hf]
  simp [m52, ld_at hat]
theorem R_call (hf : mp 50 = some (.code m50)) (h79 : mp 79 = some (.code (cClone 2 16 [.int .i64 0, .int .i64 0]))) (h : ClkA t q now ps H F) :
    ∃ a n c H' G, R mp 50 [.pointer (some ⟨t, 0, none⟩)] H = some (.slice a n c, H') ∧ RowA 2 (.slice a n c) (prv ps) H' G ∧ Ext H H' ∧ ∀ id ∈ G, H.length ≤ id := by
  obtain ⟨v, h, hl, _⟩ := h
  have hat := star_at2 h
  obtain ⟨A, hA, _⟩ := star_l h
  obtain ⟨B, hB, _⟩ := star_r hA
  obtain ⟨v', H', G, e1, r1, x1, n1, a, n, c, rfl⟩ := R_cloneF (mp := mp) h79 rfl (by omega) (by omega) hB.row (prv_one ps) (by rw [prv_len]; omega)
  obtain ⟨a0, n0, c0, rfl, _⟩ := hB.row.slice
  refine ⟨a, n, c, H', G, ?_, r1, x1, n1⟩
  rw [R_code hf]
  simp [m50, ld_at hat, e1]

/-- Not in time, or no room. -/
theorem R_cput_form (hf : mp 43 = some (.code m43)) (h : ClkA t q now ps H F) {k d : Int} (hk : k < now ∨ 1000000 < k) :
    ∃ H', R mp 43 [.pointer (some ⟨t, 0, none⟩), .agg #[.int .i64 k, .int .i64 d]] H = some (.int .i64 10, H') ∧ ClkA t q now ps H' F ∧ Ext H H' := by
  have e1 : Ext H (H ++ [.cells ⟨0, true, false⟩ [.int .i64 k, .int .i64 d]]) := ⟨_, rfl⟩
  have h1 := ClkA.good.ext h e1
  obtain ⟨v, h2, _⟩ := h1
  have hat := star_at2 h2
  refine ⟨_, ?_, ClkA.good.ext h e1, e1⟩
  rw [R_code hf]
  by_cases hk1 : k < now
  · simp [m43, mdraw_plain, ldx, ld_at hat, hk1]
  · have hk2 : 1000000 < k := hk.resolve_left hk1
    simp [m43, mdraw_plain, ldx, ld_at hat, hk1, hk2]
theorem R_cput_full (hf : mp 43 = some (.code m43)) (h : ClkA t q now ps H F) {k d : Int} (hk : ¬ k < now) (hk2 : ¬ 1000000 < k) (hl : 64 ≤ ps.length) :
    ∃ H', R mp 43 [.pointer (some ⟨t, 0, none⟩), .agg #[.int .i64 k, .int .i64 d]] H = some (.int .i64 12, H') ∧ ClkA t q now ps H' F ∧ Ext H H' := by
  have e1 : Ext H (H ++ [.cells ⟨0, true, false⟩ [.int .i64 k, .int .i64 d]]) := ⟨_, rfl⟩
  have h1 := ClkA.good.ext h e1
  obtain ⟨v, h2, _⟩ := h1
  have hat := star_at2 h2
  obtain ⟨hc, _, _⟩ := at_set (o' := .dead) (Pt.good.star OwnP.good) h2
  have hs := sel_full (v := unit) (z := unit) hc (by simp; omega)
  refine ⟨_, ?_, ClkA.good.ext h e1, e1⟩
  simp [unit] at hs
  rw [R_code hf]
  simp [m43, mdraw_plain, ldx, ld_at hat, hk, hk2, hs]
theorem cput_loop {v : Value} {k d : Int} {bx m : Nat} {ix : Info} (hs : ps.Pairwise fun a b => a.1 ≤ b.1) (hl : ps.length ≤ 1000) (h : Clk0 t q now v ps m H F) (hx : H[bx]? = some (.cells ix [.int .i64 k, .int .i64 d])) :
    ∀ (i : Nat), i ≤ ps.length → (∀ j p, i ≤ j → ps[j]? = some p → k < p.1) →
    (Rc mp (.loop m43_0) [(0, .pointer (some ⟨t, 0, none⟩)), (3, .pointer (some ⟨bx, 0, none⟩)), (5, .int .i64 (i : Int))] H = some (.exit 1, [(0, .pointer (some ⟨t, 0, none⟩)), (3, .pointer (some ⟨bx, 0, none⟩)), (5, .int .i64 (posR k ps : Int)), (32, .bool false)], H)) ∨
    (Rc mp (.loop m43_0) [(0, .pointer (some ⟨t, 0, none⟩)), (3, .pointer (some ⟨bx, 0, none⟩)), (5, .int .i64 (i : Int))] H = some (.exit 1, [(0, .pointer (some ⟨t, 0, none⟩)), (3, .pointer (some ⟨bx, 0, none⟩)), (5, .int .i64 (posR k ps : Int)), (44, .bool true)], H))
  | 0, hi, hb => by
    have : posR k ps = 0 := posR_of (by omega) (fun j p hj => by omega) (fun p hp => hb 0 p (by omega) hp)
    refine .inl ?_
    rw [this, Rc_loop]
    simp [m43_0]
  | i + 1, hi, hb => by
    have hat := star_at2 h
    obtain ⟨A, hA, _⟩ := star_l h
    obtain ⟨B, hB, _⟩ := star_r hA
    obtain ⟨a, n, c, rfl, _⟩ := hB.row.slice
    have hn := hB.row.prn
    obtain ⟨p, hp⟩ : ∃ p, ps[i]? = some p := ⟨_, List.getElem?_eq_getElem (by omega)⟩
    obtain ⟨_, b, o, j, cs, rfl, hb', h1, h2, h3⟩ := hB.row.pr hp
    have w : IntKind.i64.wrap ((i : Int) + 1 - 1) = (i : Int) := by rw [wrap_i64 (by omega) (by omega)]; omega
    have w' : IntKind.i64.wrap (i : Int) = (i : Int) := wrap_i64 (by omega) (by omega)
    have hin : i < n := by omega
    have h0 : (0 : Int) < (i : Int) + 1 := by omega
    by_cases hk : p.1 ≤ k
    · refine .inr ?_
      have : posR k ps = i + 1 := by
        refine posR_of (by omega) (fun j p' hj hp' => ?_) (fun p' hp' => hb (i + 1) p' (by omega) hp')
        rcases Nat.lt_or_ge j i with h | h
        · have hjl := (List.getElem?_eq_some_iff.1 hp').1
          have := List.pairwise_iff_getElem.1 hs j i hjl (by omega) h
          rw [(List.getElem?_eq_some_iff.1 hp').2, (List.getElem?_eq_some_iff.1 hp).2] at this
          omega
        · have : j = i := by omega
          subst this
          rw [hp] at hp'; cases hp'; exact hk
      rw [this, Rc_loop]
      simp [m43_0, mdraw_plain, ld_at hat, ld_at hb', h1, ld_at hx, hk, w, w', hin, h0]
    · have := cput_loop hs hl h hx i (by omega) (fun j p' hj hp' => by
        rcases Nat.lt_or_ge i j with h | h
        · exact hb j p' (by omega) hp'
        · have : j = i := by omega
          subst this
          rw [hp] at hp'; cases hp'; omega)
      have step : Rc mp (.loop m43_0) [(0, .pointer (some ⟨t, 0, none⟩)), (3, .pointer (some ⟨bx, 0, none⟩)), (5, .int .i64 ((i + 1 : Nat) : Int))] H = Rc mp (.loop m43_0) [(0, .pointer (some ⟨t, 0, none⟩)), (3, .pointer (some ⟨bx, 0, none⟩)), (5, .int .i64 (i : Int))] H := by
        rw [Rc_loop]
        simp [m43_0, mdraw_plain, ld_at hat, ld_at hb', h1, ld_at hx, hk, w, w', hin, h0]
      rw [step]
      exact this

theorem R_cput (hf : mp 43 = some (.code m43)) (h75 : mp 75 = some (.intr (insertS 2))) (h : ClkA t q now ps H F) {k d : Int} (hk : now ≤ k) (hk2 : k ≤ 1000000) (hl : ps.length < 64) :
    ∃ H' F', R mp 43 [.pointer (some ⟨t, 0, none⟩), .agg #[.int .i64 k, .int .i64 d]] H = some (.int .i64 0, H') ∧ ClkA t q now (putAt ps (posR k ps) (k, d)) H' F' ∧ Upd H F H' F' := by
  have hple := posR_le k ps
  have e1 : Ext H (H ++ [.cells ⟨0, true, false⟩ [.int .i64 k, .int .i64 d]]) := ⟨_, rfl⟩
  obtain ⟨v, h1, _, hin, h0, h01⟩ := h
  have hlt := Clk0.good.lt h1
  have h2 := Clk0.good.ext h1 e1
  have hat := star_at2 h2
  obtain ⟨hc, h3, u3⟩ := at_set (o' := .chan 64 (List.replicate (ps.length + 1) unit)) (Pt.good.star OwnP.good) h2
  have hs := sel_room (v := unit) (z := unit) hc (by simp; omega)
  rw [show List.replicate ps.length unit ++ [unit] = List.replicate (ps.length + 1) unit from (List.replicate_succ' ..).symm] at hs
  have hbx : (H ++ [MObj.cells ⟨0, true, false⟩ [.int .i64 k, .int .i64 d]])[H.length]? = some (.cells ⟨0, true, false⟩ [.int .i64 k, .int .i64 d]) := by simp
  have hbx3 := u3.get hbx (fun hh => by have := hlt _ hh; omega)
  generalize hH3 : (H ++ [MObj.cells ⟨0, true, false⟩ [.int .i64 k, .int .i64 d]]).set q (.chan 64 (List.replicate (ps.length + 1) unit)) = H3 at *
  have h3' : Clk0 t q now v ps (ps.length + 1) H3 F := h3
  have hat3 := star_at2 h3
  obtain ⟨A, hA, _⟩ := star_l h3
  obtain ⟨B, hB, _⟩ := star_r hA
  obtain ⟨a, n, c, rfl, _⟩ := hB.row.slice
  have hn := hB.row.prn
  have hloop := cput_loop (mp := mp) (k := k) (d := d) hin.sorted (by omega) h3' hbx3 ps.length (Nat.le_refl _) (fun j p hj hp => by rw [List.getElem?_eq_none (by omega)] at hp; cases hp)
  obtain ⟨v', H4, H', F', a1, a2, a3, a4⟩ := ins_fld (mp := mp) (f := 75) (k := 1) h75 At.good h3 rfl (by simp) hple (by omega) (k, d)
  refine ⟨H', F', ?_, ⟨v', ?_, by rw [putAt_len hple]; omega, hin.put hk hk2, h0, h01⟩, ((Upd.ext e1).trans u3).trans a4⟩
  · simp [unit] at hs
    simp at a1 a2 hloop
    subst hn
    have g1 : ¬ k < now := by omega
    have g2 : ¬ 1000000 < k := by omega
    have hat4 : (H3 ++ [MObj.dead])[t]? = _ := get_app hat3
    have hbx4 : (H3 ++ [MObj.dead])[H.length]? = _ := get_app hbx3
    rw [R_code hf]
    rcases hloop with hloop | hloop
    · simp [m43, mdraw_plain, mdraw_full, ldx, ldnx, hbx, ld_at hat, g1, g2, hs, ld_at hat3, hloop, hbx3, hat4, hbx4, a1, a2]
    · simp [m43, mdraw_plain, mdraw_full, ldx, ldnx, hbx, ld_at hat, g1, g2, hs, ld_at hat3, hloop, hbx3, hat4, hbx4, a1, a2]
  · unfold Clk0
    rw [putAt_len hple]
    exact a3

theorem cleave_loop {v : Value} {n : Nat} (hn : n ≤ 1000) : ∀ (k i m : Nat) (H : MH) (F : List Nat), i + k = n → k ≤ m → Clk0 t q now v ps m H F →
    ∃ (H' : MH) (F' : List Nat), Rc mp (.loop m78_0) [(0, .pointer (some ⟨t, 0, none⟩)), (18, .int .i64 (n : Int)), (19, .int .i64 (i : Int))] H =
      some (.exit 0, [(0, .pointer (some ⟨t, 0, none⟩)), (18, .int .i64 (n : Int)), (19, .int .i64 (n : Int)), (20, .bool false)], H') ∧ Clk0 t q now v ps (m - k) H' F' ∧ Upd H F H' F'
  | 0, i, m, H, F, hk, hm, h => by
    have : i = n := by omega
    subst this
    refine ⟨H, F, ?_, by simpa using h, Upd.refl _ _⟩
    rw [Rc_loop]
    simp [m78_0]
  | k + 1, i, 0, H, F, hk, hm, h => by omega
  | k + 1, i, m + 1, H, F, hk, hm, h => by
    have hat := star_at2 h
    obtain ⟨hc, h3, u3⟩ := at_set (o' := .chan 64 (List.replicate m unit)) (Pt.good.star OwnP.good) h
    obtain ⟨H', F', f1, f2, f3⟩ := cleave_loop hn k (i + 1) m _ F (by omega) (by omega) h3
    refine ⟨H', F', ?_, by rw [show m + 1 - (k + 1) = m - k by omega]; exact f2, u3.trans f3⟩
    have hr := rcv_at (z := unit) hc
    have hin : i < n := by omega
    have w : IntKind.i64.wrap ((i : Int) + 1) = (i : Int) + 1 := wrap_i64 (by omega) (by omega)
    simp [unit] at hr f1
    rw [Rc_loop]
    simp [m78_0, hin, ld_at hat, hr, w]
    exact f1
theorem R_cleave (hf : mp 78 = some (.code m78)) (h96 : mp 96 = some (.code (cDelete 2 16 [.int .i64 0, .int .i64 0]))) {v : Value} {m x n : Nat} (h : Clk0 t q now v ps m H F) (hx : x + n ≤ ps.length) (hm : n ≤ m) (hl : ps.length ≤ 1000) :
    ∃ v' H' F', R mp 78 [.pointer (some ⟨t, 0, none⟩), .int .i64 (x : Int), .int .i64 (n : Int)] H = some (.tuple #[], H') ∧ Clk0 t q now v' (ps.take x ++ ps.drop (x + n)) (m - n) H' F' ∧ Upd H F H' F' := by
  have hat := star_at2 h
  obtain ⟨A, hA, _⟩ := star_l h
  obtain ⟨B, hB, _⟩ := star_r hA
  obtain ⟨v', H1, H2, F2, a1, a2, a3, a4⟩ := del_fldp (mp := mp) (f := 96) (k := 1) (x := x) (y := x + n) h96 At.good h rfl (by simp) (by omega) hx (by omega)
  obtain ⟨H3, F3, b1, b2, b3⟩ := cleave_loop (mp := mp) (n := n) (by omega) n 0 m H2 F2 (by omega) hm (show Clk0 t q now v' (ps.take x ++ ps.drop (x + n)) m H2 F2 from a3)
  refine ⟨v', H3, F3, ?_, b2, a4.trans b3⟩
  obtain ⟨a, n', c, rfl, _⟩ := hB.row.slice
  have w : IntKind.i64.wrap ((x : Int) + (n : Int)) = (x : Int) + (n : Int) := wrap_i64 (by omega) (by omega)
  simp at a1 a2 b1
  rw [R_code hf]
  simp [m78, ld_at hat, w, a1, a2, b1]
theorem R_cdrop (hf : mp 45 = some (.code m45)) (h78 : mp 78 = some (.code m78)) (h96 : mp 96 = some (.code (cDelete 2 16 [.int .i64 0, .int .i64 0]))) (h76 : mp 76 = some (.code cIxf)) (h77 : mp 77 = some (.code cIsID)) (h : ClkA t q now ps H F) (x : Int) :
    ∃ H' F' ps', R mp 45 [.pointer (some ⟨t, 0, none⟩), .int .i64 x] H = some (.bool (decide (x ∈ idsR ps)), H') ∧ ClkA t q now ps' H' F' ∧ Upd H F H' F' ∧
      ((x ∉ idsR ps ∧ ps' = ps) ∨ ∃ q : Nat, (idsR ps)[q]? = some x ∧ (∀ j, j < q → (idsR ps)[j]? ≠ some x) ∧ ps' = ps.eraseIdx q) := by
  obtain ⟨v, h, hl, hin, h0, h01⟩ := h
  have hat := star_at2 h
  obtain ⟨A, hA, _⟩ := star_l h
  obtain ⟨B, hB, _⟩ := star_r hA
  obtain ⟨a, n, c, rfl, _⟩ := hB.row.slice
  have hn := hB.row.prn
  have e1 : Ext H (H ++ [.cells ⟨0, true, false⟩ [.int .i64 x]]) := ⟨_, rfl⟩
  obtain ⟨X, hX⟩ := R_ixf (mp := mp) (f := 76) (g := 77) (bx := H.length) (x := x) (ix := ⟨0, true, false⟩) h76 h77 (e1.row hB.row) (by omega) (by simp)
  have e : Ext H (H ++ [.cells ⟨0, true, false⟩ [.int .i64 x]] ++ X) := e1.trans ⟨_, rfl⟩
  have hat1 := e1.get hat
  have h2 := Clk0.good.ext h e
  by_cases hm : x ∈ idsR ps
  · obtain ⟨p, hq, hqb, hlt⟩ := first_at hm
    rw [idsR_len] at hlt
    obtain ⟨v', H', F', a1, a2, a3⟩ := R_cleave (mp := mp) (x := p) (n := 1) h78 h96 h2 (by omega) (by omega) (by omega)
    have hlen : (ps.eraseIdx p).length = ps.length - 1 := by rw [List.length_eraseIdx, if_pos hlt]
    rw [← List.eraseIdx_eq_take_drop_succ, ← hlen] at a2
    refine ⟨H', F', ps.eraseIdx p, ?_, ⟨v', a2, by omega, ⟨hin.sorted.sublist (List.eraseIdx_sublist ..), fun y hy => hin.bound y (List.mem_of_mem_eraseIdx hy)⟩, h0, h01⟩, (Upd.ext e).trans a3, .inr ⟨p, hq, hqb, rfl⟩⟩
    have hix := ixOf_some hq hqb
    change ixOf x (List.map (fun x => x.2) ps) = _ at hix
    rw [hix] at hX
    simp at a1 hX
    have hlt0 : ¬ (p : Int) < 0 := by omega
    rw [R_code hf]
    simp [m45, ld_at hat1, hX, hlt0, a1, hm]
  · refine ⟨_, F, ps, ?_, ⟨_, h2, hl, hin, h0, h01⟩, Upd.ext e, .inl ⟨hm, rfl⟩⟩
    have hix : ixOf x (List.map (fun x => x.2) ps) = -1 := ixOf_none fun j hj => hm (List.mem_of_getElem? hj)
    rw [hix] at hX
    simp at hX
    rw [R_code hf]
    simp [m45, ld_at hat1, hX, hm]

theorem cstep_loop {a : Option Addr} {n c m : Nat} (hl : ps.length ≤ 1000) : ∀ (z i : Nat) (H : MH) (ao : Option Addr) (no co : Nat) (G : List Nat), ps.length - i = z → i ≤ ps.length → Clk0 t q now (.slice a n c) ps m H F → (∀ id ∈ F, id ∉ G) → OwnA 1 (.slice ao no co) (i64s ((idsR ps).take i)) H G → (∀ j p, j < i → ps[j]? = some p → p.1 ≤ now) →
    ∃ (a' : Option Addr) (n' c' : Nat) (H' : MH) (G' : List Nat), OwnA 1 (.slice a' n' c') (i64s ((idsR ps).take (posR now ps))) H' G' ∧ Upd H G H' G' ∧
      (Rc mp (.loop m47_0) [(0, .pointer (some ⟨t, 0, none⟩)), (3, .slice ao no co), (9, .slice a n c), (10, .int .i64 (n : Int)), (11, .int .i64 (i : Int))] H =
        some (.exit 0, [(0, .pointer (some ⟨t, 0, none⟩)), (3, .slice a' n' c'), (9, .slice a n c), (10, .int .i64 (n : Int)), (11, .int .i64 (n : Int)), (12, .bool false)], H') ∨
      ∃ bx j : Nat, Rc mp (.loop m47_0) [(0, .pointer (some ⟨t, 0, none⟩)), (3, .slice ao no co), (9, .slice a n c), (10, .int .i64 (n : Int)), (11, .int .i64 (i : Int))] H =
        some (.exit 0, [(0, .pointer (some ⟨t, 0, none⟩)), (3, .slice a' n' c'), (5, .pointer (some ⟨bx, 0, none⟩)), (9, .slice a n c), (10, .int .i64 (n : Int)), (11, .int .i64 (j : Int)), (21, .bool true)], H')) := by
  intro z
  induction z with
  | zero =>
    intro i H ao no co G hz hi h hd ho hb
    obtain ⟨A, hA, _⟩ := star_l h
    obtain ⟨B, hB, _⟩ := star_r hA
    have hn := hB.row.prn
    have hin : i = n := by omega
    subst hin
    have hp : posR now ps = i := posR_of (by omega) (fun j p hj => hb j p (by omega)) (fun p hp => by rw [List.getElem?_eq_none (by omega)] at hp; cases hp)
    refine ⟨ao, no, co, H, G, by rw [hp]; exact ho, Upd.refl _ _, .inl ?_⟩
    rw [Rc_loop]
    simp [m47_0]
  | succ z ih =>
    intro i H ao no co G hz hi h hd ho hb
    have hat := star_at2 h
    obtain ⟨A, hA, _⟩ := star_l h
    obtain ⟨B, hB, _⟩ := star_r hA
    have hn := hB.row.prn
    have hil : i < n := by omega
    obtain ⟨p, hp⟩ : ∃ p, ps[i]? = some p := ⟨_, List.getElem?_eq_getElem (by omega)⟩
    obtain ⟨_, b, o, j, cs, rfl, hB', h1, h2, h3⟩ := hB.row.pr hp
    have e1 : Ext H (H ++ [.cells ⟨0, true, false⟩ [.int .i64 p.1, .int .i64 p.2]]) := ⟨_, rfl⟩
    have hat1 := e1.get hat
    by_cases hk : now < p.1
    · have hpr : posR now ps = i := posR_of (by omega) hb fun p' hp' => by rw [hp] at hp'; cases hp'; exact hk
      refine ⟨ao, no, co, _, G, by rw [hpr]; exact OwnA.good.ext ho e1, Upd.ext e1, .inr ⟨H.length, i, ?_⟩⟩
      rw [Rc_loop]
      simp [m47_0, hil, h3, stx, ldx, hat1, mdraw_plain, hk]
    · have hlen : (i64s ((idsR ps).take i)).length = i := by rw [i64s_len, List.length_take, idsR_len]; omega
      obtain ⟨a2, n2, c2, H2, G2, q1, q2, q3⟩ := own_push1 (es := 1) (bytes := 8) (xs := [.int .i64 p.2]) (OwnA.good.ext ho e1) (i64s_one _) rfl rfl (by omega) (by rw [hlen]; omega) (by omega)
      have hget : (idsR ps)[i]? = some p.2 := ids_get hp
      rw [i64s_snoc, show (idsR ps).take i ++ [p.2] = (idsR ps).take (i + 1) from by rw [List.take_add_one, hget]; rfl] at q2
      have u : Upd H G H2 G2 := (Upd.ext e1).trans q3
      obtain ⟨h', hd'⟩ := Clk0.good.upd h hd u
      obtain ⟨a', n', c', H', G', f2, f3, f1⟩ := ih (i + 1) H2 a2 n2 c2 G2 (by omega) (by omega) h' hd' q2 (fun j p' hj hp' => by
        rcases Nat.lt_or_ge j i with h | h
        · exact hb j p' h hp'
        · have : j = i := by omega
          subst this
          rw [hp] at hp'; cases hp'; omega)
      refine ⟨a', n', c', H', G', f2, u.trans f3, ?_⟩
      have w : IntKind.i64.wrap ((i : Int) + 1) = (i : Int) + 1 := wrap_i64 (by omega) (by omega)
      simp at q1
      have step : Rc mp (.loop m47_0) [(0, .pointer (some ⟨t, 0, none⟩)), (3, .slice ao no co), (9, .slice (some ⟨b, o, none⟩) n c), (10, .int .i64 (n : Int)), (11, .int .i64 (i : Int))] H =
          Rc mp (.loop m47_0) [(0, .pointer (some ⟨t, 0, none⟩)), (3, .slice a2 n2 c2), (9, .slice (some ⟨b, o, none⟩) n c), (10, .int .i64 (n : Int)), (11, .int .i64 ((i + 1 : Nat) : Int))] H2 := by
        rw [Rc_loop]
        simp [m47_0, hil, h3, stx, ldx, hat1, mdraw_plain, hk, w, q1]
      rw [step]
      exact f1
theorem R_cstep (hf : mp 47 = some (.code m47)) (h78 : mp 78 = some (.code m78)) (h96 : mp 96 = some (.code (cDelete 2 16 [.int .i64 0, .int .i64 0]))) (h : ClkA t q now ps H F) :
    ∃ a n c H' F' G, R mp 47 [.pointer (some ⟨t, 0, none⟩)] H = some (.slice a n c, H') ∧ ClkA t q (min (now + 1) 1000000) (ps.drop (posR now ps)) H' F' ∧ OwnA 1 (.slice a n c) (i64s ((idsR ps).take (posR now ps))) H' G ∧ (∀ id ∈ G, id ∉ F') ∧ Upd H F H' F' ∧ ∀ id ∈ G, H.length ≤ id := by
  obtain ⟨v, h, hl, hin, h0, h01⟩ := h
  have hple := posR_le now ps
  have hat := star_at2 h
  obtain ⟨A, hA, _⟩ := star_l h
  obtain ⟨B, hB, _⟩ := star_r hA
  obtain ⟨a, n, c, rfl, _⟩ := hB.row.slice
  obtain ⟨a', n', c', H1, G, o1, u1, hloop⟩ := cstep_loop (mp := mp) (a := a) (n := n) (c := c) (ps := ps) (by omega) ps.length 0 H none 0 0 [] rfl (by omega) h (by simp) (.inl ⟨rfl, rfl, rfl⟩) (fun j p hj => by omega)
  obtain ⟨x1, n1⟩ := u1.toExt
  have h1 := Clk0.good.ext h x1
  have hn' := (Own.row o1).i64n
  have hlen : ((idsR ps).take (posR now ps)).length = posR now ps := by rw [List.length_take, idsR_len]; omega
  rw [hlen] at hn'
  obtain ⟨v2, H2, F2, a2, b2, u2⟩ := R_cleave (mp := mp) (x := 0) (n := posR now ps) h78 h96 h1 (by omega) (by omega) (by omega)
  have dis1 : ∀ id ∈ G, id ∉ F := fun id hid hf => by have := n1 id hid; have := Clk0.good.lt h id hf; omega
  obtain ⟨o2, dis2⟩ := OwnA.good.upd o1 dis1 u2
  have hat2 := star_at2 b2
  obtain ⟨H3, e3, p3, u3⟩ := fld_put2 (n := 0) (v := .int .i64 (min (now + 1) 1000000)) OwnP.good At.good b2 rfl (by simp) rfl
  obtain ⟨o3, dis3⟩ := OwnA.good.upd o2 dis2 u3
  refine ⟨a', n', c', H3, F2, G, ?_, ⟨v2, ?_, by simp; omega, ⟨hin.sorted.sublist (List.drop_sublist ..), fun p hp => ?_⟩, by omega, by omega⟩, o3, dis3, ((Upd.ext x1).trans u2).trans u3, n1⟩
  · have w : IntKind.i64.wrap (now + 1) = now + 1 := wrap_i64 (by omega) (by omega)
    simp at a2 e3
    rw [← hn'] at a2
    rw [R_code hf]
    have hn0 := hB.row.prn
    rcases hloop with hloop | ⟨bx, j, hloop⟩
    · simp at hloop
      simp [m47, ld_at hat, hloop, a2, ld_at hat2, w, e3]
    · simp at hloop
      simp [m47, ld_at hat, hloop, a2, ld_at hat2, w, e3]
  · unfold Clk0
    simp at p3
    simpa using p3
  · have hb := hin.bound p (List.mem_of_mem_drop hp)
    obtain ⟨j, hj⟩ := List.mem_iff_getElem?.1 hp
    rw [List.getElem?_drop] at hj
    have hjl := (List.getElem?_eq_some_iff.1 hj).1
    have : now < p.1 := by
      rcases Nat.eq_zero_or_pos j with h0 | h0
      · subst h0; exact posR_at hj
      · have h1 := posR_at (k := now) (List.getElem?_eq_getElem (l := ps) (i := posR now ps) (by omega))
        have h2 := List.pairwise_iff_getElem.1 hin.sorted (posR now ps) (posR now ps + j) (by omega) hjl (by omega)
        rw [(List.getElem?_eq_some_iff.1 hj).2] at h2
        omega
    omega
end
end Go.Mod

/- The reference's clock: drops, steps; are two rows the same. -/
import Derived.Test.YtpdkmcnoidbjoaaClockU
set_option linter.unusedVariables false
set_option linter.unusedSimpArgs false
namespace Go.Mod
open Go.Proofs

section
variable {mp : FuncId → Option MDef} {u : Nat} {ps : List (Int × Int)} {x now : Int} {H : MH} {F : List Nat}
theorem ddrop_loop {v : Value} (h : RefC0 u now v ps H F) (hl : ps.length ≤ 1000) : ∀ (k i : Nat), ps.length - i = k → i ≤ ps.length → (∀ j, j < i → (idsR ps)[j]? ≠ some x) →
    (∃ (q : Nat) (H' : MH) (F' : List Nat) (v' : Value), (idsR ps)[q]? = some x ∧ (∀ j, j < q → (idsR ps)[j]? ≠ some x) ∧ Rc mp (.loop m46_0) [(0, .pointer (some ⟨u, 0, none⟩)), (1, .int .i64 x), (5, .int .i64 (i : Int))] H = some (.ret, [(4, .bool true)], H') ∧ RefC0 u now v' (ps.eraseIdx q) H' F' ∧ Upd H F H' F') ∨
    ((∀ j : Nat, (idsR ps)[j]? ≠ some x) ∧ Rc mp (.loop m46_0) [(0, .pointer (some ⟨u, 0, none⟩)), (1, .int .i64 x), (5, .int .i64 (i : Int))] H = some (.exit 0, [(0, .pointer (some ⟨u, 0, none⟩)), (1, .int .i64 x), (5, .int .i64 (ps.length : Int)), (12, .bool false)], H)) := by
  have hat := star_at h
  obtain ⟨B, hB, _⟩ := star_r h
  obtain ⟨a, n, c, rfl, _⟩ := hB.1.slice
  have hn := hB.1.prn
  intro k
  induction k with
  | zero =>
    intro i hk hi hb
    have hin : i = n := by omega
    subst hin
    refine .inr ⟨fun j => ?_, ?_⟩
    · rcases Nat.lt_or_ge j ps.length with h | h
      · exact hb j (by omega)
      · rw [List.getElem?_eq_none (by rw [idsR_len]; omega)]; simp
    · rw [Rc_loop, ← hn]
      simp [m46_0, ld_at hat]
  | succ k ih =>
    intro i hk hi hb
    have hil : i < n := by omega
    obtain ⟨p, hp⟩ : ∃ p, ps[i]? = some p := ⟨_, List.getElem?_eq_getElem (by omega)⟩
    have hrow := hB.1
    obtain ⟨_, b, o, j, cs, rfl, hb', h1, h2, h3⟩ := hrow.pr hp
    have hget : (idsR ps)[i]? = some p.2 := ids_get hp
    by_cases hxy : p.2 = x
    · rcases hrow with ⟨g1, g2⟩ | ⟨b', o', n', c', i', cs', g1, g2, g3, g4, g5, g6⟩
      · cases g1
      cases g1
      rw [hb'] at g3; cases g3
      have r1 : Row 2 H (.slice (some ⟨b, o + 0 * 2, none⟩) (i - 0) (c - 0)) (prv (ps.take i)) := by
        refine Row.part2 hb' g4 (by omega) (by omega) ?_
        rw [← prv_take, ← g6, List.take_take, Nat.min_eq_left (by omega)]; simp
      obtain ⟨v2, H2, G2, e3, o2, x2, n2⟩ := own_new (bytes := 16) r1 (prv_one _) (by omega) (by rw [prv_len]; simp; omega) (by omega)
      have hb2 := x2.get hb'
      have r2 : Row 2 H2 (.slice (some ⟨b, o + (i + 1) * 2, none⟩) (n - (i + 1)) (c - (i + 1))) (prv (ps.drop (i + 1))) := by
        refine Row.part2 hb2 g4 (by omega) (by omega) ?_
        rw [← prv_drop, ← g6, ← List.drop_drop, List.drop_take, Nat.sub_mul]
      obtain ⟨v3, H3, G3, e4, o3, u3⟩ := own_appU (bytes := 16) o2 (prv_one _) r2 (prv_one _) (by omega) (by rw [prv_len, prv_len]; simp; omega) (by omega)
      rw [← prv_app, ← List.eraseIdx_eq_take_drop_succ] at o3
      have x3 : Ext H H3 := x2.of_fp (S := fun id => id ∈ G2) ⟨u3.len, fun id h1 h2 => u3.same id h1 h2⟩ n2
      have n3 : ∀ id ∈ G3, H.length ≤ id := fun id hid => by
        rcases u3.new id hid with h | h
        · exact n2 id h
        · have := x2.len; omega
      obtain ⟨F4, h8, u4⟩ := star_swap Pt.good h x3 (OwnA.row o3) n3
      obtain ⟨a3, k3, c3, rfl, _⟩ := (Own.row o3).slice
      obtain ⟨a2, k2, c2, rfl, _⟩ := (Own.row o2).slice
      obtain ⟨H5, e5, p5, u5⟩ := fld_put (n := 0) (v := .slice a3 k3 c3) RowA.good h8 rfl (by simp) rfl
      refine .inl ⟨i, H5, F4, _, by rw [hget, hxy], hb, ?_, p5, u4.trans u5⟩
      have w : IntKind.i64.wrap ((i : Int) + 1) = (i : Int) + 1 := wrap_i64 (by omega) (by omega)
      have k1 : i ≤ c := by omega
      have k2 : (i : Int) + 1 ≤ (n : Int) := by omega
      have k3 : (0 : Int) ≤ (i : Int) + 1 := by omega
      have k4 : ((i : Int) + 1).toNat = i + 1 := by omega
      have hat2 := x2.get hat
      simp at e3 e4 e5
      rw [Rc_loop]
      simp [m46_0, hil, ld_at hat, ld_at hb', h2, hxy, mdraw_full, ld_at hat2, sl_at hb' g4, sl_at hb2 g4, k1, k2, k3, k4, w, e3, e4, e5]
    · have w : IntKind.i64.wrap ((i : Int) + 1) = (i : Int) + 1 := wrap_i64 (by omega) (by omega)
      have step : Rc mp (.loop m46_0) [(0, .pointer (some ⟨u, 0, none⟩)), (1, .int .i64 x), (5, .int .i64 (i : Int))] H = Rc mp (.loop m46_0) [(0, .pointer (some ⟨u, 0, none⟩)), (1, .int .i64 x), (5, .int .i64 ((i + 1 : Nat) : Int))] H := by
        rw [Rc_loop]
        simp [m46_0, hil, ld_at hat, ld_at hb', h2, hxy, w]
      rw [step]
      refine ih (i + 1) (by omega) (by omega) fun j hj => ?_
      rcases Nat.lt_or_ge j i with h | h
      · exact hb j h
      · have : j = i := by omega
        subst this
        rw [hget]; simp; exact hxy
theorem R_ddrop (hf : mp 46 = some (.code m46)) (h : RefC u now ps H F) (x : Int) :
    ∃ H' F' ps', R mp 46 [.pointer (some ⟨u, 0, none⟩), .int .i64 x] H = some (.bool (decide (x ∈ idsR ps)), H') ∧ RefC u now ps' H' F' ∧ Upd H F H' F' ∧
      ((x ∉ idsR ps ∧ ps' = ps) ∨ ∃ q : Nat, (idsR ps)[q]? = some x ∧ (∀ j, j < q → (idsR ps)[j]? ≠ some x) ∧ ps' = ps.eraseIdx q) := by
  obtain ⟨v, h, hl, hin, h0, h01⟩ := h
  rcases ddrop_loop (mp := mp) (x := x) h (by omega) ps.length 0 rfl (Nat.zero_le _) (fun j hj => by omega) with ⟨q, H', F', v', h1, h2, h3, h4, h5⟩ | ⟨h1, h2⟩
  · have hm : x ∈ idsR ps := List.mem_of_getElem? h1
    have hlt := (List.getElem?_eq_some_iff.1 h1).1
    rw [idsR_len] at hlt
    refine ⟨H', F', ps.eraseIdx q, ?_, ⟨v', h4, by rw [List.length_eraseIdx, if_pos hlt]; omega, ⟨hin.sorted.sublist (List.eraseIdx_sublist ..), fun y hy => hin.bound y (List.mem_of_mem_eraseIdx hy)⟩, h0, h01⟩, h5, .inr ⟨q, h1, h2, rfl⟩⟩
    simp at h3
    rw [R_code hf]
    simp [m46, h3, hm]
  · have hm : x ∉ idsR ps := fun h => by
      obtain ⟨j, hj⟩ := List.mem_iff_getElem?.1 h
      exact h1 j hj
    refine ⟨H, F, ps, ?_, ⟨v, h, hl, hin, h0, h01⟩, Upd.refl _ _, .inl ⟨hm, rfl⟩⟩
    simp at h2
    rw [R_code hf]
    simp [m46, h2, hm]

/-- A clock's row without its first. -/
theorem RowA.tail2 {v : Value} {p : Int × Int} (h : RowA 2 v (prv (p :: ps)) H F) : ∃ b o n c i cs, v = .slice (some ⟨b, o, none⟩) (n + 1) c ∧ n = ps.length ∧ H[b]? = some (.cells i cs) ∧ i.es = 2 ∧ cs[o]? = some (.int .i64 p.1) ∧ cs[o + 1]? = some (.int .i64 p.2) ∧ RowA 2 (.slice (some ⟨b, o + 2, none⟩) n (c - 1)) (prv ps) H F ∧ n + 1 ≤ c := by
  obtain ⟨h1, h2, h3⟩ := h
  obtain ⟨a, n, c, rfl, _⟩ := h1.slice
  obtain ⟨hn, b, o, j, cs, rfl, hb, g1, g2, g3⟩ := h1.pr (k := 0) rfl
  simp at hn g1 g2
  subst hn
  rcases h1 with ⟨h1, _⟩ | ⟨b', o', n', c', i', cs', k1, k2, k3, k4, k5, k6⟩
  · cases h1
  cases k1
  rw [hb] at k3; cases k3
  refine ⟨b, o, ps.length, c, _, cs, rfl, rfl, hb, k4, g1, g2, ⟨?_, fun b' o' n' c' e => by cases e; exact h2 _ _ _ _ rfl, h3⟩, k2⟩
  refine Row.part2 hb k4 (by omega) (by omega) ?_
  have := congrArg (List.drop 2) k6
  rw [List.drop_take, prv_cons] at this
  simp at this
  rw [show (ps.length + 1) * 2 - 2 = ps.length * 2 by omega] at this
  exact this
theorem dstep_loop : ∀ (ps : List (Int × Int)) (l0 : List Int) (H : MH) (F : List Nat) (v : Value) (ao : Option Addr) (no co : Nat) (G : List Nat), ps.length + l0.length ≤ 1000 → (∀ p ∈ ps, now ≤ p.1) → RefC0 u now v ps H F → (∀ id ∈ F, id ∉ G) → OwnA 1 (.slice ao no co) (i64s l0) H G →
    ∃ (a' : Option Addr) (n' c' : Nat) (H' : MH) (F' G' : List Nat) (v' : Value), Rc mp (.loop m48_0) [(0, .pointer (some ⟨u, 0, none⟩)), (3, .slice ao no co)] H =
        some (.exit 0, [(0, .pointer (some ⟨u, 0, none⟩)), (3, .slice a' n' c'), (23, .bool false)], H') ∧ OwnA 1 (.slice a' n' c') (i64s (l0 ++ (idsR ps).take (posR now ps))) H' G' ∧ RefC0 u now v' (ps.drop (posR now ps)) H' F' ∧ (∀ id ∈ F', id ∉ G') ∧ Upd H (F ++ G) H' (F' ++ G') := by
  intro ps
  induction ps with
  | nil =>
    intro l0 H F v ao no co G hl hb h hd ho
    have hat := star_at h
    obtain ⟨B, hB, _⟩ := star_r h
    obtain ⟨a, n, c, rfl, _⟩ := hB.1.slice
    have hn := hB.1.prn
    simp at hn
    subst hn
    refine ⟨ao, no, co, H, F, G, _, ?_, by simpa [posR_nil, idsR] using ho, by simpa [posR_nil] using h, hd, Upd.refl _ _⟩
    rw [Rc_loop]
    simp [m48_0, ld_at hat, mdraw_plain]
  | cons p ps ih =>
    intro l0 H F v ao no co G hl hb h hd ho
    have hat := star_at h
    obtain ⟨A, B, hA, hB, hAB, hF⟩ := h
    obtain ⟨b, o, n, c, i, cs, rfl, hn, hb', hes, h1, h2, ht, hnc⟩ := hB.tail2
    have h : RefC0 u now (.slice (some ⟨b, o, none⟩) (n + 1) c) (p :: ps) H F := ⟨A, B, hA, hB, hAB, hF⟩
    have hp : (0 : Int) < (n : Int) + 1 := by omega
    have hle := hb p (by simp)
    by_cases hk : now < p.1
    · have hpos : posR now (p :: ps) = 0 := by rw [posR_cons, if_pos hk]
      rw [hpos]
      have hne : ¬ p.1 = now := by omega
      refine ⟨ao, no, co, H, F, G, _, ?_, by simpa using ho, by simpa using h, hd, Upd.refl _ _⟩
      rw [Rc_loop]
      simp [m48_0, ld_at hat, mdraw_plain, hp, ld_at hb', h1, hne]
    · have heq : p.1 = now := by omega
      have hpos : posR now (p :: ps) = posR now ps + 1 := by rw [posR_cons, if_neg hk]
      rw [hpos]
      simp at hl
      obtain ⟨a2, n2, c2, H2, G2, q1, q2, q3⟩ := own_push1 (es := 1) (bytes := 8) (xs := [.int .i64 p.2]) ho (i64s_one _) rfl rfl (by omega) (by rw [i64s_len]; omega) (by omega)
      rw [i64s_snoc] at q2
      have h0 : RefC0 u now (.slice (some ⟨b, o, none⟩) (n + 1) c) (p :: ps) H F := h
      obtain ⟨hh, hd2⟩ := RefC0.good.upd h0 hd q3
      have hat2 := star_at hh
      obtain ⟨A2, B2, hA2, hB2, hAB2, hF2⟩ := hh
      obtain ⟨b', o', n', c', i', cs', e', hn', hb2, hes2, _, _, ht2, _⟩ := hB2.tail2
      cases e'
      obtain ⟨H3, e3, p3, u3⟩ := fld_put (n := 0) (v := .slice (some ⟨b, o + 2, none⟩) n (c - 1)) RowA.good (⟨A2, B2, hA2, ht2, hAB2, hF2⟩ : (Pt u ⟨0, true, false⟩ _ * RowA 2 (.slice (some ⟨b, o + 2, none⟩) n (c - 1)) (prv ps)) H2 F) rfl (by simp) rfl
      obtain ⟨o3, d3⟩ := OwnA.good.upd q2 (fun id hid hf => hd2 id hf hid) u3
      obtain ⟨a', n'', c'', H', F', G', v', f1, f2, f3, f4, f5⟩ := ih (l0 ++ [p.2]) H3 F _ a2 n2 c2 G2 (by simp; omega) (fun p' hp' => hb p' (by simp [hp'])) p3 (fun id hf hg => d3 id hg hf) o3
      have uu : Upd H (F ++ G) H3 (F ++ G2) := by
        refine ⟨Nat.le_trans q3.len u3.len, fun id h1 h2 => ?_, fun id hid => ?_⟩
        · simp at h2
          rw [u3.same id (by have := q3.len; omega) h2.1, q3.same id h1 h2.2]
        · rcases List.mem_append.1 hid with h | h
          · exact .inl (List.mem_append_left _ h)
          · exact (q3.new id h).imp (fun h => List.mem_append_right _ h) fun h => h
      refine ⟨a', n'', c'', H', F', G', v', ?_, by simpa [idsR] using f2, by simpa using f3, f4, uu.trans f5⟩
      have k1 : (1 : Int) ≤ (n : Int) + 1 := by omega
      rw [Rc_loop]
      simp [m48_0, ld_at hat, mdraw_plain, hp, ld_at hb', h1, h2, heq, q1, ld_at hat2, sl_at hb2 hes2, k1, e3]
      exact f1
theorem R_dstep (hf : mp 48 = some (.code m48)) (h : RefC u now ps H F) :
    ∃ a n c H' F' G, R mp 48 [.pointer (some ⟨u, 0, none⟩)] H = some (.slice a n c, H') ∧ RefC u (min (now + 1) 1000000) (ps.drop (posR now ps)) H' F' ∧ OwnA 1 (.slice a n c) (i64s ((idsR ps).take (posR now ps))) H' G ∧ Upd H F H' F' := by
  obtain ⟨v, h, hl, hin, h0, h01⟩ := h
  obtain ⟨a', n', c', H1, F1, G1, v1, f1, f2, f3, f4, f5⟩ := dstep_loop (mp := mp) (u := u) (now := now) ps [] H F v none 0 0 [] (by simp; omega) (fun p hp => (hin.bound p hp).1) h (by simp) (.inl ⟨rfl, rfl, rfl⟩)
  simp only [List.append_nil, List.nil_append] at f2 f5
  have hat := star_at f3
  obtain ⟨H3, e3, p3, u3⟩ := fld_put (n := 1) (v := .int .i64 (min (now + 1) 1000000)) RowA.good f3 rfl (by simp) rfl
  obtain ⟨o3, d3⟩ := OwnA.good.upd f2 (fun id hid hf => f4 id hf hid) u3
  have hple := posR_le now ps
  refine ⟨a', n', c', H3, F1, G1, ?_, ⟨v1, p3, by simp; omega, ⟨hin.sorted.sublist (List.drop_sublist ..), fun p hp => ?_⟩, by omega, by omega⟩, o3, ?_⟩
  · have w : IntKind.i64.wrap (now + 1) = now + 1 := wrap_i64 (by omega) (by omega)
    rw [R_code hf]
    simp [m48, f1, ld_at hat, w, e3]
  · have hb := hin.bound p (List.mem_of_mem_drop hp)
    obtain ⟨j, hj⟩ := List.mem_iff_getElem?.1 hp
    rw [List.getElem?_drop] at hj
    have hjl := (List.getElem?_eq_some_iff.1 hj).1
    have : now < p.1 := by
      rcases Nat.eq_zero_or_pos j with h0 | h0
      · subst h0; exact posR_at hj
      · have h1 := posR_at (k := now) (List.getElem?_eq_getElem (l := ps) (i := posR now ps) (by omega))
        have h2 := List.pairwise_iff_getElem.1 hin.sorted (posR now ps) (posR now ps + j) (by omega) hjl (by omega)
        rw [(List.getElem?_eq_some_iff.1 hj).2] at h2
        omega
    omega
  · refine ⟨Nat.le_trans f5.len u3.len, fun id h1 h2 => ?_, fun id hid => f5.new id (List.mem_append_left _ hid)⟩
    by_cases hf1 : id ∈ F1
    · rcases f5.new id (List.mem_append_left _ hf1) with h | h
      · exact absurd h h2
      · omega
    · rw [u3.same id (by have := f5.len; omega) hf1, f5.same id h1 h2]

theorem sameD_loop {a a' : Option Addr} {n c c' : Nat} (hr : Row 2 H (.slice a n c) (prv ps)) (hr' : Row 2 H (.slice a' n c') (prv ps)) (hl : ps.length ≤ 1000) : ∀ (k i : Nat), i + k = n →
    Rc mp (.loop m49_0) [(0, .slice a n c), (1, .slice a' n c'), (5, .int .i64 (i : Int))] H = some (.exit 0, [(0, .slice a n c), (1, .slice a' n c'), (5, .int .i64 (n : Int)), (14, .bool false)], H) := by
  intro k
  induction k with
  | zero =>
    intro i hk
    have : i = n := by omega
    subst this
    rw [Rc_loop]
    simp [m49_0]
  | succ k ih =>
    intro i hk
    have hil : i < n := by omega
    have hn := hr.prn
    obtain ⟨p, hp⟩ : ∃ p, ps[i]? = some p := ⟨_, List.getElem?_eq_getElem (by omega)⟩
    obtain ⟨_, b, o, j, cs, rfl, hb, _, _, h3⟩ := hr.pr hp
    obtain ⟨_, b', o', j', cs', rfl, hb', _, _, h3'⟩ := hr'.pr hp
    have w : IntKind.i64.wrap ((i : Int) + 1) = (i : Int) + 1 := wrap_i64 (by omega) (by omega)
    have := ih (i + 1) (by omega)
    simp at this
    have hq : ceqs [.int, .int] [Value.int .i64 p.1, Value.int .i64 p.2] [Value.int .i64 p.1, Value.int .i64 p.2] = some true := by simp [ceqs, ceq]
    rw [Rc_loop]
    simp [m49_0, hil, mdraw_plain, h3, h3', w, hq]
    exact this
theorem R_sameD (hf : mp 49 = some (.code m49)) {a a' : Option Addr} {n n' c c' : Nat} (hr : Row 2 H (.slice a n c) (prv ps)) (hr' : Row 2 H (.slice a' n' c') (prv ps)) (hl : ps.length ≤ 1000) :
    R mp 49 [.slice a n c, .slice a' n' c'] H = some (.bool true, H) := by
  have h1 := hr.prn
  have h2 := hr'.prn
  have : n' = n := by omega
  subst this
  have h := sameD_loop (mp := mp) hr hr' hl n' 0 (by omega)
  simp at h
  rw [R_code hf]
  simp [m49, h]
end
end Go.Mod

/- ClockPlays: the model's side. -/
import Derived.Test.YtpdkmcnoidbjoaaClockV
import Derived.Test.YtpdkmcnoidbjoaaClockQ
set_option linter.unusedVariables false
set_option linter.unusedSimpArgs false
namespace Go.Mod
open Go.Proofs

section
variable {H : MH} {F : List Nat} {t q u : Nat} {ps : List (Int × Int)} {now : Int}
/-- Both clocks, alike. -/
def TwoC (t q u : Nat) (now : Int) (ps : List (Int × Int)) : HP := ClkA t q now ps * RefC u now ps
theorem TwoC.good : Good (TwoC t q u now ps) := ClkA.good.star RefC.good
theorem twoC_upd {f g : FuncId} {xs ys : List Value} {r : Value} {now' : Int} {ps' : List (Int × Int)} (T : TwoC t q u now ps H F)
    (hx : ∀ A, ClkA t q now ps H A → ∃ H1 A', R mpCk f xs H = some (r, H1) ∧ ClkA t q now' ps' H1 A' ∧ Upd H A H1 A')
    (hy : ∀ H1 B, RefC u now ps H1 B → ∃ H2 B', R mpCk g ys H1 = some (r, H2) ∧ RefC u now' ps' H2 B' ∧ Upd H1 B H2 B') :
    ∃ H1 F1 H2 F2, R mpCk f xs H = some (r, H1) ∧ R mpCk g ys H1 = some (r, H2) ∧ TwoC t q u now' ps' H2 F2 ∧ Upd H F H1 F1 ∧ Upd H F H2 F2 := by
  obtain ⟨_, H1, F1, p1, u1, c1⟩ := star_upd (ι := Unit) (P' := fun _ => ClkA t q now' ps') (C := fun _ H1 => R mpCk f xs H = some (r, H1)) RefC.good (fun _ => ClkA.good) T (fun A hA _ => by
    obtain ⟨H1, A', h1, h2, h3⟩ := hx A hA
    exact ⟨(), H1, A', h2, h3, h1⟩)
  obtain ⟨_, H2, F2, p2, u2, c2⟩ := star_upd (ι := Unit) (P' := fun _ => RefC u now' ps') (C := fun _ H2 => R mpCk g ys H1 = some (r, H2)) ClkA.good (fun _ => RefC.good) (star_comm p1) (fun A hA _ => by
    obtain ⟨H2, A', h1, h2, h3⟩ := hy H1 A hA
    exact ⟨(), H2, A', h2, h3, h1⟩)
  exact ⟨H1, F1, H2, F2, c1, c2, star_comm p2, u1, u1.trans u2⟩
theorem twoC_put (T : TwoC t q u now ps H F) (k d : Int) :
    ∃ e ps' H1 F1 H2 F2, R mpCk 43 [.pointer (some ⟨t, 0, none⟩), .agg #[.int .i64 k, .int .i64 d]] H = some (.int .i64 e, H1) ∧ R mpCk 44 [.pointer (some ⟨u, 0, none⟩), .agg #[.int .i64 k, .int .i64 d]] H1 = some (.int .i64 e, H2) ∧ TwoC t q u now ps' H2 F2 ∧ Upd H F H1 F1 ∧ Upd H F H2 F2 := by
  by_cases hk : k < now ∨ 1000000 < k
  · obtain ⟨H1, F1, H2, F2, z⟩ := twoC_upd (f := 43) (g := 44) (xs := [.pointer (some ⟨t, 0, none⟩), .agg #[.int .i64 k, .int .i64 d]]) (ys := [.pointer (some ⟨u, 0, none⟩), .agg #[.int .i64 k, .int .i64 d]]) (r := .int .i64 10) (ps' := ps) (now' := now) T
      (fun A hA => by
        obtain ⟨H', h1, h2, h3⟩ := R_cput_form (mp := mpCk) rfl hA (d := d) hk
        exact ⟨H', A, h1, h2, Upd.ext h3⟩)
      (fun H1 B hB => by
        obtain ⟨H', h1, h2, h3⟩ := R_dput_form (mp := mpCk) rfl hB (d := d) hk
        exact ⟨H', B, h1, h2, Upd.ext h3⟩)
    exact ⟨10, ps, H1, F1, H2, F2, z⟩
  · by_cases h : 64 ≤ ps.length
    · obtain ⟨H1, F1, H2, F2, z⟩ := twoC_upd (f := 43) (g := 44) (xs := [.pointer (some ⟨t, 0, none⟩), .agg #[.int .i64 k, .int .i64 d]]) (ys := [.pointer (some ⟨u, 0, none⟩), .agg #[.int .i64 k, .int .i64 d]]) (r := .int .i64 12) (ps' := ps) (now' := now) T
        (fun A hA => by
          obtain ⟨H', h1, h2, h3⟩ := R_cput_full (mp := mpCk) rfl hA (k := k) (d := d) (by omega) (by omega) h
          exact ⟨H', A, h1, h2, Upd.ext h3⟩)
        (fun H1 B hB => by
          obtain ⟨H', h1, h2, h3⟩ := R_dput_full (mp := mpCk) rfl hB (k := k) (d := d) (by omega) (by omega) h
          exact ⟨H', B, h1, h2, Upd.ext h3⟩)
      exact ⟨12, ps, H1, F1, H2, F2, z⟩
    · obtain ⟨H1, F1, H2, F2, z⟩ := twoC_upd (f := 43) (g := 44) (xs := [.pointer (some ⟨t, 0, none⟩), .agg #[.int .i64 k, .int .i64 d]]) (ys := [.pointer (some ⟨u, 0, none⟩), .agg #[.int .i64 k, .int .i64 d]]) (r := .int .i64 0) (ps' := putAt ps (posR k ps) (k, d)) (now' := now) T
        (fun A hA => R_cput rfl rfl hA (by omega) (by omega) (by omega)) (fun H1 B hB => R_dput rfl hB (by omega) (by omega) (by omega))
      exact ⟨0, _, H1, F1, H2, F2, z⟩
theorem twoC_drop (T : TwoC t q u now ps H F) (d : Int) :
    ∃ e ps' H1 F1 H2 F2, R mpCk 45 [.pointer (some ⟨t, 0, none⟩), .int .i64 d] H = some (.bool e, H1) ∧ R mpCk 46 [.pointer (some ⟨u, 0, none⟩), .int .i64 d] H1 = some (.bool e, H2) ∧ TwoC t q u now ps' H2 F2 ∧ Upd H F H1 F1 ∧ Upd H F H2 F2 := by
  obtain ⟨ps', hps⟩ : ∃ ps' : List (Int × Int), (d ∉ idsR ps ∧ ps' = ps) ∨ ∃ q : Nat, (idsR ps)[q]? = some d ∧ (∀ j, j < q → (idsR ps)[j]? ≠ some d) ∧ ps' = ps.eraseIdx q := by
    by_cases hm : d ∈ idsR ps
    · obtain ⟨q, h1, h2, _⟩ := first_at hm
      exact ⟨_, .inr ⟨q, h1, h2, rfl⟩⟩
    · exact ⟨_, .inl ⟨hm, rfl⟩⟩
  have uq : ∀ ps2 : List (Int × Int), ((d ∉ idsR ps ∧ ps2 = ps) ∨ ∃ q : Nat, (idsR ps)[q]? = some d ∧ (∀ j, j < q → (idsR ps)[j]? ≠ some d) ∧ ps2 = ps.eraseIdx q) → ps2 = ps' := by
    intro ps2 h
    rcases h with ⟨h1, rfl⟩ | ⟨q, h1, h2, rfl⟩ <;> rcases hps with ⟨g1, rfl⟩ | ⟨q', g1, g2, rfl⟩
    · rfl
    · exact absurd (List.mem_of_getElem? g1) h1
    · exact absurd (List.mem_of_getElem? h1) g1
    · rw [first_uniq h1 h2 g1 g2]
  obtain ⟨H1, F1, H2, F2, z⟩ := twoC_upd (f := 45) (g := 46) (xs := [.pointer (some ⟨t, 0, none⟩), .int .i64 d]) (ys := [.pointer (some ⟨u, 0, none⟩), .int .i64 d]) (r := .bool (decide (d ∈ idsR ps))) (ps' := ps') (now' := now) T
    (fun A hA => by
      obtain ⟨H', F', ps2, h1, h2, h3, h4⟩ := R_cdrop (mp := mpCk) rfl rfl rfl rfl rfl hA d
      rw [uq ps2 h4] at h2
      exact ⟨H', F', h1, h2, h3⟩)
    (fun H1 B hB => by
      obtain ⟨H', F', ps2, h1, h2, h3, h4⟩ := R_ddrop (mp := mpCk) rfl hB d
      rw [uq ps2 h4] at h2
      exact ⟨H', F', h1, h2, h3⟩)
  exact ⟨_, ps', H1, F1, H2, F2, z⟩
theorem twoC_step (T : TwoC t q u now ps H F) :
    ∃ a1 n1 c1 a2 n2 c2 H1 H2 F2, R mpCk 47 [.pointer (some ⟨t, 0, none⟩)] H = some (.slice a1 n1 c1, H1) ∧ R mpCk 48 [.pointer (some ⟨u, 0, none⟩)] H1 = some (.slice a2 n2 c2, H2) ∧ R mpCk 38 [.slice a1 n1 c1, .slice a2 n2 c2] H2 = some (.bool true, H2) ∧
      TwoC t q u (min (now + 1) 1000000) (ps.drop (posR now ps)) H2 F2 ∧ Upd H F H2 F2 := by
  obtain ⟨A, B, hA, hB, hAB, hF⟩ := T
  have hlen : ps.length ≤ 64 := by obtain ⟨_, _, h, _⟩ := hA; exact h
  obtain ⟨a1, n1, c1, H1, A', G1, e1, g1, o1, d1, u1, m1⟩ := R_cstep (mp := mpCk) rfl rfl rfl hA
  obtain ⟨hB1, dB1⟩ := RefC.good.upd hB (fun id hb ha => hAB id ha hb) u1
  obtain ⟨a2, n2, c2, H2, B', G2, e2, g2, o2, u2⟩ := R_dstep (mp := mpCk) rfl hB1
  obtain ⟨hA2, dA2⟩ := ClkA.good.upd g1 (fun id ha hb => dB1 id hb ha) u2
  obtain ⟨o1', _⟩ := OwnA.good.upd o1 (fun id hg hb => by have := m1 id hg; have := RefC.good.lt hB id hb; omega) u2
  refine ⟨a1, n1, c1, a2, n2, c2, H1, H2, A' ++ B', e1, e2, R_same (mp := mpCk) rfl (Own.row o1') (Own.row o2) (by rw [List.length_take, idsR_len]; omega), ⟨A', B', hA2, g2, dA2, fun x => by simp⟩, ⟨Nat.le_trans u1.len u2.len, fun id h1 h2 => ?_, fun id hid => ?_⟩⟩
  · have ha : id ∉ A := fun h => h2 ((hF id).2 (.inl h))
    have hb : id ∉ B := fun h => h2 ((hF id).2 (.inr h))
    rw [u2.same id (by have := u1.len; omega) hb, u1.same id h1 ha]
  · rcases List.mem_append.1 hid with h | h
    · exact (u1.new id h).imp (fun h => (hF id).2 (.inl h)) fun h => h
    · rcases u2.new id h with h | h
      · exact .inl ((hF id).2 (.inr h))
      · exact .inr (by have := u1.len; omega)

/-- What is asked behind each step. -/
structure TailC (H : MH) (t u : Nat) (now : Int) (ps : List (Int × Int)) (a n c a' n' c' : _) (H3 : MH) : Prop where
  call : R mpCk 50 [.pointer (some ⟨t, 0, none⟩)] H = some (.slice (a : Option Addr) (n : Nat) (c : Nat), H3)
  at1 : H[u]? = some (.cells ⟨0, true, false⟩ [.slice (a' : Option Addr) (n' : Nat) (c' : Nat), .int .i64 now])
  at3 : H3[u]? = some (.cells ⟨0, true, false⟩ [.slice (a' : Option Addr) (n' : Nat) (c' : Nat), .int .i64 now])
  same : R mpCk 49 [.slice a n c, .slice a' n' c'] H3 = some (.bool true, H3)
  now : R mpCk 51 [.pointer (some ⟨t, 0, none⟩)] H3 = some (.int .i64 now, H3)
  len : R mpCk 52 [.pointer (some ⟨t, 0, none⟩)] H3 = some (.int .i64 (n' : Int), H3)
  ext : Ext H H3
theorem TwoC.tail (T : TwoC t q u now ps H F) : ∃ a n c a' n' c' H3, TailC H t u now ps a n c a' n' c' H3 := by
  obtain ⟨A, hA, _⟩ := star_l T
  obtain ⟨B, hB, _⟩ := star_r T
  have hlen : ps.length ≤ 64 := by obtain ⟨_, _, h, _⟩ := hA; exact h
  obtain ⟨a, n, c, H3, G, e3, r3, x3, m3⟩ := R_call (mp := mpCk) rfl rfl hA
  have hA3 := ClkA.good.ext hA x3
  obtain ⟨v, hB0, _⟩ := hB
  have hB3 := RefC0.good.ext hB0 x3
  obtain ⟨B2, hB2, _⟩ := star_r hB3
  obtain ⟨a', n', c', rfl, _⟩ := hB2.1.slice
  have hn := hB2.1.prn
  refine ⟨a, n, c, a', n', c', H3, e3, star_at hB0, star_at hB3, R_sameD rfl r3.1 hB2.1 (by omega), R_cnow rfl hA3, ?_, x3⟩
  rw [hn]
  exact R_clen rfl hA3
end

section
variable {t q u n c : Nat} {a : Option Addr} {l : List (Int × Bool × Int × Int)}
theorem cplays_loop (hn : l.length ≤ 150) : ∀ (k i : Nat) (H : MH) (now : Int) (ps : List (Int × Int)) (F : List Nat), i + k = l.length → TwoC t q u now ps H F → Stay 4 (.slice a n c) (l.flatMap stepC) H F →
    ∃ H', Rc mpCk (.loop m9_0) [(0, .slice a n c), (3, .pointer (some ⟨t, 0, none⟩)), (4, .pointer (some ⟨u, 0, none⟩)), (5, .int .i64 (i : Int))] H =
      some (.exit 0, [(0, .slice a n c), (3, .pointer (some ⟨t, 0, none⟩)), (4, .pointer (some ⟨u, 0, none⟩)), (5, .int .i64 (n : Int)), (20, .bool false)], H') := by
  have hw : ∀ x ∈ l, (stepC x).length = 4 := fun x _ => rfl
  intro k
  induction k with
  | zero =>
    intro i H now ps F hk T hS
    have hnn := hS.1.gn hw (by omega)
    have : i = n := by omega
    subst this
    refine ⟨H, ?_⟩
    rw [Rc_loop]
    simp [m9_0]
  | succ k ih =>
    intro i H now ps F hk T hS
    have hnn := hS.1.gn hw (by omega)
    have hil : i < n := by omega
    have hll : i < l.length := by omega
    obtain ⟨b, o, j, cs, rfl, hB, hes, hlen, htk, _⟩ := hS.1.grec hw (by omega) (List.getElem?_eq_getElem hll)
    obtain ⟨⟨w0, near, k0, d0⟩, hp⟩ : ∃ s, l[i] = s := ⟨_, rfl⟩
    rw [hp] at htk
    have h3 : mread (.ld (some 4)) [.pointer (some ⟨b, o + i * 4, none⟩)] H = some (.agg #[.int .i64 w0, .bool near, .int .i64 k0, .int .i64 d0]) := by
      rw [ldn_at hB _ _ hlen (by rw [htk]; rfl), htk]; rfl
    have wi : IntKind.i64.wrap ((i : Int) + 1) = (i : Int) + 1 := wrap_i64 (by omega) (by omega)
    have e1 : Ext H (H ++ [.cells ⟨0, true, false⟩ [.int .i64 w0, .bool near, .int .i64 k0, .int .i64 d0]]) := ⟨_, rfl⟩
    have hs : (H ++ [MObj.cells ⟨0, true, false⟩ [.int .i64 w0, .bool near, .int .i64 k0, .int .i64 d0]])[H.length]? = some (.cells ⟨0, true, false⟩ [.int .i64 w0, .bool near, .int .i64 k0, .int .i64 d0]) := by simp
    have hsF : H.length ∉ F := fun h => by have := TwoC.good.lt T _ h; omega
    -- what is behind the step
    have tail : ∀ (H2 : MH) (F2 : List Nat) (now' : Int) (ps' : List (Int × Int)), TwoC t q u now' ps' H2 F2 → Stay 4 (.slice (some ⟨b, o, none⟩) n c) (l.flatMap stepC) H2 F2 →
        ∃ a1 n1 c1 a2 n2 c2 H3 H', TailC H2 t u now' ps' a1 n1 c1 a2 n2 c2 H3 ∧ Rc mpCk (.loop m9_0) [(0, .slice (some ⟨b, o, none⟩) n c), (3, .pointer (some ⟨t, 0, none⟩)), (4, .pointer (some ⟨u, 0, none⟩)), (5, .int .i64 ((i + 1 : Nat) : Int))] H3 =
      some (.exit 0, [(0, .slice (some ⟨b, o, none⟩) n c), (3, .pointer (some ⟨t, 0, none⟩)), (4, .pointer (some ⟨u, 0, none⟩)), (5, .int .i64 (n : Int)), (20, .bool false)], H') := by
      intro H2 F2 now' ps' T2 hS2
      obtain ⟨a1, n1, c1, a2, n2, c2, H3, z⟩ := T2.tail
      obtain ⟨H', hH'⟩ := ih (i + 1) H3 now' ps' F2 (by omega) (TwoC.good.ext T2 z.ext) (hS2.ext z.ext)
      exact ⟨a1, n1, c1, a2, n2, c2, H3, H', z, hH'⟩
    by_cases h4 : w0 ≤ 3
    · obtain ⟨z, hz⟩ : ∃ z, mbin .and (.int .i64 k0) (.int .i64 7) = some (.int .i64 z) := ⟨_, ev_i_and⟩
      have hat : ∃ a2 n2 c2, H[u]? = some (.cells ⟨0, true, false⟩ [.slice a2 n2 c2, .int .i64 now]) := by
        obtain ⟨a1, n1, c1, a2, n2, c2, H3, z⟩ := T.tail
        exact ⟨a2, n2, c2, z.at1⟩
      obtain ⟨a2, n2, c2, hat⟩ := hat
      generalize hk1 : (if near = true then IntKind.i64.wrap (now + z) else k0) = k1
      have e2 : Ext H (H ++ [.cells ⟨0, true, false⟩ [.int .i64 w0, .bool near, .int .i64 k0, .int .i64 d0]] ++ [.cells ⟨0, true, false⟩ [.int .i64 k1, .int .i64 d0]]) := e1.trans ⟨_, rfl⟩
      obtain ⟨e, ps', H1, F1, H2, F2, p1, p2, T2, u1, u2⟩ := twoC_put (TwoC.good.ext T e2) k1 d0
      obtain ⟨a1', n1', c1', a2', n2', c2', H3, H', z', hH'⟩ := tail H2 F2 now ps' T2 ((hS.ext e2).upd u2)
      refine ⟨H', ?_⟩
      have hs8 : (H ++ [MObj.cells ⟨0, true, false⟩ [.int .i64 w0, .bool near, .int .i64 k0, .int .i64 d0]] ++ [.cells ⟨0, true, false⟩ [.int .i64 k1, .int .i64 d0]])[H.length + 1]? = some (.cells ⟨0, true, false⟩ [.int .i64 k1, .int .i64 d0]) := by simp
      have hs81 := u1.get hs8 (fun h => by have := TwoC.good.lt T _ h; omega)
      have hat1 := e1.get hat
      have hat2 : (H ++ MObj.cells ⟨0, true, false⟩ [.int .i64 w0, .bool near, .int .i64 k0, .int .i64 d0] :: [.cells ⟨0, true, false⟩ [.int .i64 k0, .int .i64 d0]])[u]? = _ := get_app hat
      have call := z'.call; have at1 := z'.at1; have at3 := z'.at3; have same := z'.same; have now_ := z'.now; have len := z'.len
      simp at hH' p1 hs81
      rw [Rc_loop]
      cases near with
      | false =>
        simp at hk1
        subst hk1
        simp [m9_0, hil, h3, h4, stx, ldx, ldnx, mdraw_full, p1, hs81, p2, call, at1, at3, same, now_, len, wi]
        exact hH'
      | true =>
        simp at hk1
        subst hk1
        simp [m9_0, hil, h3, h4, stx, ldx, ldnx, mdraw_full, p1, hs81, p2, call, at1, at3, same, now_, len, wi, hat2, hz, -ev_i_and]
        exact hH'
    · by_cases h5 : w0 = 4
      · obtain ⟨e, ps', H1, F1, H2, F2, p1, p2, T2, u1, u2⟩ := twoC_drop (TwoC.good.ext T e1) d0
        obtain ⟨a1', n1', c1', a2', n2', c2', H3, H', z', hH'⟩ := tail H2 F2 now ps' T2 ((hS.ext e1).upd u2)
        refine ⟨H', ?_⟩
        have hs1 := u1.get hs hsF
        have call := z'.call; have at1 := z'.at1; have at3 := z'.at3; have same := z'.same; have now_ := z'.now; have len := z'.len
        simp at hH'
        subst h5
        rw [Rc_loop]
        simp [m9_0, hil, h3, stx, ldx, ldnx, mdraw_full, p1, hs1, p2, call, at1, at3, same, now_, len, wi]
        exact hH'
      · obtain ⟨a1, n1, c1, a2, n2, c2, H1, H2, F2, p1, p2, p3, T2, u2⟩ := twoC_step (TwoC.good.ext T e1)
        obtain ⟨a1', n1', c1', a2', n2', c2', H3, H', z', hH'⟩ := tail H2 F2 _ _ T2 ((hS.ext e1).upd u2)
        refine ⟨H', ?_⟩
        have call := z'.call; have at1 := z'.at1; have at3 := z'.at3; have same := z'.same; have now_ := z'.now; have len := z'.len
        simp at hH'
        rw [Rc_loop]
        simp [m9_0, hil, h3, h4, h5, stx, ldx, ldnx, mdraw_full, p1, p2, p3, call, at1, at3, same, now_, len, wi]
        exact hH'
end
theorem clockPlays {H : MH} {v : Value} {l : List (Int × Bool × Int × Int)} (hrow : Row 4 H v (l.flatMap stepC)) : ∃ H', R mpCk 9 [v] H = some (.bool true, H') := by
  refine isTrue_ex ?_
  have hw : ∀ x ∈ l, (stepC x).length = 4 := fun x _ => rfl
  obtain ⟨a, n, c, rfl, _⟩ := hrow.slice
  have hn := hrow.gn hw (by omega)
  by_cases hbig : 150 < l.length
  · have hbi : (150 : Int) < (n : Int) := by omega
    rw [R_code (fn := m9) rfl]
    simp [m9, knownC_R, hbi]
  · have hbi : ¬ (150 : Int) < (n : Int) := by omega
    obtain ⟨H1, e1, g1, x1⟩ := R_cnew (mp := mpCk) rfl (H := H)
    have e2 : Ext H1 (H1 ++ [.cells ⟨0, true, false⟩ [.slice none 0 0, .int .i64 0]]) := ⟨_, rfl⟩
    have g2 : RefC H1.length 0 [] (H1 ++ [.cells ⟨0, true, false⟩ [.slice none 0 0, .int .i64 0]]) [H1.length] :=
      ⟨_, ⟨[H1.length], [], ⟨rfl, by simp⟩, ⟨.inl ⟨rfl, rfl⟩, by simp, by simp⟩, by simp, by simp⟩, by simp, ⟨.nil, by simp⟩, by omega, by omega⟩
    have hlt := ClkA.good.lt g1
    have hx := x1.len
    have T : TwoC (H.length + 1) H.length H1.length 0 [] (H1 ++ [.cells ⟨0, true, false⟩ [.slice none 0 0, .int .i64 0]]) ([H.length + 1, H.length] ++ [H1.length]) :=
      ⟨[H.length + 1, H.length], [H1.length], ClkA.good.ext g1 e2, g2, fun x hx h => by have := hlt x hx; simp at h; omega, by simp [or_assoc]⟩
    obtain ⟨H3, h3⟩ := cplays_loop (c := c) (by omega) l.length 0 _ 0 [] _ (by omega) T (stay_new2 hrow (x1.trans e2) (by simp; omega))
    simp at h3
    rw [R_code (fn := m9) rfl]
    simp [m9, knownC_R, hbi, e1, h3]
end Go.Mod

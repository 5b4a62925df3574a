/- GatePlays: the model's side. -/
import Derived.Test.YtfeaopbeiahbnaaGateR
set_option linter.unusedVariables false
set_option linter.unusedSimpArgs false
namespace Go.Mod
open Go.Proofs

/-- Both gates, alike. -/
def BothA (g t u : Nat) (ins wait : List Int) (most : Int) : HP := GateA g t ins wait most * RGateA u ins wait most
theorem BothA.good {g t u : Nat} {ins wait : List Int} {most : Int} : Good (BothA g t u ins wait most) := GateA.good.star RGateA.good

structure GPair (f f' : FuncId) (xs ys : List Value) (H : MH) (F : List Nat) (g t u : Nat) (ins' wait' : List Int) (most : Int) (r : Value) : Prop where
  ex : ∃ H1 F1 H2 F2, R mpGk f xs H = some (r, H1) ∧ R mpGk f' ys H1 = some (r, H2) ∧ BothA g t u ins' wait' most H2 F2 ∧ Upd H F H1 F1 ∧ Upd H F H2 F2
section
variable {H : MH} {F : List Nat} {g t u : Nat} {ins wait : List Int} {most : Int}
theorem gpair_of {f f' : FuncId} {xs ys : List Value} {ins' wait' : List Int} {r : Value} (T : BothA g t u ins wait most H F)
    (hx : ∀ A, GateA g t ins wait most H A → ∃ H1 A1, R mpGk f xs H = some (r, H1) ∧ GateA g t ins' wait' most H1 A1 ∧ Upd H A H1 A1)
    (hy : ∀ H1 B, RGateA u ins wait most H1 B → ∃ H2 B2, R mpGk f' ys H1 = some (r, H2) ∧ RGateA u ins' wait' most H2 B2 ∧ Upd H1 B H2 B2) : GPair f f' xs ys H F g t u ins' wait' most r := by
  obtain ⟨_, H1, F1, p1, u1, e1⟩ := star_upd (ι := Unit) (P' := fun _ => GateA g t ins' wait' most) (C := fun _ H1 => R mpGk f xs H = some (r, H1)) RGateA.good (fun _ => GateA.good) T (fun A hA _ => by
    obtain ⟨H1, A1, a1, a2, a3⟩ := hx A hA
    exact ⟨(), H1, A1, a2, a3, a1⟩)
  obtain ⟨_, H2, F2, p2, u2, e2⟩ := star_upd (ι := Unit) (P' := fun _ => RGateA u ins' wait' most) (C := fun _ H2 => R mpGk f' ys H1 = some (r, H2)) GateA.good (fun _ => RGateA.good) (star_comm p1) (fun B hB _ => by
    obtain ⟨H2, B2, a1, a2, a3⟩ := hy H1 B hB
    exact ⟨(), H2, B2, a2, a3, a1⟩)
  exact ⟨H1, F1, H2, F2, e1, e2, star_comm p2, u1, u1.trans u2⟩
theorem gpair_ask (T : BothA g t u ins wait most H F) (x : Int) : ∃ ins' wait' b e, GPair 56 57 [.pointer (some ⟨g, 0, none⟩), .int .i64 x] [.pointer (some ⟨u, 0, none⟩), .int .i64 x] H F g t u ins' wait' most (.tuple #[.bool b, .int .i64 e]) := by
  by_cases h : x ∈ ins ∨ x ∈ wait
  · exact ⟨ins, wait, false, 17, gpair_of T (fun A hA => ⟨H, A, R_gask_twice rfl rfl rfl rfl rfl hA h, hA, Upd.refl _ _⟩) fun H1 B hB => ⟨H1, B, R_rgask_twice rfl rfl hB h, hB, Upd.refl _ _⟩⟩
  · have hi : x ∉ ins := fun e => h (.inl e)
    have hw : x ∉ wait := fun e => h (.inr e)
    by_cases hm : (ins.length : Int) < most
    · exact ⟨ins ++ [x], wait, true, 0, gpair_of T (fun A hA => R_gask_in rfl rfl rfl rfl rfl hA hi hw hm) fun H1 B hB => R_rgask_in rfl rfl hB hi hw hm⟩
    · obtain ⟨A, ⟨_, _, _, _, _, hw64⟩, _⟩ := star_l T
      by_cases h64 : wait.length = 64
      · refine ⟨ins, wait, false, 12, gpair_of T (fun A hA => ?_) fun H1 B hB => ⟨H1, B, (R_rgask_full rfl rfl hB hi hw hm).1 h64, hB, Upd.refl _ _⟩⟩
        rcases R_gask_full (mp := mpGk) rfl rfl rfl rfl rfl rfl hA hi hw hm with ⟨_, e⟩ | ⟨e, _⟩
        · exact ⟨H, A, e, hA, Upd.refl _ _⟩
        · omega
      · refine ⟨ins, wait ++ [x], false, 0, gpair_of T (fun A hA => ?_) fun H1 B hB => (R_rgask_full rfl rfl hB hi hw hm).2 (by omega)⟩
        rcases R_gask_full (mp := mpGk) rfl rfl rfl rfl rfl rfl hA hi hw hm with ⟨e, _⟩ | ⟨_, e⟩
        · omega
        · exact e
theorem gpair_leave (T : BothA g t u ins wait most H F) (x : Int) : ∃ ins' wait' a b e, GPair 58 59 [.pointer (some ⟨g, 0, none⟩), .int .i64 x] [.pointer (some ⟨u, 0, none⟩), .int .i64 x] H F g t u ins' wait' most (.tuple #[.int .i64 a, .bool b, .int .i64 e]) := by
  by_cases hi : x ∈ ins
  · exact ⟨_, _, _, _, _, gpair_of T (fun A hA => R_gleave rfl rfl rfl rfl hA hi) fun H1 B hB => R_rgleave rfl rfl rfl hB hi⟩
  · exact ⟨_, _, _, _, _, gpair_of T (fun A hA => ⟨H, A, R_gleave_none rfl hA hi, hA, Upd.refl _ _⟩) fun H1 B hB => ⟨H1, B, R_rgleave_none rfl rfl hB hi, hB, Upd.refl _ _⟩⟩

/-- What is asked behind each step. -/
structure GTail (H : MH) (g t u : Nat) (ins wait : List Int) (most : Int) (F : List Nat) (x : Int) (v w v3 v4 : Value) (H3 H4 : MH) : Prop where
  o2 : H[u]? = some (.cells ⟨0, true, false⟩ [.int .i64 most, v, w])
  o3 : H3[u]? = some (.cells ⟨0, true, false⟩ [.int .i64 most, v, w])
  o4 : H4[u]? = some (.cells ⟨0, true, false⟩ [.int .i64 most, v, w])
  in_ : R mpGk 60 [.pointer (some ⟨g, 0, none⟩)] H = some (v3, H3)
  same1 : R mpGk 32 [v3, v] H3 = some (.bool true, H3)
  line : R mpGk 61 [.pointer (some ⟨g, 0, none⟩)] H3 = some (v4, H4)
  same2 : R mpGk 32 [v4, w] H4 = some (.bool true, H4)
  has : R mpGk 62 [.pointer (some ⟨g, 0, none⟩), .int .i64 x] H4 = some (.bool (decide (0 ≤ ixOf x ins)), H4)
  at_ : R mpGk 36 [v, .int .i64 x] H4 = some (.int .i64 (ixOf x ins), H4)
  x3 : Ext H H3
  x4 : Ext H3 H4
  sl : (∃ a n c, v = .slice a n c) ∧ (∃ a n c, w = .slice a n c) ∧ (∃ a n c, v3 = .slice a n c) ∧ (∃ a n c, v4 = .slice a n c)
theorem BothA.tail (T : BothA g t u ins wait most H F) (x : Int) : ∃ v w v3 v4 H3 H4, GTail H g t u ins wait most F x v w v3 v4 H3 H4 := by
  obtain ⟨A, hA, _⟩ := star_l T
  obtain ⟨B, hB, _⟩ := star_r T
  obtain ⟨_, _, h1, h2, h3, h4⟩ := hA
  have hA : GateA g t ins wait most H A := ⟨_, by assumption, h1, h2, h3, h4⟩
  obtain ⟨v, w, o2, r1, r2⟩ := hB.open
  obtain ⟨v3, H3, e3, x3, r3⟩ := R_gin (mp := mpGk) rfl rfl hA
  have hA3 := GateA.good.ext hA x3
  obtain ⟨v4, H4, e4, x4, r4⟩ := R_gline (mp := mpGk) rfl rfl rfl hA3
  have hA4 := GateA.good.ext hA3 x4
  have r13 := x3.row r1
  have r24 := x4.row (x3.row r2)
  have hd : decide (x ∈ ins) = decide (0 ≤ ixOf x ins) := decide_eq_decide.2 ixOf_nonneg.symm
  have hh := R_ghas (mp := mpGk) rfl rfl rfl hA4 x
  rw [hd] at hh
  refine ⟨v, w, v3, v4, H3, H4, o2, x3.get o2, x4.get (x3.get o2), e3, R_same rfl r3 r13 (by omega), e4, R_same rfl r4 r24 (by omega), hh, R_at rfl (x4.row r13) (by omega), x3, x4, ?_⟩
  obtain ⟨a, n, c, h, _⟩ := r1.slice
  obtain ⟨a', n', c', h', _⟩ := r2.slice
  obtain ⟨a3, n3, c3, h3, _⟩ := r3.slice
  obtain ⟨a4, n4, c4, h4, _⟩ := r4.slice
  exact ⟨⟨_, _, _, h⟩, ⟨_, _, _, h'⟩, ⟨_, _, _, h3⟩, ⟨_, _, _, h4⟩⟩

theorem set_last {H : MH} {a b : MObj} : (H ++ [a]).set H.length b = H ++ [b] := by
  rw [List.set_append_right _ _ (Nat.le_refl _)]; simp

theorem gplays_step {bl : Nat} {cs : List Value} {n c i : Nat} {w0 x : Int} (T : BothA g t u ins wait most H F) (hbl : bl ∉ F) (hB : H[bl]? = some (.cells ⟨2, false, false⟩ cs))
    (hi : i < n) (hn : n ≤ 120) (hcl : i * 2 + 2 ≤ cs.length) (hc : (cs.drop (i * 2)).take 2 = [.int .i64 w0, .int .i64 x]) :
    ∃ H' ins' wait' F', Rc mpGk (.loop m13_0) [(1, .slice (some ⟨bl, 0, none⟩) n c), (5, .pointer (some ⟨g, 0, none⟩)), (6, .pointer (some ⟨u, 0, none⟩)), (7, .int .i64 (i : Int))] H =
      Rc mpGk (.loop m13_0) [(1, .slice (some ⟨bl, 0, none⟩) n c), (5, .pointer (some ⟨g, 0, none⟩)), (6, .pointer (some ⟨u, 0, none⟩)), (7, .int .i64 ((i + 1 : Nat) : Int))] H' ∧
      BothA g t u ins' wait' most H' F' ∧ bl ∉ F' ∧ H'[bl]? = some (.cells ⟨2, false, false⟩ cs) := by
  have wi : IntKind.i64.wrap ((i : Int) + 1) = (i : Int) + 1 := wrap_i64 (by omega) (by omega)
  have hblt := (List.getElem?_eq_some_iff.1 hB).1
  have hsF : H.length ∉ F := fun h => by have := BothA.good.lt T _ h; omega
  have hld : mread (.ld (some 2)) [.pointer (some ⟨bl, i * 2, none⟩)] H = some (.agg #[.int .i64 w0, .int .i64 x]) := by
    rw [ldn_at hB _ _ hcl (by rw [hc]; rfl), hc]
  have hst : ∀ a b : Value, meff (.st 2) [.pointer (some ⟨H.length, 0, none⟩), .agg #[.int .i64 w0, .int .i64 x]] (H ++ [.cells ⟨0, true, false⟩ [a, b]]) = some (.tuple #[], H ++ [.cells ⟨0, true, false⟩ [.int .i64 w0, .int .i64 x]]) := by
    intro a b
    rw [stx]; simp
  have hst1 : ∀ y : Int, meff (.st 1) [.pointer (some ⟨H.length, 1, none⟩), .int .i64 y] (H ++ [.cells ⟨0, true, false⟩ [.int .i64 w0, .int .i64 x]]) = some (.tuple #[], H ++ [.cells ⟨0, true, false⟩ [.int .i64 w0, .int .i64 y]]) := by
    intro y
    rw [stx]; simp
  have hs : ∀ y : Int, (H ++ [MObj.cells ⟨0, true, false⟩ [.int .i64 w0, .int .i64 y]])[H.length]? = some (.cells ⟨0, true, false⟩ [.int .i64 w0, .int .i64 y]) := by simp
  have hTe : ∀ y : Int, BothA g t u ins wait most (H ++ [.cells ⟨0, true, false⟩ [.int .i64 w0, .int .i64 y]]) F := fun y => BothA.good.ext T ⟨_, rfl⟩
  have hBe : ∀ y : Int, (H ++ [MObj.cells ⟨0, true, false⟩ [.int .i64 w0, .int .i64 y]])[bl]? = some (.cells ⟨2, false, false⟩ cs) := fun y => get_app hB
  obtain ⟨B0, hB0, _⟩ := star_r T
  obtain ⟨v0, w0', o0, r0, r0'⟩ := hB0.open
  -- what is behind the pair
  have fin : ∀ {f f' : FuncId} {xs ys : List Value} {ins' wait' : List Int} {r : Value} (y : Int), GPair f f' xs ys (H ++ [.cells ⟨0, true, false⟩ [.int .i64 w0, .int .i64 y]]) F g t u ins' wait' most r →
      ∃ H1 H2 F2 av nv cv aw nw cw a3 n3 c3 a4 n4 c4 H3 H4, R mpGk f xs (H ++ [.cells ⟨0, true, false⟩ [.int .i64 w0, .int .i64 y]]) = some (r, H1) ∧ R mpGk f' ys H1 = some (r, H2) ∧
        GTail H2 g t u ins' wait' most F2 y (.slice av nv cv) (.slice aw nw cw) (.slice a3 n3 c3) (.slice a4 n4 c4) H3 H4 ∧ BothA g t u ins' wait' most H4 F2 ∧ bl ∉ F2 ∧ H4[bl]? = some (.cells ⟨2, false, false⟩ cs) ∧
        H1[H.length]? = some (.cells ⟨0, true, false⟩ [.int .i64 w0, .int .i64 y]) ∧ H2[H.length]? = some (.cells ⟨0, true, false⟩ [.int .i64 w0, .int .i64 y]) ∧ H3[H.length]? = some (.cells ⟨0, true, false⟩ [.int .i64 w0, .int .i64 y]) ∧ H4[H.length]? = some (.cells ⟨0, true, false⟩ [.int .i64 w0, .int .i64 y]) := by
    intro f f' xs ys ins' wait' r y P
    obtain ⟨H1, F1, H2, F2, p1, p2, T2, u1, u2⟩ := P.ex
    obtain ⟨v, w, v3, v4, H3, H4, q⟩ := T2.tail y
    obtain ⟨⟨av, nv, cv, rfl⟩, ⟨aw, nw, cw, rfl⟩, ⟨a3, n3, c3, rfl⟩, ⟨a4, n4, c4, rfl⟩⟩ := q.sl
    have s1 := u1.get (hs y) hsF
    have s2 := u2.get (hs y) hsF
    refine ⟨H1, H2, F2, _, _, _, _, _, _, _, _, _, _, _, _, H3, H4, p1, p2, q, BothA.good.ext (BothA.good.ext T2 q.x3) q.x4, fun h => ?_, q.x4.get (q.x3.get (u2.get (hBe y) hbl)), s1, s2, q.x3.get s2, q.x4.get (q.x3.get s2)⟩
    rcases u2.new bl h with h | h
    · exact hbl h
    · simp at h; omega
  by_cases h4 : w0 ≤ 4
  · obtain ⟨ins', wait', b, e, P⟩ := gpair_ask (hTe x) x
    obtain ⟨H1, H2, F2, av, nv, cv, aw, nw, cw, a3, n3, c3, a4, n4, c4, H3, H4, p1, p2, q, T4, b4, B4, s1, s2, s3, s4⟩ := fin x P
    refine ⟨H4, ins', wait', F2, ?_, T4, b4, B4⟩
    have h9 : ¬ 9 ≤ w0 := by omega
    have := q.o2; have := q.o3; have := q.o4
    rw [Rc_loop]
    simp [m13_0, hi, hld, hst, ld_at (hs x), ld_at s1, ld_at s2, ld_at s3, ld_at s4, h4, h9, p1, p2, mdraw_full, ld_at q.o2, ld_at q.o3, ld_at q.o4, q.in_, q.same1, q.line, q.same2, q.has, q.at_, wi]
  · by_cases h9 : 9 ≤ w0 ∧ ins ≠ []
    · obtain ⟨h9, hne⟩ := h9
      obtain ⟨y, ys, rfl⟩ := List.exists_cons_of_ne_nil hne
      obtain ⟨ins', wait', a, b, e, P⟩ := gpair_leave (hTe y) y
      obtain ⟨H1, H2, F2, av, nv, cv, aw, nw, cw, a3, n3, c3, a4, n4, c4, H3, H4, p1, p2, q, T4, b4, B4, s1, s2, s3, s4⟩ := fin y P
      refine ⟨H4, ins', wait', F2, ?_, T4, b4, B4⟩
      have e0 : Ext H (H ++ [MObj.cells ⟨0, true, false⟩ [.int .i64 w0, .int .i64 x]]) := ⟨_, rfl⟩
      have r0e := e0.row r0
      have o0e := e0.get o0
      obtain ⟨a0, n0, c0, rfl, hl0⟩ := r0.slice
      have hn0 : 0 < n0 := by simp [i64s] at hl0; omega
      have hn0' : (0 : Int) < (n0 : Int) := by omega
      obtain ⟨bb, oo, jj, ccs, rfl, hBB, _, hat⟩ := r0e.at hn0
      have hat' : ccs[oo]? = some (.int .i64 y) := by simpa [i64s] using hat
      rw [Rc_loop]
      simp [m13_0, hi, hld, hst, hst1, ld_at (hs x), ld_at (hs y), ld_at o0e, hn0, ld_at hBB, hat', ld_at s1, ld_at s2, ld_at s3, ld_at s4, h4, h9, p1, p2, mdraw_full, ld_at q.o2, ld_at q.o3, ld_at q.o4, q.in_, q.same1, q.line, q.same2, q.has, q.at_, wi]
    · obtain ⟨ins', wait', a, b, e, P⟩ := gpair_leave (hTe x) x
      obtain ⟨H1, H2, F2, av, nv, cv, aw, nw, cw, a3, n3, c3, a4, n4, c4, H3, H4, p1, p2, q, T4, b4, B4, s1, s2, s3, s4⟩ := fin x P
      refine ⟨H4, ins', wait', F2, ?_, T4, b4, B4⟩
      rw [Rc_loop]
      by_cases h99 : 9 ≤ w0
      · have hne : ins = [] := Classical.not_not.1 fun h => h9 ⟨h99, h⟩
        subst hne
        have e0 : Ext H (H ++ [MObj.cells ⟨0, true, false⟩ [.int .i64 w0, .int .i64 x]]) := ⟨_, rfl⟩
        have o0e := e0.get o0
        obtain ⟨a0, n0, c0, rfl, hl0⟩ := r0.slice
        have hn0 : n0 = 0 := by simpa [i64s] using hl0
        subst hn0
        simp [m13_0, hi, hld, hst, ld_at (hs x), ld_at o0e, ld_at s1, ld_at s2, ld_at s3, ld_at s4, h4, h99, p1, p2, mdraw_full, ld_at q.o2, ld_at q.o3, ld_at q.o4, q.in_, q.same1, q.line, q.same2, q.has, q.at_, wi]
      · simp [m13_0, hi, hld, hst, ld_at (hs x), ld_at s1, ld_at s2, ld_at s3, ld_at s4, h4, h99, p1, p2, mdraw_full, ld_at q.o2, ld_at q.o3, ld_at q.o4, q.in_, q.same1, q.line, q.same2, q.has, q.at_, wi]
end
theorem gplays_loop {g t u bl : Nat} {most : Int} {cs : List Value} {l : List (List Int)} {c : Nat} (hn : l.length ≤ 120) (hcl : cs.length = l.length * 2)
    (hc : ∀ (i : Nat) p, l[i]? = some p → (cs.drop (i * 2)).take 2 = i64s p ∧ p.length = 2 ∧ ∀ x ∈ p, (Lit.int .i64 x).wf = true) : ∀ (k i : Nat) (H : MH) (ins wait : List Int) (F : List Nat), i + k = l.length → BothA g t u ins wait most H F → bl ∉ F → H[bl]? = some (.cells ⟨2, false, false⟩ cs) →
    ∃ H', Rc mpGk (.loop m13_0) [(1, .slice (some ⟨bl, 0, none⟩) l.length c), (5, .pointer (some ⟨g, 0, none⟩)), (6, .pointer (some ⟨u, 0, none⟩)), (7, .int .i64 (i : Int))] H =
      some (.exit 0, [(1, .slice (some ⟨bl, 0, none⟩) l.length c), (5, .pointer (some ⟨g, 0, none⟩)), (6, .pointer (some ⟨u, 0, none⟩)), (7, .int .i64 (l.length : Int)), (31, .bool false)], H')
  | 0, i, H, ins, wait, F, hk, T, hbl, hB => by
    have : i = l.length := by omega
    subst this
    refine ⟨H, ?_⟩
    rw [Rc_loop]
    simp [m13_0]
  | k + 1, i, H, ins, wait, F, hk, T, hbl, hB => by
    have hi : i < l.length := by omega
    obtain ⟨h1, h2, _⟩ := hc i l[i] (List.getElem?_eq_getElem hi)
    obtain ⟨w0, x, hp⟩ : ∃ w0 x, l[i] = [w0, x] := by
      match hl : l[i], h2 with
      | [a, b], _ => exact ⟨a, b, rfl⟩
    rw [hp] at h1
    obtain ⟨H1, ins1, wait1, F1, s1, T1, b1, B1⟩ := gplays_step (c := c) T hbl hB hi hn (by omega) h1
    obtain ⟨H', h'⟩ := gplays_loop hn hcl hc k (i + 1) H1 ins1 wait1 F1 (by omega) T1 b1 B1
    exact ⟨H', by rw [s1]; exact h'⟩

theorem gatePlays {H : MH} {v : Value} {l : List (List Int)} {most : Int} (hr : IRow 2 H v l) : ∃ H', R mpGk 13 [.int .i64 most, v] H = some (.bool true, H') := by
  refine isTrue_ex ?_
  obtain ⟨a, c, hv⟩ := hr.slice
  by_cases hbig : 120 < l.length
  · have hbi : (120 : Int) < (l.length : Int) := by omega
    subst hv
    rw [R_code (fn := m13) rfl]
    simp [m13, knownG_R, hbi]
  · have hbi : ¬ (120 : Int) < (l.length : Int) := by omega
    obtain ⟨H1, e1, x1, l1⟩ := R_gnew (mp := mpGk) rfl rfl (H := H) (most := most)
    obtain ⟨H2, e2, x2, l2⟩ := R_rgnew (mp := mpGk) rfl (H := H1) (most := most)
    have hrr : max 1 (min most 64) = min (max most 1) 64 := by omega
    rw [hrr] at l2
    generalize min (max most 1) 64 = rm at l1 l2
    have hx := x1.len
    have hlt : H.length + 1 < H1.length := GateA.good.lt l1 _ (by simp)
    have T : BothA (H.length + 1) H.length H1.length [] [] rm H2 [H.length, H.length + 1, H1.length] := ⟨_, _, GateA.good.ext l1 x2, l2, fun x hx h => by
      simp at hx h; omega, fun x => by simp [or_assoc]⟩
    rcases hr with ⟨h1, h2⟩ | ⟨b, cs, h1, hB, hcl, hc⟩
    · subst h2
      subst h1
      rw [R_code (fn := m13) rfl]
      simp [m13, knownG_R, e1, e2, Rc_loop, m13_0]
    · rw [h1] at hv; cases hv
      subst h1
      have hb := (List.getElem?_eq_some_iff.1 hB).1
      obtain ⟨H3, h3⟩ := gplays_loop (c := l.length) (by omega) hcl hc l.length 0 H2 [] [] _ (by omega) T (by simp; omega) (x2.get (x1.get hB))
      simp at h3
      rw [R_code (fn := m13) rfl]
      simp [m13, knownG_R, hbi, e1, e2, h3]
end Go.Mod

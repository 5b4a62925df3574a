/- TextBack: the text with more in it, byte by byte. -/
import Derived.Test.YthpeamllfledkaaDoorTvC
import Derived.Test.YthpeamllfledkaaDoorTwA
set_option linter.unusedVariables false
set_option linter.unusedSimpArgs false
namespace Go.Mod
open Go.Lib

/-- Bit k (of sixteen) of g. -/
def gbit (g : Int) (k : Nat) : Bool := match mbin .shr (.int .u16 g) (.int .u64 ((k % 16 : Nat) : Int)) with
  | some v => match mbin .and v (.int .u16 1) with
    | some (.int _ q) => decide (q = 1)
    | _ => false
  | none => false
theorem gbit_ev (g : Int) (k : Nat) : ∃ y q, mbin .shr (.int .u16 g) (.int .u64 ((k % 16 : Nat) : Int)) = some (.int .u16 y) ∧ mbin .and (.int .u16 y) (.int .u16 1) = some (.int .u16 q) ∧ gbit g k = decide (q = 1) := by
  obtain ⟨y, hy⟩ : ∃ y, mbin .shr (.int .u16 g) (.int .u64 ((k % 16 : Nat) : Int)) = some (.int .u16 y) := ⟨_, by rw [ev_i_shr, if_neg (by omega)]⟩
  obtain ⟨q, hq⟩ : ∃ q, mbin .and (.int .u16 y) (.int .u16 1) = some (.int .u16 q) := ⟨_, ev_i_and⟩
  refine ⟨y, q, hy, hq, ?_⟩
  unfold gbit
  rw [hy]
  simp only []
  rw [hq]
theorem idx_B {t : Bs} {i : Nat} {c : UInt8} (h : t[i]? = some c) : mpure .idxs [.string (B t), .int .i64 (i : Int)] = some (.int .u8 (c.toNat : Int)) := by
  rw [ev_idxs, if_pos (by omega)]
  have : (B t)[(i : Int).toNat]? = some c := by rw [B_get]; simpa using h
  rw [this]; rfl
theorem sl_B {t : Bs} {i : Nat} {c : UInt8} (h : t[i]? = some c) : mpure (.slstr true true) [.string (B t), .int .i64 (i : Int), .int .i64 ((i : Int) + 1)] = some (.string (B [c])) := by
  have hi := (List.getElem?_eq_some_iff.1 h).1
  rw [ev_slstr_tt, if_pos (by rw [B_size]; omega)]
  have e1 : ((i : Int) + 1).toNat = i + 1 := by omega
  have e2 : (i : Int).toNat = i := by omega
  rw [e1, e2, B_extract]
  congr 3
  have hd : t.drop i = c :: t.drop (i + 1) := by
    rw [List.drop_eq_getElem_cons hi]
    congr 1
    exact (List.getElem?_eq_some_iff.1 h).2
  rw [hd, show i + 1 - i = 1 by omega]; rfl
section
variable {mp : FuncId → Option MDef} {H : MH}
theorem back_loop {t : Bs} (ht : t.length ≤ 2000) {g : Int} {v2 : Value} : ∀ (l : Bs) (i n : Nat) (u : Bs), t.drop i = l → n ≤ i → u.length ≤ 14 * i → i ≤ t.length →
    Rc mp (.loop m8_0) [(1, .int .u16 g), (2, v2), (5, .string (B t)), (6, .string (B u)), (7, .int .i64 (n : Int)), (8, .int .i64 (i : Int))] H =
      some (.exit 0, [(1, .int .u16 g), (2, v2), (5, .string (B t)), (6, .string (B (u ++ spr (gbit g) (gbit g) (fun k => gbit g (k + 5)) i n l))), (7, .int .i64 ((n + l.count 10 : Nat) : Int)), (8, .int .i64 (t.length : Int)), (30, .bool false)], H)
  | [], i, n, u, hl, hn, hu, hi => by
    have : t.length ≤ i := List.drop_eq_nil_iff.1 hl
    have : i = t.length := by omega
    subst this
    have e : spr (gbit g) (gbit g) (fun k => gbit g (k + 5)) t.length n [] = [] := rfl
    rw [e, List.append_nil]
    rw [Rc_loop]
    simp [m8_0]
  | c :: l, i, n, u, hl, hn, hu, hi => by
    have hc : t[i]? = some c := by
      have := congrArg List.head? hl
      simpa using this
    have hit := (List.getElem?_eq_some_iff.1 hc).1
    have hl' : t.drop (i + 1) = l := by
      have := congrArg List.tail hl
      simpa using this
    have hin : (i : Int) < (t.length : Int) := by omega
    have fx := idx_B hc
    have fs := sl_B hc
    have w : IntKind.i64.wrap ((i : Int) + 1) = (i : Int) + 1 := wrap_i64 (by omega) (by omega)
    have wn : IntKind.i64.wrap ((n : Int) + 1) = (n : Int) + 1 := wrap_i64 (by omega) (by omega)
    have wn5 : IntKind.i64.wrap ((n : Int) + 1 + 5) = (n : Int) + 1 + 5 := wrap_i64 (by omega) (by omega)
    have r1 : ((n : Int) + 1).tmod 16 = (((n + 1) % 16 : Nat) : Int) := by rw [Int.tmod_eq_emod_of_nonneg (by omega)]; omega
    have r2 : ((n : Int) + 1 + 5).tmod 16 = (((n + 1 + 5) % 16 : Nat) : Int) := by rw [Int.tmod_eq_emod_of_nonneg (by omega)]; omega
    have r3 : (i : Int).tmod 16 = ((i % 16 : Nat) : Int) := by rw [Int.tmod_eq_emod_of_nonneg (by omega)]; omega
    have w64 : ∀ k : Nat, IntKind.u64.wrap ((k % 16 : Nat) : Int) = ((k % 16 : Nat) : Int) := fun k => by rw [IntKind.wrap_u64]; omega
    have w1 := w64 (n + 1)
    have w2 := w64 (n + 1 + 5)
    have w3 := w64 i
    obtain ⟨y1, q1, s1, a1, b1⟩ := gbit_ev g (n + 1)
    obtain ⟨y2, q2, s2, a2, b2⟩ := gbit_ev g (n + 1 + 5)
    obtain ⟨y3, q3, s3, a3, b3⟩ := gbit_ev g i
    generalize (n + 1) % 16 = m1 at r1 w1 s1
    generalize (n + 1 + 5) % 16 = m2 at r2 w2 s2
    generalize i % 16 = m3 at r3 w3 s3
    have hcount : n + (c :: l).count 10 = (if c = 10 then n + 1 else n) + l.count 10 := by
      rw [List.count_cons]
      by_cases h : c = 10 <;> simp [h] <;> omega
    rw [hcount, spr_cons]
    have hfin := fun (n' : Nat) (u' : Bs) (h1 : n' ≤ i + 1) (h2 : u'.length ≤ 14 * (i + 1)) => back_loop ht (g := g) (v2 := v2) l (i + 1) n' u' hl' h1 h2 hit
    have hcast : ((i + 1 : Nat) : Int) = (i : Int) + 1 := by omega
    by_cases h10 : c = 10
    · subst h10
      have fx' : mpure .idxs [.string (B t), .int .i64 (i : Int)] = some (.int .u8 10) := fx
      have hn1 : ((n + 1 : Nat) : Int) = (n : Int) + 1 := by omega
      obtain ⟨u1, hu1, z1, f1⟩ : ∃ u1, (u1 = u ++ if gbit g (n + 1) = true then moreB else []) ∧ u1.length ≤ u.length + 8 ∧ (q1 = 1 → mbin .add (.string (B u)) (.string ⟨#[32, 32, 35, 32, 109, 111, 114, 101]⟩) = some (.string (B u1))) := by
        refine ⟨_, rfl, ?_, fun h => ?_⟩
        · split <;> simp [moreB]
        · rw [b1, decide_eq_true h, if_pos rfl]
          exact s_addM (m := moreB) (by omega) (by simp [moreB])
      obtain ⟨u2, hu2, z2, f2⟩ : ∃ u2, u2 = u1 ++ [10] ∧ u2.length = u1.length + 1 ∧ mbin .add (.string (B u1)) (.string (B [10])) = some (.string (B u2)) := ⟨_, rfl, by simp, s_addM (by omega) (by simp)⟩
      obtain ⟨u3, hu3, z3, f3⟩ : ∃ u3, (u3 = u2 ++ if gbit g (n + 1 + 5) = true then blankB else []) ∧ u3.length ≤ u2.length + 4 ∧ (q2 = 1 → mbin .add (.string (B u2)) (.string ⟨#[32, 32, 32, 10]⟩) = some (.string (B u3))) := by
        refine ⟨_, rfl, ?_, fun h => ?_⟩
        · split <;> simp [blankB]
        · rw [b2, decide_eq_true h, if_pos rfl]
          exact s_addM (m := blankB) (by omega) (by simp [blankB])
      have hx := hfin (n + 1) u3 (by omega) (by omega)
      rw [hcast, hn1] at hx
      have hgoal : ∀ X : Bs, u ++ ((if (10 : UInt8) = 10 ∧ gbit g (n + 1) = true then moreB else []) ++ ((if (10 : UInt8) = 32 ∧ gbit g i = true then [32] else []) ++ ([10] ++ ((if (10 : UInt8) = 10 ∧ gbit g (n + 1 + 5) = true then blankB else []) ++ X)))) = u3 ++ X := fun X => by
        rw [hu3, hu2, hu1]
        simp
      rw [hgoal, if_pos rfl]
      have n1 : q1 = 1 ∨ (¬ q1 = 1 ∧ u1 = u) := by
        by_cases h : q1 = 1
        · exact .inl h
        · refine .inr ⟨h, ?_⟩
          rw [hu1, b1, decide_eq_false h]; simp
      have n2 : q2 = 1 ∨ (¬ q2 = 1 ∧ u3 = u2) := by
        by_cases h : q2 = 1
        · exact .inl h
        · refine .inr ⟨h, ?_⟩
          rw [hu3, b2, decide_eq_false h]; simp
      clear hgoal hu1 hu2 hu3 b1 b2 b3
      rw [Rc_loop]
      rcases n1 with rfl | ⟨n1, rfl⟩
      · have f1 := f1 rfl
        rcases n2 with rfl | ⟨n2, rfl⟩
        · have f3 := f3 rfl
          simp [-ev_s_add, -ev_idxs, -ev_slstr_tt, -ev_i_shr, -ev_i_and, m8_0, hin, fx', fs, f1, f2, f3, wn, wn5, r1, r2, w, w1, w2, s1, s2, a1, a2]
          exact hx
        · simp [-ev_s_add, -ev_idxs, -ev_slstr_tt, -ev_i_shr, -ev_i_and, m8_0, hin, fx', fs, f1, f2, n2, wn, wn5, r1, r2, w, w1, w2, s1, s2, a1, a2]
          exact hx
      · rcases n2 with rfl | ⟨n2, rfl⟩
        · have f3 := f3 rfl
          simp [-ev_s_add, -ev_idxs, -ev_slstr_tt, -ev_i_shr, -ev_i_and, m8_0, hin, fx', fs, f2, f3, n1, wn, wn5, r1, r2, w, w1, w2, s1, s2, a1, a2]
          exact hx
        · simp [-ev_s_add, -ev_idxs, -ev_slstr_tt, -ev_i_shr, -ev_i_and, m8_0, hin, fx', fs, f2, n1, n2, wn, wn5, r1, r2, w, w1, w2, s1, s2, a1, a2]
          exact hx
    · have n10 : ¬ (c.toNat : Int) = 10 := fun e => h10 (UInt8.toNat_inj.1 (by show c.toNat = 10; omega))
      have hgoal : ∀ X : Bs, u ++ ((if c = 10 ∧ gbit g (n + 1) = true then moreB else []) ++ ((if c = 32 ∧ gbit g i = true then [32] else []) ++ ([c] ++ ((if c = 10 ∧ gbit g (n + 1 + 5) = true then blankB else []) ++ X)))) = (u ++ if c = 32 ∧ gbit g i = true then [32] else []) ++ [c] ++ X := fun X => by
        simp [h10]
      rw [hgoal, if_neg h10]
      by_cases h32 : c = 32
      · subst h32
        have fx' : mpure .idxs [.string (B t), .int .i64 (i : Int)] = some (.int .u8 32) := fx
        by_cases h3 : q3 = 1
        · rw [b3, decide_eq_true h3, if_pos ⟨rfl, rfl⟩]
          obtain ⟨u1, hu1, z1, f1⟩ : ∃ u1, u1 = u ++ [32] ∧ u1.length = u.length + 1 ∧ mbin .add (.string (B u)) (.string ⟨#[32]⟩) = some (.string (B u1)) := ⟨_, rfl, by simp, s_addM (m := [32]) (by omega) (by simp)⟩
          obtain ⟨u2, hu2, z2, f2⟩ : ∃ u2, u2 = u1 ++ [32] ∧ u2.length = u1.length + 1 ∧ mbin .add (.string (B u1)) (.string (B [32])) = some (.string (B u2)) := ⟨_, rfl, by simp, s_addM (by omega) (by simp)⟩
          rw [← hu1, ← hu2]
          have hx := hfin n u2 (by omega) (by omega)
          rw [hcast] at hx
          subst h3
          clear hu1 hu2 b1 b2 b3
          rw [Rc_loop]
          simp [-ev_s_add, -ev_idxs, -ev_slstr_tt, -ev_i_shr, -ev_i_and, m8_0, hin, fx', fs, f1, f2, r3, w, w3, s3, a3]
          exact hx
        · rw [b3, decide_eq_false h3, if_neg (by simp), List.append_nil]
          obtain ⟨u2, hu2, z2, f2⟩ : ∃ u2, u2 = u ++ [32] ∧ u2.length = u.length + 1 ∧ mbin .add (.string (B u)) (.string (B [32])) = some (.string (B u2)) := ⟨_, rfl, by simp, s_addM (by omega) (by simp)⟩
          rw [← hu2]
          have hx := hfin n u2 (by omega) (by omega)
          rw [hcast] at hx
          clear hu2 b1 b2 b3
          rw [Rc_loop]
          simp [-ev_s_add, -ev_idxs, -ev_slstr_tt, -ev_i_shr, -ev_i_and, m8_0, hin, fx', fs, f2, h3, r3, w, w3, s3, a3]
          exact hx
      · have n32 : ¬ (c.toNat : Int) = 32 := fun e => h32 (UInt8.toNat_inj.1 (by show c.toNat = 32; omega))
        rw [if_neg (fun h => h32 h.1), List.append_nil]
        obtain ⟨u2, hu2, z2, f2⟩ : ∃ u2, u2 = u ++ [c] ∧ u2.length = u.length + 1 ∧ mbin .add (.string (B u)) (.string (B [c])) = some (.string (B u2)) := ⟨_, rfl, by simp, s_addM (by omega) (by simp)⟩
        rw [← hu2]
        have hx := hfin n u2 (by omega) (by omega)
        rw [hcast] at hx
        clear hu2 b1 b2 b3
        rw [Rc_loop]
        simp [-ev_s_add, -ev_idxs, -ev_slstr_tt, -ev_i_shr, -ev_i_and, m8_0, hin, fx, fs, f2, n10, n32, w]
        exact hx
end
end Go.Mod

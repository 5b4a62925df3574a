/- GateFair: the model's side. -/
import Derived.Test.YtfeaopbeiahbnaaGateF
import Derived.Test.YtfeaopbeiahbnaaLineO
set_option linter.unusedVariables false
set_option linter.unusedSimpArgs false
namespace Go.Mod
open Go.Proofs

/-- The state of the gate in between: those ahead of 'next' came in, the others wait. -/
structure FairA (k nx i : Nat) (ins : List Int) : Prop where
  le : nx ≤ i
  lo : ∀ x ∈ ins, 0 ≤ x ∧ x < (nx : Int)
  full : nx < i → ins.length = k
  most : ins.length ≤ k

theorem fair_step {g t k nx i bl o n c : Nat} {ins : List Int} {H : MH} {F : List Nat} {j : Info} {cs : List Value} {x : Int} (hk : 1 ≤ k ∧ k ≤ 5) (h : GateA g t ins (rng nx i) k H F) (hf : FairA k nx i ins) (hB : H[bl]? = some (.cells j cs)) (hbl : bl ∉ F) (hat : cs[o + i]? = some (.int .u8 x)) (hx : 0 ≤ x ∧ x < 256) (hi : i < n) (hn : n ≤ 50) :
    ∃ (H' : MH) (F' : List Nat) (nx' : Nat) (ins' : List Int), Rc mpGk (.loop m14_0) [(1, .slice (some ⟨bl, o, none⟩) n c), (5, .int .i64 (k : Int)), (6, .pointer (some ⟨g, 0, none⟩)), (7, .int .i64 (nx : Int)), (8, .int .i64 (i : Int))] H =
      Rc mpGk (.loop m14_0) [(1, .slice (some ⟨bl, o, none⟩) n c), (5, .int .i64 (k : Int)), (6, .pointer (some ⟨g, 0, none⟩)), (7, .int .i64 (nx' : Int)), (8, .int .i64 ((i + 1 : Nat) : Int))] H' ∧
      GateA g t ins' (rng nx' (i + 1)) k H' F' ∧ FairA k nx' (i + 1) ins' ∧ H'[bl]? = some (.cells j cs) ∧ bl ∉ F' := by
  have hlt := (List.getElem?_eq_some_iff.1 hB).1
  have wi : IntKind.i64.wrap ((i : Int) + 1) = (i : Int) + 1 := wrap_i64 (by omega) (by omega)
  have wx : IntKind.i64.wrap x = x := wrap_i64 (by omega) (by omega)
  have hle := hf.le
  have n1 : (i : Int) ∉ ins := fun h => by have := hf.lo _ h; omega
  have n2 : (i : Int) ∉ rng nx i := fun h => by have := mem_rng.1 h; omega
  -- behind the ask
  have ask : ∃ H1 F1 nx1 ins1 b, R mpGk 56 [.pointer (some ⟨g, 0, none⟩), .int .i64 (i : Int)] H = some (.tuple #[.bool b, .int .i64 0], H1) ∧ GateA g t ins1 (rng nx1 (i + 1)) k H1 F1 ∧ FairA k nx1 (i + 1) ins1 ∧ Upd H F H1 F1 ∧
      ((b = true ∧ (i : Int) ∈ ins1 ∧ nx1 = nx + 1 ∧ nx = i) ∨ (b = false ∧ (i : Int) ∉ ins1 ∧ nx1 = nx ∧ nx < i + 1)) ∧ 1 ≤ ins1.length := by
    by_cases hm : ins.length < k
    · have hnx : nx = i := by
        rcases Nat.lt_or_ge nx i with h | h
        · have := hf.full h; omega
        · omega
      obtain ⟨H1, F1, e1, g1, u1⟩ := R_gask_in (mp := mpGk) rfl rfl rfl rfl rfl h n1 n2 (by omega)
      subst hnx
      rw [rng_nil (Nat.le_refl _)] at g1
      refine ⟨H1, F1, nx + 1, _, true, e1, by rw [rng_nil (Nat.le_refl _)]; exact g1, ⟨Nat.le_refl _, fun y hy => ?_, fun h => by omega, by simp; omega⟩, u1, .inl ⟨rfl, by simp, rfl, rfl⟩, by simp⟩
      simp at hy
      rcases hy with hy | rfl
      · have := hf.lo y hy; omega
      · omega
    · rcases R_gask_full (mp := mpGk) rfl rfl rfl rfl rfl rfl h n1 n2 (by omega) with ⟨h64, _⟩ | ⟨_, H1, F1, e1, g1, u1⟩
      · rw [rng_len] at h64; omega
      · rw [← rng_succ hf.le] at g1
        refine ⟨H1, F1, nx, ins, false, e1, g1, ⟨by omega, hf.lo, fun _ => by have := hf.most; omega, hf.most⟩, u1, .inr ⟨rfl, n1, rfl, by omega⟩, by omega⟩
  obtain ⟨H1, F1, nx1, ins1, b, e1, g1, f1, u1, hb, hpos⟩ := ask
  obtain ⟨v2, H2, e2, x2, r2⟩ := R_gline (mp := mpGk) rfl rfl rfl g1
  have g2 := GateA.good.ext g1 x2
  have e2' := R_ghas (mp := mpGk) rfl rfl rfl g2 (i : Int)
  obtain ⟨v3, H3, e3, x3, r3⟩ := R_gin (mp := mpGk) rfl rfl g2
  have g3 := GateA.good.ext g2 x3
  have hB3 := x3.get (x2.get (u1.get hB hbl))
  have hbl3 : bl ∉ F1 := fun h => by
    rcases u1.new bl h with h | h
    · exact hbl h
    · omega
  obtain ⟨a2, m2, c2, rfl, hl2⟩ := r2.slice
  have hm2 : m2 = (i + 1) - nx1 := by rw [i64s_len, rng_len] at hl2; omega
  obtain ⟨a3, m3, c3, rfl, hl3⟩ := r3.slice
  have hm3 : m3 = ins1.length := by rw [i64s_len] at hl3; omega
  have fle := f1.le
  have t3 : x.tmod 3 = x % 3 := Int.tmod_eq_emod_of_nonneg (by omega)
  -- what is asked at the end
  have fin : ∀ (H4 : MH) (F4 : List Nat) (nx4 : Nat) (ins4 : List Int), GateA g t ins4 (rng nx4 (i + 1)) k H4 F4 → FairA k nx4 (i + 1) ins4 →
      ∃ a5 m5 c5 H5 a6 m6 c6 H6 a7 c7 H7, R mpGk 60 [.pointer (some ⟨g, 0, none⟩)] H4 = some (.slice a5 m5 c5, H5) ∧ R mpGk 61 [.pointer (some ⟨g, 0, none⟩)] H5 = some (.slice a6 m6 c6, H6) ∧ R mpGk 60 [.pointer (some ⟨g, 0, none⟩)] H6 = some (.slice a7 m5 c7, H7) ∧ Ext H4 H6 ∧ Ext H6 H7 ∧ ¬ k < m5 ∧ ((m6 = 0 ∧ nx4 = i + 1) ∨ (0 < m6 ∧ m5 = k ∧ nx4 < i + 1)) := by
    intro H4 F4 nx4 ins4 g4 f4
    obtain ⟨v5, H5, e5, x5, r5⟩ := R_gin (mp := mpGk) rfl rfl g4
    have g5 := GateA.good.ext g4 x5
    obtain ⟨v6, H6, e6, x6, r6⟩ := R_gline (mp := mpGk) rfl rfl rfl g5
    have g6 := GateA.good.ext g5 x6
    obtain ⟨v7, H7, e7, x7, r7⟩ := R_gin (mp := mpGk) rfl rfl g6
    obtain ⟨a5, m5, c5, rfl, hl5⟩ := r5.slice
    obtain ⟨a6, m6, c6, rfl, hl6⟩ := r6.slice
    obtain ⟨a7, m7, c7, rfl, hl7⟩ := r7.slice
    rw [i64s_len, Nat.mul_one] at hl5 hl7
    rw [i64s_len, rng_len, Nat.mul_one] at hl6
    have : m7 = m5 := by omega
    subst this
    have h1 := f4.le; have h2 := f4.full; have h3 := f4.most
    refine ⟨_, _, _, _, _, _, _, _, _, _, _, e5, e6, e7, x5.trans x6, x7, by omega, ?_⟩
    rcases Nat.lt_or_ge nx4 (i + 1) with h | h
    · have := h2 h; right; omega
    · left; omega
  have hpos' : 0 < m3 := by omega
  have wn : IntKind.i64.wrap ((nx : Int) + 1) = (nx : Int) + 1 := wrap_i64 (by omega) (by omega)
  have wn1 : IntKind.i64.wrap ((nx1 : Int) + 1) = (nx1 : Int) + 1 := wrap_i64 (by omega) (by omega)
  have hnz : ¬ (m3 = 0) := by omega
  have hd : decide ((i : Int) ∈ ins1) = b := by
    rcases hb with ⟨rfl, h1, _⟩ | ⟨rfl, h1, _⟩ <;> simp [h1]
  rw [hd] at e2'
  -- the two ways it goes
  have q1 : (b = true ∧ m2 = 0 ∧ nx = i ∧ nx1 = i + 1) ∨ (b = false ∧ ¬ m2 = 0 ∧ ((m2 : Int) == 0) = false ∧ nx1 = nx ∧ nx < i + 1) := by
    rcases hb with ⟨h0, h1, h2, h3⟩ | ⟨h0, h1, h2, h3⟩
    · exact .inl ⟨h0, by omega, h3, by omega⟩
    · exact .inr ⟨h0, by omega, by simp; omega, h2, h3⟩
  clear hb hm2 hl2 hl3 r2 hd n1 n2 hpos
  by_cases hlv : 0 < x % 3
  · -- somebody leaves
    obtain ⟨q, hq⟩ : ∃ q : Nat, (q : Int) = x.tmod (m3 : Int) := ⟨(x.tmod (m3 : Int)).toNat, by have := Int.tmod_nonneg (m3 : Int) hx.1; omega⟩
    have hql : q < m3 := by have := Int.tmod_lt_of_pos x (show (0 : Int) < (m3 : Int) by omega); omega
    obtain ⟨y, hy⟩ : ∃ y, ins1[q]? = some y := ⟨_, List.getElem?_eq_getElem (by omega)⟩
    have hym := List.mem_of_getElem? hy
    obtain ⟨bb, oo, jj, ccs, ha3, hB3', _, hat3⟩ := r3.at hql
    subst ha3
    rw [i64s_get hy] at hat3
    obtain ⟨H4, F4, e4, g4, u4⟩ := R_gleave (mp := mpGk) rfl rfl rfl rfl g3 hym
    have hB4 := u4.get hB3 hbl3
    have hbl4 : bl ∉ F4 := fun h => by
      have := (List.getElem?_eq_some_iff.1 hB3).1
      rcases u4.new bl h with h | h
      · exact hbl3 h
      · omega
    have hel := List.length_erase_of_mem hym
    have after : ∃ nx4 z ins4, R mpGk 58 [.pointer (some ⟨g, 0, none⟩), .int .i64 y] H3 = some (.tuple #[.int .i64 z, .bool (decide (nx1 < i + 1)), .int .i64 0], H4) ∧ GateA g t ins4 (rng nx4 (i + 1)) k H4 F4 ∧ FairA k nx4 (i + 1) ins4 ∧ ((nx1 < i + 1 ∧ nx4 = nx1 + 1 ∧ z = nx1) ∨ (¬ nx1 < i + 1 ∧ nx4 = nx1)) := by
      by_cases hw : nx1 < i + 1
      · rw [rng_cons hw] at g4 e4
        simp at g4 e4
        refine ⟨nx1 + 1, _, _, by simpa [hw] using e4, g4, ?_, .inl ⟨hw, rfl, rfl⟩⟩
        have := f1.full hw
        refine ⟨by omega, fun z hz => ?_, fun _ => by simp; omega, by simp; omega⟩
        rcases List.mem_append.1 hz with hz | hz
        · have := f1.lo z (List.mem_of_mem_erase hz); omega
        · simp at hz; subst hz; omega
      · rw [rng_nil (by omega)] at g4 e4
        simp at g4 e4
        refine ⟨nx1, _, _, by simpa [hw] using e4, by rw [rng_nil (by omega)]; exact g4, ?_, .inr ⟨hw, rfl⟩⟩
        have := f1.most
        exact ⟨by omega, fun z hz => f1.lo z (List.mem_of_mem_erase hz), fun h => by omega, by omega⟩
    obtain ⟨nx4, z, ins4, e4', g4', f4, hz⟩ := after
    obtain ⟨a5, m5, c5, H5, a6, m6, c6, H6, a7, c7, H7, e5, e6, e7, x46, x67, hm5, q2⟩ := fin H4 F4 _ _ g4' f4
    refine ⟨if m6 = 0 then H6 else H7, F4, nx4, ins4, ?_, ?_, f4, ?_, hbl4⟩
    · rw [Rc_loop]
      clear fin e4 g4 f1 f4 hf hm3
      rcases q1 with ⟨rfl, rfl, rfl, rfl⟩ | ⟨rfl, hm2, hm2', rfl, hni⟩
      · have h4 : nx4 = nx + 1 := by omega
        subst h4
        have h6 : m6 = 0 := by omega
        subst h6
        simp at e4'
        simp [m14_0, hi, e1, e2, e2', e3, ld_at hB3, hat, t3, hlv, hpos', wx, ← hq, hnz, hql, ld_at hB3', hat3, e4', e5, e6, hm5, wn]
      · have h4 : nx4 = nx1 + 1 ∧ z = nx1 := by omega
        obtain ⟨rfl, rfl⟩ := h4
        simp [hni] at e4'
        rcases q2 with ⟨rfl, hnn⟩ | ⟨hm6, rfl, _⟩
        · simp [m14_0, hi, e1, e2, e2', e3, ld_at hB3, hat, t3, hlv, hpos', wx, ← hq, hnz, hql, ld_at hB3', hat3, e4', e5, e6, hm5, wn, hm2, hm2', wi]
        · have h6 : ¬ m6 = 0 := by omega
          simp [m14_0, hi, e1, e2, e2', e3, ld_at hB3, hat, t3, hlv, hpos', wx, ← hq, hnz, hql, ld_at hB3', hat3, e4', e5, e6, e7, hm5, wn, hm2, hm2', wi, hm6, h6]
    · split
      · exact GateA.good.ext g4' x46
      · exact GateA.good.ext (GateA.good.ext g4' x46) x67
    · split
      · exact x46.get hB4
      · exact x67.get (x46.get hB4)
  · -- nobody does
    obtain ⟨a5, m5, c5, H5, a6, m6, c6, H6, a7, c7, H7, e5, e6, e7, x46, x67, hm5, q2⟩ := fin H3 F1 _ _ g3 f1
    refine ⟨if m6 = 0 then H6 else H7, F1, nx1, ins1, ?_, ?_, f1, ?_, hbl3⟩
    · rw [Rc_loop]
      clear fin f1 hf
      rcases q1 with ⟨rfl, rfl, rfl, rfl⟩ | ⟨rfl, hm2, hm2', rfl, hni⟩
      · have h6 : m6 = 0 := by omega
        subst h6
        simp [m14_0, hi, e1, e2, e2', e3, ld_at hB3, hat, t3, hlv, e5, e6, hm5, wn]
      · have h6 : 0 < m6 ∧ m5 = k := by omega
        obtain ⟨hm6, rfl⟩ := h6
        have h6 : ¬ m6 = 0 := by omega
        simp [m14_0, hi, e1, e2, e2', e3, ld_at hB3, hat, t3, hlv, e5, e6, e7, hm5, wn, hm2, hm2', wi, hm6, h6]
    · split
      · exact GateA.good.ext g3 x46
      · exact GateA.good.ext (GateA.good.ext g3 x46) x67
    · split
      · exact x46.get hB3
      · exact x67.get (x46.get hB3)

theorem fair_loop {g t k bl o n c : Nat} {j : Info} {cs : List Value} (hk : 1 ≤ k ∧ k ≤ 5) (hn : n ≤ 50) (hat : ∀ i, i < n → ∃ x : Int, cs[o + i]? = some (.int .u8 x) ∧ 0 ≤ x ∧ x < 256) : ∀ (m i nx : Nat) (ins : List Int) (H : MH) (F : List Nat), i + m = n → GateA g t ins (rng nx i) k H F → FairA k nx i ins → H[bl]? = some (.cells j cs) → bl ∉ F →
    ∃ (nx' : Nat) (H' : MH), Rc mpGk (.loop m14_0) [(1, .slice (some ⟨bl, o, none⟩) n c), (5, .int .i64 (k : Int)), (6, .pointer (some ⟨g, 0, none⟩)), (7, .int .i64 (nx : Int)), (8, .int .i64 (i : Int))] H =
      some (.exit 0, [(1, .slice (some ⟨bl, o, none⟩) n c), (5, .int .i64 (k : Int)), (6, .pointer (some ⟨g, 0, none⟩)), (7, .int .i64 (nx' : Int)), (8, .int .i64 (n : Int)), (29, .bool false)], H')
  | 0, i, nx, ins, H, F, hm, h, hf, hB, hbl => by
    have : i = n := by omega
    subst this
    refine ⟨nx, H, ?_⟩
    rw [Rc_loop]
    simp [m14_0]
  | m + 1, i, nx, ins, H, F, hm, h, hf, hB, hbl => by
    obtain ⟨x, h1, h2⟩ := hat i (by omega)
    obtain ⟨H1, F1, nx1, ins1, e1, g1, f1, B1, b1⟩ := fair_step (c := c) hk h hf hB hbl h1 h2 (by omega) hn
    obtain ⟨T, H2, e2⟩ := fair_loop hk hn hat m (i + 1) nx1 ins1 H1 F1 (by omega) g1 f1 B1 b1
    exact ⟨T, H2, by rw [e1]; exact e2⟩

theorem gateFair {H : MH} {most : Int} {v : Value} {xs : List Int} (hm : 0 ≤ most ∧ most < 256) (hr : Row 1 H v (u8s xs)) (hb : ∀ x ∈ xs, 0 ≤ x ∧ x < 256) : ∃ H', R mpGk 14 [.int .u8 most, v] H = some (.bool true, H') := by
  refine isTrue_ex ?_
  obtain ⟨a, n, c, rfl, hl⟩ := hr.slice
  have hn : n = xs.length := by rw [u8s_len] at hl; omega
  subst hn
  by_cases hbig : 50 < xs.length
  · have hbi : (50 : Int) < (xs.length : Int) := by omega
    rw [R_code (fn := m14) rfl]
    simp [m14, knownG_R, hbi]
  · have hbi : ¬ (50 : Int) < (xs.length : Int) := by omega
    obtain ⟨k, hk⟩ : ∃ k : Nat, (k : Int) = most.tmod 5 + 1 := ⟨(most.tmod 5 + 1).toNat, by have := Int.tmod_nonneg (5 : Int) hm.1; omega⟩
    have ht : most.tmod 5 < 5 := Int.tmod_lt_of_pos _ (by omega)
    have ht0 := Int.tmod_nonneg (5 : Int) hm.1
    have hk5 : 1 ≤ k ∧ k ≤ 5 := by omega
    have w0 : IntKind.i64.wrap (most.tmod 5) = most.tmod 5 := wrap_i64 (by omega) (by omega)
    have w1 : IntKind.i64.wrap (most.tmod 5 + 1) = (k : Int) := by rw [hk]; exact wrap_i64 (by omega) (by omega)
    obtain ⟨H1, e1, x1, g1⟩ := R_gnew (mp := mpGk) rfl rfl (H := H) (most := (k : Int))
    have hmm : min (max (k : Int) 1) 64 = (k : Int) := by omega
    rw [hmm] at g1
    have hat : ∀ i, i < xs.length → ∃ bl o j cs, a = some ⟨bl, o, none⟩ ∧ H[bl]? = some (.cells j cs) := fun i hi => by
      obtain ⟨b, o, j, cs, h1, h2, _⟩ := hr.at hi
      exact ⟨b, o, j, cs, h1, h2⟩
    by_cases h0 : xs.length = 0
    · rw [h0]
      rw [R_code (fn := m14) rfl]
      simp [m14, knownG_R, w0, w1, e1, Rc_loop, m14_0]
    · obtain ⟨bl, o, j, cs, rfl, hB⟩ := hat 0 (by omega)
      have hlt := (List.getElem?_eq_some_iff.1 hB).1
      obtain ⟨T, H2, e2⟩ := fair_loop (g := H.length + 1) (t := H.length) (k := k) (bl := bl) (o := o) (n := xs.length) (c := c) (j := j) (cs := cs) hk5 (by omega) (fun i hi => by
        obtain ⟨b', o', j', cs', h1, h2, _, h3⟩ := hr.at hi
        cases h1
        rw [hB] at h2; cases h2
        have hx : xs[i]? = some xs[i] := List.getElem?_eq_getElem hi
        rw [u8s_get hx] at h3
        exact ⟨_, h3, hb _ (List.getElem_mem hi)⟩) xs.length 0 0 [] H1 _ (by omega) (by rw [rng_nil (Nat.le_refl _)]; exact g1) ⟨Nat.le_refl _, by simp, fun h => by omega, by simp⟩ (x1.get hB) (by simp; omega)
      simp at e2
      rw [R_code (fn := m14) rfl]
      simp [m14, knownG_R, hbi, w0, w1, e1, e2]
end Go.Mod

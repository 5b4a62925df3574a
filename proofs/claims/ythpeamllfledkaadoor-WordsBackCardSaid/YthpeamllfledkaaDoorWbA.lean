/- WordsBack: words with blanks between come back, lines with line ends between too. -/
import Derived.Test.YthpeamllfledkaaDoorWeA
set_option linter.unusedVariables false
set_option linter.unusedSimpArgs false
namespace Go.Mod

/-- A byte that stands in a word. -/
def wordB (b : UInt8) : Prop := b ≠ 32 ∧ b ≠ 35 ∧ b ≠ 10
/-- Whatever follows, the words ahead of it are these. -/
def InS (s : List UInt8) (ws : List (List UInt8)) : Prop := 35 ∉ s ∧ ∀ r : List UInt8, (r = [] ∨ ∃ t, r = 32 :: t) → noE (cutAt 32 (s ++ r)) = ws ++ noE (cutAt 32 r)
def InT (t : List UInt8) (ws : List (List UInt8)) : Prop := ∀ r : List UInt8, trimE (cutAt 10 (t ++ r)) = ws ++ trimE (cutAt 10 r)
theorem InS.nil : InS [] [] := ⟨by simp, fun r _ => by simp⟩
theorem InT.nil : InT [] [] := fun r => by simp
theorem InS.add {s : List UInt8} {ws : List (List UInt8)} (h : InS s ws) {g : Nat} {w : List UInt8} (hw : w ≠ []) (hb : ∀ b ∈ w, wordB b) : InS (s ++ List.replicate (1 + g) 32 ++ w) (ws ++ [w]) := by
  have h32 : (32 : UInt8) ∉ w := fun hm => (hb _ hm).1 rfl
  have h35 : (35 : UInt8) ∉ w := fun hm => (hb _ hm).2.1 rfl
  refine ⟨?_, fun r hr => ?_⟩
  · simp only [List.mem_append, not_or]
    exact ⟨⟨h.1, rep_no (by decide)⟩, h35⟩
  · have e : s ++ List.replicate (1 + g) 32 ++ w ++ r = s ++ (List.replicate (1 + g) 32 ++ (w ++ r)) := by simp
    rw [e, h.2 _ (.inr ⟨List.replicate g 32 ++ (w ++ r), by rw [Nat.add_comm, List.replicate_succ, List.cons_append]⟩), cutAt_rep, noE_rep, List.append_assoc]
    congr 1
    rcases hr with rfl | ⟨t, rfl⟩
    · rw [List.append_nil, cutAt_no h32]
      simp [noE, cutAt, hw]
    · rw [cutAt_app h32]
      have : cutAt 32 (32 :: t) = [] :: cutAt 32 t := by conv => lhs; unfold cutAt; rw [if_pos rfl]
      rw [this]
      simp [noE, hw]
theorem InT.add {t : List UInt8} {ws : List (List UInt8)} (h : InT t ws) {w : List UInt8} (hb : ∀ b ∈ w, wordB b) : InT (t ++ w ++ [10]) (ws ++ [w]) := fun r => by
  have h10 : (10 : UInt8) ∉ w := fun hm => (hb _ hm).2.2 rfl
  have e : t ++ w ++ [10] ++ r = t ++ (w ++ 10 :: r) := by simp
  rw [e, h, cutAt_app h10, trimE_cons (cutAt_ne _ _)]
  simp
theorem tw_all {a : List UInt8} (h : (35 : UInt8) ∉ a) : a.takeWhile (· ≠ 35) = a := by
  have := tw_app (r := []) h
  rw [List.append_nil] at this
  rw [this]; simp
theorem InS.words {s : List UInt8} {ws : List (List UInt8)} (h : InS s ws) : wordsOf s = ws := by
  unfold wordsOf
  rw [tw_all h.1]
  have := h.2 [] (.inl rfl)
  rw [List.append_nil] at this
  rw [this]
  simp [noE, cutAt]
theorem InS.more {s : List UInt8} {ws : List (List UInt8)} (h : InS s ws) (m : List UInt8) : wordsOf (s ++ [32, 35] ++ m) = ws := by
  unfold wordsOf
  have e : s ++ [32, 35] ++ m = (s ++ [32]) ++ 35 :: m := by simp
  rw [e, tw_app (by simp only [List.mem_append, not_or]; exact ⟨h.1, by decide⟩)]
  have : (35 :: m).takeWhile (· ≠ (35 : UInt8)) = [] := by simp
  rw [this, List.append_nil, h.2 [32] (.inr ⟨[], rfl⟩)]
  have : noE (cutAt 32 [32]) = [] := rfl
  rw [this, List.append_nil]
theorem InT.lines {t : List UInt8} {ws : List (List UInt8)} (h : InT t ws) : trimE (cutAt 10 t) = ws := by
  have := h []
  rw [List.append_nil] at this
  rw [this]
  have : trimE (cutAt 10 []) = [] := rfl
  rw [this, List.append_nil]

section
variable {mp : FuncId → Option MDef} {H : MH}
theorem wb_inner {ls : List (List UInt8)} {a : Option Addr} {n c : Nat} (hr : Row 1 H (.slice a n c) (sv ls)) {i : Nat} {x : List UInt8} (hx : ls[i]? = some x) (hl : x.length ≤ 20) {v1 v2 v7 v8 : Value} : ∀ (m k : Nat), k + m = x.length → (∀ b ∈ x.take k, wordB b) →
    ((∀ b ∈ x, wordB b) ∧ Rc mp (.loop m4_0) [(0, .slice a n c), (1, v1), (2, v2), (7, v7), (8, v8), (9, .int .i64 (i : Int)), (10, .int .i64 (k : Int))] H =
      some (.exit 2, [(0, .slice a n c), (1, v1), (2, v2), (7, v7), (8, v8), (9, .int .i64 (i : Int)), (10, .int .i64 (x.length : Int)), (47, .bool false)], H)) ∨
    Rc mp (.loop m4_0) [(0, .slice a n c), (1, v1), (2, v2), (7, v7), (8, v8), (9, .int .i64 (i : Int)), (10, .int .i64 (k : Int))] H = some (.ret, [(6, .bool true)], H) := by
  have hn := hr.svn
  have hil := (List.getElem?_eq_some_iff.1 hx).1
  have hin : i < n := by omega
  obtain ⟨b, o, j, cs, rfl, hB, hat⟩ := hr.sv hx
  have hld := ld_at hB (o + i)
  rw [hat] at hld
  intro m
  induction m with
  | zero =>
    intro k hk hg
    have : k = x.length := by omega
    subst this
    rw [List.take_length] at hg
    refine .inl ⟨hg, ?_⟩
    rw [Rc_loop]
    simp [m4_0, hin, hld]
  | succ m ih =>
    intro k hk hg
    have hkl : k < x.length := by omega
    have w : IntKind.i64.wrap ((k : Int) + 1) = (k : Int) + 1 := wrap_i64 (by omega) (by omega)
    have hgx := List.getElem?_eq_getElem hkl
    generalize hz : x[k] = z at hgx
    have hz' : ∀ h, (B x)[k]'h = z := fun h => by simp [hz]
    by_cases h1 : z = 32
    · refine .inr ?_
      have hz1 : (z.toNat : Int) = 32 := by rw [h1]; rfl
      rw [Rc_loop]
      simp [m4_0, hin, hld, hkl, hz, hz1]
    · have n1 : ¬ (z.toNat : Int) = 32 := fun e => h1 (UInt8.toNat_inj.1 (by show z.toNat = 32; omega))
      by_cases h2 : z = 35
      · refine .inr ?_
        have hz1 : (z.toNat : Int) = 35 := by rw [h2]; rfl
        rw [Rc_loop]
        simp [m4_0, hin, hld, hkl, hz, hz1]
      · have n2 : ¬ (z.toNat : Int) = 35 := fun e => h2 (UInt8.toNat_inj.1 (by show z.toNat = 35; omega))
        by_cases h3 : z = 10
        · refine .inr ?_
          have hz1 : (z.toNat : Int) = 10 := by rw [h3]; rfl
          rw [Rc_loop]
          simp [m4_0, hin, hld, hkl, hz, hz1]
        · have n3 : ¬ (z.toNat : Int) = 10 := fun e => h3 (UInt8.toNat_inj.1 (by show z.toNat = 10; omega))
          rcases ih (k + 1) (by omega) (by
            intro b hb
            rw [List.take_add_one, hgx] at hb
            rcases List.mem_append.1 hb with hb | hb
            · exact hg b hb
            · simp at hb; subst hb; exact ⟨h1, h2, h3⟩) with ⟨q1, q2⟩ | q2
          · refine .inl ⟨q1, ?_⟩
            rw [Rc_loop]
            simp [m4_0, hin, hld, hkl, hz, n1, n2, n3, w]
            exact q2
          · refine .inr ?_
            rw [Rc_loop]
            simp [m4_0, hin, hld, hkl, hz, n1, n2, n3, w]
            exact q2
theorem and_one (y : Int) : ∃ q : Nat, q ≤ 1 ∧ mbin .and (.int .u16 y) (.int .u16 1) = some (.int .u16 (q : Int)) := by
  have h1 : (BitVec.ofInt 16 y &&& BitVec.ofInt 16 1).toNat ≤ 1 := by
    rw [BitVec.toNat_and]
    exact Nat.and_le_right
  refine ⟨(BitVec.ofInt 16 y &&& BitVec.ofInt 16 1).toNat, h1, ?_⟩
  rw [ev_i_and]
  show some (Value.int .u16 (IntKind.u16.wrap ((BitVec.ofInt 16 y &&& BitVec.ofInt 16 1).toNat : Int))) = _
  rw [show IntKind.u16.wrap ((BitVec.ofInt 16 y &&& BitVec.ofInt 16 1).toNat : Int) = ((BitVec.ofInt 16 y &&& BitVec.ofInt 16 1).toNat : Int) by
    generalize (BitVec.ofInt 16 y &&& BitVec.ofInt 16 1).toNat = q at h1
    rw [IntKind.wrap_u16]; omega]
theorem wb_outer {ls : List (List UInt8)} (hll : ls.length ≤ 12) {a : Option Addr} {n c : Nat} (hr : Row 1 H (.slice a n c) (sv ls)) {g : Int} {v2 : Value} : ∀ (m i : Nat) (s t : List UInt8), i + m = ls.length → InS s (ls.take i) → InT t (ls.take i) → s.length ≤ 22 * i → t.length ≤ 21 * i →
    (∃ s' t', InS s' ls ∧ InT t' ls ∧ s'.length ≤ 300 ∧ t'.length ≤ 300 ∧ Rc mp (.loop m4_1) [(0, .slice a n c), (1, .int .u16 g), (2, v2), (7, .string (B s)), (8, .string (B t)), (9, .int .i64 (i : Int))] H =
      some (.exit 0, [(0, .slice a n c), (1, .int .u16 g), (2, v2), (7, .string (B s')), (8, .string (B t')), (9, .int .i64 (n : Int)), (24, .bool false)], H)) ∨
    Rc mp (.loop m4_1) [(0, .slice a n c), (1, .int .u16 g), (2, v2), (7, .string (B s)), (8, .string (B t)), (9, .int .i64 (i : Int))] H = some (.ret, [(6, .bool true)], H) := by
  have hn := hr.svn
  intro m
  induction m with
  | zero =>
    intro i s t hi hS hT hs ht
    have : i = ls.length := by omega
    subst this
    rw [List.take_length] at hS hT
    refine .inl ⟨s, t, hS, hT, by omega, by omega, ?_⟩
    rw [Rc_loop]
    simp [m4_1, hn]
  | succ m ih =>
    intro i s t hi hS hT hs ht
    have hil : i < ls.length := by omega
    have hin : i < n := by omega
    have hx := List.getElem?_eq_getElem hil
    generalize ls[i] = x at hx
    obtain ⟨b, o, j, cs, e, hB, hat⟩ := hr.sv hx
    have hld := ld_at hB (o + i)
    rw [hat] at hld
    have w : IntKind.i64.wrap ((i : Int) + 1) = (i : Int) + 1 := wrap_i64 (by omega) (by omega)
    by_cases h0 : x.length = 0
    · refine .inr ?_
      have h0' : x = [] := List.length_eq_zero_iff.1 h0
      subst h0'
      rw [Rc_loop]
      subst e
      simp [m4_1, hin, hld]
    · by_cases h20 : 20 < x.length
      · refine .inr ?_
        have h0' : ¬ x = [] := fun e => h0 (by simp [e])
        have h20i : (20 : Int) < (x.length : Int) := by omega
        rw [Rc_loop]
        subst e
        simp [m4_1, hin, hld, h0', h20i]
      · have h0' : ¬ x = [] := fun e => h0 (by simp [e])
        have h20' : ¬ (20 : Int) < (x.length : Int) := by omega
        rcases wb_inner (mp := mp) hr hx (by omega) (v1 := .int .u16 g) (v2 := v2) (v7 := .string (B s)) (v8 := .string (B t)) x.length 0 (by omega) (by simp) with ⟨q1, q2⟩ | q2
        · have w64 : IntKind.u64.wrap (i : Int) = (i : Int) := by rw [IntKind.wrap_u64]; omega
          obtain ⟨y, hshr⟩ : ∃ y, mbin .shr (.int .u16 g) (.int .u64 (i : Int)) = some (.int .u16 y) := ⟨_, by rw [ev_i_shr, if_neg (by omega)]⟩
          obtain ⟨q, hq, hand⟩ := and_one y
          have wq : IntKind.i64.wrap (q : Int) = (q : Int) := wrap_i64 (by omega) (by omega)
          have wq1 : IntKind.i64.wrap (1 + (q : Int)) = 1 + (q : Int) := wrap_i64 (by omega) (by omega)
          have hsl : mpure (.slstr false true) [.string ⟨#[32, 32, 32]⟩, .int .i64 (1 + (q : Int))] = some (.string (B (List.replicate (1 + q) 32))) := by
            have : q = 0 ∨ q = 1 := by omega
            rcases this with rfl | rfl <;> rfl
          have hls : ls.take (i + 1) = ls.take i ++ [x] := by rw [List.take_add_one, hx]; rfl
          have hS' := hS.add (g := q) h0' q1
          have hT' := hT.add q1
          rw [← hls] at hS' hT'
          have z1 : s.length + (1 + q) ≤ 9223372036854775807 := by omega
          have z2 : s.length + (1 + q) + x.length ≤ 9223372036854775807 := by omega
          have z3 : t.length + x.length ≤ 9223372036854775807 := by omega
          have z4 : t.length + x.length + 1 ≤ 9223372036854775807 := by omega
          simp at q2
          rcases ih (i + 1) _ _ (by omega) hS' hT' (by simp; omega) (by simp; omega) with ⟨s', t', k1, k2, k3, k4, k5⟩ | k5
          · refine .inl ⟨s', t', k1, k2, k3, k4, ?_⟩
            simp only [List.append_assoc] at k5
            rw [Rc_loop]
            subst e
            simp [-ev_i_shr, -ev_i_and, -ev_slstr_ft, m4_1, hin, hld, h0', h20', q2, w64, hshr, hand, wq, wq1, hsl, w, B_add, size_mk, mdraw_plain, z1, z2, z3, z4]
            exact k5
          · refine .inr ?_
            simp only [List.append_assoc] at k5
            rw [Rc_loop]
            subst e
            simp [-ev_i_shr, -ev_i_and, -ev_slstr_ft, m4_1, hin, hld, h0', h20', q2, w64, hshr, hand, wq, wq1, hsl, w, B_add, size_mk, mdraw_plain, z1, z2, z3, z4]
            exact k5
        · refine .inr ?_
          simp at q2
          rw [Rc_loop]
          subst e
          simp [m4_1, hin, hld, h0', h20', q2]
end

theorem wordsBack {H : MH} {v : Value} {ls : List (List UInt8)} (hr : Row 1 H v (sv ls)) {g : Int} {more : List UInt8} : ∃ H', R mpW 4 [v, .int .u16 g, .string (B more)] H = some (.bool true, H') := by
  obtain ⟨a, n, c, rfl, _⟩ := hr.slice
  have hn := hr.svn
  have hkn : R mpW 12 [] H = some (.bool true, H) := R_intr (s := constS (.bool true)) rfl
  rw [R_code (show mpW 4 = some (.code m4) from rfl)]
  by_cases h12 : (12 : Int) < (n : Int)
  · exact ⟨H, by simp [m4, hkn, h12]⟩
  · by_cases h40 : (40 : Int) < (more.length : Int)
    · exact ⟨H, by simp [m4, hkn, h12, h40]⟩
    · rcases wb_outer (mp := mpW) (by omega) hr (g := g) (v2 := .string (B more)) ls.length 0 [] [] (by omega) (by simpa using InS.nil) (by simpa using InT.nil) (by simp) (by simp) with ⟨s, t, k1, k2, k3, k4, k5⟩ | k5
      · have hl : Rc mpW (.loop m4_1) [(0, .slice a n c), (1, .int .u16 g), (2, .string (B more)), (7, .string ⟨#[]⟩), (8, .string ⟨#[]⟩), (9, .int .i64 0)] H = _ := k5
        obtain ⟨a1, n1, c1, H1, e1, v1, x1⟩ := R_words (mp := mpW) (H := H) rfl rfl rfl (l := s) (by omega)
        rw [k1.words] at v1
        have s1 := R_sameW (mp := mpW) (H := H1) rfl (by omega) v1 (x1.row hr)
        obtain ⟨a2, n2, c2, H2, e2, v2, x2⟩ := R_words (mp := mpW) (H := H1) rfl rfl rfl (l := s ++ [32, 35] ++ more) (by simp; omega)
        rw [k1.more] at v2
        have s2 := R_sameW (mp := mpW) (H := H2) rfl (by omega) v2 ((x1.trans x2).row hr)
        obtain ⟨a3, n3, c3, H3, e3, v3, x3⟩ := R_lines (mp := mpW) (H := H2) rfl rfl (l := t) (by omega)
        rw [k2.lines] at v3
        have s3 := R_sameW (mp := mpW) (H := H3) rfl (by omega) v3 (((x1.trans x2).trans x3).row hr)
        have z1 : s.length + 2 ≤ 9223372036854775807 := by omega
        have z2 : s.length + 2 + more.length ≤ 9223372036854775807 := by omega
        simp only [List.append_assoc, List.cons_append, List.nil_append] at e2
        rw [decide_eq_true rfl] at s1 s2 s3
        exact ⟨H3, by simp [m4, hkn, h12, h40, hl, e1, s1, e2, s2, e3, s3, B_add, size_mk, z1, z2]⟩
      · have hl : Rc mpW (.loop m4_1) [(0, .slice a n c), (1, .int .u16 g), (2, .string (B more)), (7, .string ⟨#[]⟩), (8, .string ⟨#[]⟩), (9, .int .i64 0)] H = _ := k5
        exact ⟨H, by simp [m4, hkn, h12, h40, hl]⟩
theorem rep_strs {H : MH} {v : Value} {x : D} (h : Rep H (.row [.str]) v x) : ∃ ls, Row 1 H v (sv ls) := by
  cases h with
  | nil => exact ⟨[], .inl ⟨rfl, rfl⟩⟩
  | row hB hn hm hl hw hat =>
    rename_i b n cs ds
    have key : ∀ i, i < cs.length → ∃ l, cs[i]? = some (.string (B l)) := fun i hi => by
      have hl1 : cs.length = n := by rw [hl]; exact Nat.mul_one n
      have hi' : i < ds.length := by omega
      have hd := List.getElem?_eq_getElem hi'
      have hdl := hw _ (List.mem_of_getElem? hd)
      have hd0 : (ds[i])[0]? = some ((ds[i])[0]'(by rw [hdl]; simp)) := List.getElem?_eq_getElem _
      have hc := List.getElem?_eq_getElem hi
      have := hat i 0 _ .str _ cs[i] hd rfl hd0 (by simp)
      cases hq : cs[i] with
      | string s =>
        obtain ⟨l, rfl⟩ := B_eta s
        exact ⟨l, by rw [hc, hq]⟩
      | _ => rw [hq] at this; cases this
    refine ⟨cs.map fun v => match v with | .string s => s.data.toList | _ => [], .inr ⟨b, 0, n, n, _, cs, rfl, Nat.le_refl _, hB, rfl, by simp at hl; simp [hl], ?_⟩⟩
    rw [List.drop_zero, List.take_of_length_le (by simp at hl; simp [hl])]
    apply List.ext_getElem?
    intro i
    by_cases hi : i < cs.length
    · obtain ⟨l, hc⟩ := key i hi
      simp [sv, hc]
    · rw [List.getElem?_eq_none (by omega), List.getElem?_eq_none (by simp [sv]; omega)]
theorem wordsBack2 {H : MH} {v v2 : Value} {x y : D} (hr : Rep H (.row [.str]) v x) {g : Int} (h2 : Rep H .str v2 y) : ∃ H', R mpW 4 [v, .int .u16 g, v2] H = some (.bool true, H') := by
  obtain ⟨ls, hr⟩ := rep_strs hr
  cases h2
  rename_i s _
  obtain ⟨l, rfl⟩ := B_eta s
  exact wordsBack hr
end Go.Mod

/- TextNested. -/
import Derived.Test.YthpeamllfledkaaDoorTnA
set_option linter.unusedVariables false
set_option linter.unusedSimpArgs false
namespace Go.Mod
open Go.Lib

def sTaskX : Bs := [116, 97, 115, 107, 32, 120, 32, 53, 48, 32, 53, 48, 32, 57, 32, 48, 32, 114, 117, 110, 58, 49, 32, 108, 111, 99, 107, 58]
def sLockN : Bs := [58, 108, 111, 99, 107, 58]
def sWalk : Bs := [32, 119, 97, 108, 107, 58, 55]
def lastN (a b : Int) (more : Bool) : Bs := sTaskX ++ (textL a ++ (sLockN ++ (textL b ++ ([58, 51] ++ ((if more then sWalk else []) ++ [10])))))
def isNested (n : Nat) : (Int × Int) ⊕ (SetL × Nat) → Bool
  | .inl e => e.1 == 3 + (n : Int) && e.2 == 18
  | _ => false
set_option maxRecDepth 100000 in
theorem nest_all : ((List.range 5).all fun n => (List.range 2).all fun a => (List.range 2).all fun b => [true, false].all fun more => isNested n (parseL (nestS n ++ lastN (a : Int) (b : Int) more))) = true := by kernel_rfl
theorem nest_parse {n a b : Nat} (hn : n ≤ 4) (ha : a ≤ 1) (hb : b ≤ 1) (more : Bool) : parseL (nestS n ++ lastN (a : Int) (b : Int) more) = .inl (3 + (n : Int), 18) := by
  have h1 := List.all_eq_true.1 nest_all n (List.mem_range.2 (by omega))
  have h2 := List.all_eq_true.1 h1 a (List.mem_range.2 (by omega))
  have h3 := List.all_eq_true.1 h2 b (List.mem_range.2 (by omega))
  have h4 := List.all_eq_true.1 h3 more (by cases more <;> simp)
  unfold isNested at h4
  split at h4
  · rename_i e he
    obtain ⟨x, y⟩ := e
    simp only [Bool.and_eq_true, beq_iff_eq] at h4
    rw [he, h4.1, h4.2]
  · cases h4

theorem textNested {H : MH} {a b l : Int} {more : Bool} (ha : 0 ≤ a ∧ a < 256) (hb : 0 ≤ b ∧ b < 256) (hl : 0 ≤ l ∧ l < 256) : ∃ H', R mpX 11 [.int .u8 a, .int .u8 b, .int .u8 l, .bool more] H = some (.bool true, H') := by
  have hkn : R mpX 24 [] H = some (.bool true, H) := R_intr (s := constS (.bool true)) rfl
  obtain ⟨n, hn, hn4⟩ : ∃ n : Nat, l.tmod 5 = (n : Int) ∧ n ≤ 4 := ⟨(l.tmod 5).toNat, by rw [Int.tmod_eq_emod_of_nonneg hl.1]; omega, by rw [Int.tmod_eq_emod_of_nonneg hl.1]; omega⟩
  obtain ⟨ra, hra, hra1⟩ : ∃ n : Nat, a.tmod 2 = (n : Int) ∧ n ≤ 1 := ⟨(a.tmod 2).toNat, by rw [Int.tmod_eq_emod_of_nonneg ha.1]; omega, by rw [Int.tmod_eq_emod_of_nonneg ha.1]; omega⟩
  obtain ⟨rb, hrb, hrb1⟩ : ∃ n : Nat, b.tmod 2 = (n : Int) ∧ n ≤ 1 := ⟨(b.tmod 2).toNat, by rw [Int.tmod_eq_emod_of_nonneg hb.1]; omega, by rw [Int.tmod_eq_emod_of_nonneg hb.1]; omega⟩
  have wn : IntKind.i64.wrap (n : Int) = (n : Int) := wrap_i64 (by omega) (by omega)
  have wa : IntKind.i64.wrap (ra : Int) = (ra : Int) := wrap_i64 (by omega) (by omega)
  have wb : IntKind.i64.wrap (rb : Int) = (rb : Int) := wrap_i64 (by omega) (by omega)
  have w3 : IntKind.i64.wrap (3 + (n : Int)) = 3 + (n : Int) := wrap_i64 (by omega) (by omega)
  obtain ⟨H1, q1⟩ := nest_loop (mp := mpX) rfl hn4 (v0 := .int .u8 a) (v1 := .int .u8 b) (v3 := .bool more) n 0 H (by omega)
  obtain ⟨H2, q2, x2⟩ := R_textR (mp := mpX) (H := H1) rfl (ra : Int)
  obtain ⟨H3, q3, x3⟩ := R_textR (mp := mpX) (H := H2) rfl (rb : Int)
  have hp := nest_parse hn4 hra1 hrb1 more
  unfold lastN at hp
  have hns := nestS_len n
  have hta := textL_len (ra : Int)
  have htb := textL_len (rb : Int)
  have q1' : Rc mpX (.loop m11_0) [(0, .int .u8 a), (1, .int .u8 b), (3, .bool more), (9, .string ⟨#[112, 114, 111, 116, 111, 99, 111, 108, 32, 102, 97, 105, 114, 10, 99, 111, 114, 101, 115, 32, 49, 10, 104, 111, 109, 101, 115, 32, 48, 32, 48, 10]⟩), (10, .int .i64 (n : Int)), (11, .int .i64 0)] H = _ := q1
  generalize nestS n = ns at q1' hp hns
  generalize textL (ra : Int) = ta at q2 hp hta
  generalize textL (rb : Int) = tb at q3 hp htb
  obtain ⟨t1, ht1, f1⟩ : ∃ t1 : Bs, t1 = ns ++ sTaskX ∧ mbin .add (.string (B ns)) (.string ⟨#[116, 97, 115, 107, 32, 120, 32, 53, 48, 32, 53, 48, 32, 57, 32, 48, 32, 114, 117, 110, 58, 49, 32, 108, 111, 99, 107, 58]⟩) = some (.string (B t1)) := ⟨_, rfl, s_addL (m := sTaskX) (by omega) (by simp [sTaskX])⟩
  have l1 : t1.length = ns.length + 28 := by rw [ht1]; simp [sTaskX]
  obtain ⟨t2, ht2, f2⟩ : ∃ t2 : Bs, t2 = t1 ++ ta ∧ mbin .add (.string (B t1)) (.string (B ta)) = some (.string (B t2)) := ⟨_, rfl, s_addL (by omega) (by omega)⟩
  have l2 : t2.length = t1.length + ta.length := by rw [ht2]; simp
  obtain ⟨t3, ht3, f3⟩ : ∃ t3 : Bs, t3 = t2 ++ sLockN ∧ mbin .add (.string (B t2)) (.string ⟨#[58, 108, 111, 99, 107, 58]⟩) = some (.string (B t3)) := ⟨_, rfl, s_addL (m := sLockN) (by omega) (by simp [sLockN])⟩
  have l3 : t3.length = t2.length + 6 := by rw [ht3]; simp [sLockN]
  obtain ⟨t4, ht4, f4⟩ : ∃ t4 : Bs, t4 = t3 ++ tb ∧ mbin .add (.string (B t3)) (.string (B tb)) = some (.string (B t4)) := ⟨_, rfl, s_addL (by omega) (by omega)⟩
  have l4 : t4.length = t3.length + tb.length := by rw [ht4]; simp
  obtain ⟨t5, ht5, f5⟩ : ∃ t5 : Bs, t5 = t4 ++ [58, 51] ∧ mbin .add (.string (B t4)) (.string ⟨#[58, 51]⟩) = some (.string (B t5)) := ⟨_, rfl, s_addL (m := [58, 51]) (by omega) (by simp)⟩
  have l5 : t5.length = t4.length + 2 := by rw [ht5]; simp
  cases more with
  | false =>
    obtain ⟨t7, ht7, f7⟩ : ∃ t7 : Bs, t7 = t5 ++ [10] ∧ mbin .add (.string (B t5)) (.string ⟨#[10]⟩) = some (.string (B t7)) := ⟨_, rfl, s_addL (m := [10]) (by omega) (by simp)⟩
    have e7 : ns ++ (sTaskX ++ (ta ++ (sLockN ++ (tb ++ ([58, 51] ++ ((if false = true then sWalk else []) ++ [10])))))) = t7 := by
      rw [ht7, ht5, ht4, ht3, ht2, ht1]; simp only [List.append_assoc]; rfl
    rw [e7] at hp
    have hP := R_parse (mp := mpX) (H := H3) txQ t7
    unfold Parsed at hP
    rw [hp] at hP
    obtain ⟨H4, q4, x4⟩ := hP
    clear ht1 ht2 ht3 ht4 ht5 ht7 e7
    refine isTrue_ex ?_
    · rw [R_code (fn := m11) rfl]
      simp [-ev_s_add, m11, hkn, hn, hra, hrb, wn, wa, wb, w3, q1', q2, q3, f1, f2, f3, f4, f5, f7, q4, errW, stx]
  | true =>
    obtain ⟨t6, ht6, f6⟩ : ∃ t6 : Bs, t6 = t5 ++ sWalk ∧ mbin .add (.string (B t5)) (.string ⟨#[32, 119, 97, 108, 107, 58, 55]⟩) = some (.string (B t6)) := ⟨_, rfl, s_addL (m := sWalk) (by omega) (by simp [sWalk])⟩
    have l6 : t6.length = t5.length + 7 := by rw [ht6]; simp [sWalk]
    obtain ⟨t7, ht7, f7⟩ : ∃ t7 : Bs, t7 = t6 ++ [10] ∧ mbin .add (.string (B t6)) (.string ⟨#[10]⟩) = some (.string (B t7)) := ⟨_, rfl, s_addL (m := [10]) (by omega) (by simp)⟩
    have e7 : ns ++ (sTaskX ++ (ta ++ (sLockN ++ (tb ++ ([58, 51] ++ ((if true = true then sWalk else []) ++ [10])))))) = t7 := by
      rw [ht7, ht6, ht5, ht4, ht3, ht2, ht1]; simp only [List.append_assoc]; rfl
    rw [e7] at hp
    have hP := R_parse (mp := mpX) (H := H3) txQ t7
    unfold Parsed at hP
    rw [hp] at hP
    obtain ⟨H4, q4, x4⟩ := hP
    clear ht1 ht2 ht3 ht4 ht5 ht6 ht7 e7
    refine isTrue_ex ?_
    · rw [R_code (fn := m11) rfl]
      simp [-ev_s_add, m11, hkn, hn, hra, hrb, wn, wa, wb, w3, q1', q2, q3, f1, f2, f3, f4, f5, f6, f7, q4, errW, stx]
end Go.Mod

/- WordsEmpty: blanks alone are no words; lines may be empty, but the last one. -/
import Derived.Test.YthpeamllfledkaaDoorWdR
set_option linter.unusedVariables false
set_option linter.unusedSimpArgs false
namespace Go.Mod

theorem B_add (l : List UInt8) (a : Array UInt8) : B l ++ (⟨a⟩ : ByteArray) = B (l ++ a.toList) := by rw [B_mk, B_append]
theorem size_mk (a : Array UInt8) : (⟨a⟩ : ByteArray).size = a.size := rfl
theorem cutAt_rep (c : UInt8) (r : List UInt8) : ∀ n : Nat, cutAt c (List.replicate n c ++ r) = List.replicate n [] ++ cutAt c r
  | 0 => by simp
  | n + 1 => by
    rw [List.replicate_succ, List.cons_append]
    conv => lhs; unfold cutAt
    rw [if_pos rfl, cutAt_rep c r n, List.replicate_succ, List.cons_append]
theorem noE_rep (n : Nat) (p : List (List UInt8)) : noE (List.replicate n [] ++ p) = noE p := by
  unfold noE
  rw [List.filter_append, List.filter_eq_nil_iff.2 (by intro x hx; simp [List.eq_of_mem_replicate hx]), List.nil_append]
theorem tw_app {a r : List UInt8} (h : (35 : UInt8) ∉ a) : (a ++ r).takeWhile (· ≠ 35) = a ++ r.takeWhile (· ≠ 35) :=
  List.takeWhile_append_of_pos fun x hx => by simp; rintro rfl; exact h hx
theorem rep_no {n : Nat} {c d : UInt8} (h : d ≠ c) : d ∉ List.replicate n c := fun hm => h (List.eq_of_mem_replicate hm)
theorem cut_blank (p : Nat) : cutAt 32 (List.replicate p 32) = List.replicate p [] ++ [[]] := by
  have := cutAt_rep 32 [] p
  rw [List.append_nil] at this
  rw [this]; rfl
theorem words_blank (p : Nat) : wordsOf (List.replicate p 32) = [] := by
  unfold wordsOf
  have := tw_app (r := []) (rep_no (n := p) (c := 32) (d := 35) (by decide))
  rw [List.append_nil] at this
  rw [this]
  simp only [List.takeWhile_nil, List.append_nil]
  rw [cut_blank, noE_rep]; rfl
theorem words_mark (p : Nat) (r : List UInt8) : wordsOf (List.replicate p 32 ++ 35 :: r) = [] := by
  have h := words_blank p
  unfold wordsOf at h ⊢
  rw [tw_app (rep_no (by decide))]
  simp only [List.takeWhile_cons, ne_eq, not_true_eq_false, decide_false, Bool.false_eq_true, if_false, List.append_nil]
  rw [cut_blank, noE_rep]; rfl
theorem words_x (p : Nat) : (wordsOf (List.replicate p 32 ++ [120] ++ List.replicate p 32)).length = 1 := by
  have hno : (35 : UInt8) ∉ List.replicate p 32 ++ [120] ++ List.replicate p 32 := by
    simp only [List.mem_append, not_or]
    exact ⟨⟨rep_no (by decide), by decide⟩, rep_no (by decide)⟩
  unfold wordsOf
  have := tw_app (r := []) hno
  rw [List.append_nil] at this
  rw [this]
  simp only [List.takeWhile_nil, List.append_nil]
  rw [List.append_assoc, cutAt_rep, noE_rep]
  cases p with
  | zero => rfl
  | succ p =>
    rw [List.replicate_succ]
    show (noE (cutAt 32 ([120] ++ 32 :: List.replicate p 32))).length = 1
    rw [cutAt_app (by decide), cut_blank]
    unfold noE
    simp [List.filter_eq_nil_iff]
theorem trimE_rep (n : Nat) (x : List UInt8) : trimE (List.replicate n [] ++ [x]) = List.replicate n [] ++ (if x = [] then [] else [x]) := by
  induction n with
  | zero => simp [trimE]
  | succ n ih => rw [List.replicate_succ, List.cons_append, trimE_cons (by simp), ih]; rfl
theorem lines_rep (q : Nat) : (trimE (cutAt 10 (List.replicate q 10))).length = q := by
  have := cutAt_rep 10 [] q
  rw [List.append_nil] at this
  rw [this]
  show (trimE (List.replicate q [] ++ [[]])).length = q
  rw [trimE_rep]; simp
theorem lines_x (q : Nat) : (trimE (cutAt 10 (List.replicate q 10 ++ [120]))).length = q + 1 := by
  rw [cutAt_rep]
  show (trimE (List.replicate q [] ++ [[120]])).length = q + 1
  rw [trimE_rep]; simp

section
variable {mp : FuncId → Option MDef} {H : MH}
theorem rem20 {x : Nat} : (x : Int).tmod 20 = ((x % 20 : Nat) : Int) := by
  rw [Int.tmod_eq_emod_of_nonneg (by omega)]; omega
theorem we_loop0 {x : Int} {p : Nat} (hp : p ≤ 19) (r : x.tmod 20 = (p : Int)) {v1 v2 v8 : Value} : ∀ (k i : Nat), i + k = p →
    Rc mp (.loop m7_1) [(0, .int .u8 x), (1, v1), (2, v2), (7, .string (B (List.replicate i 32))), (8, v8), (9, .int .i64 (i : Int))] H =
      some (.exit 0, [(0, .int .u8 x), (1, v1), (2, v2), (7, .string (B (List.replicate p 32))), (8, v8), (9, .int .i64 (p : Int)), (18, .bool false)], H) := by
  intro k
  have w1 : IntKind.i64.wrap (p : Int) = (p : Int) := wrap_i64 (by omega) (by omega)
  induction k with
  | zero =>
    intro i hi
    have : i = p := by omega
    subst this
    rw [Rc_loop]
    simp [m7_1, r, w1]
  | succ k ih =>
    intro i hi
    have h := ih (i + 1) (by omega)
    have w : IntKind.i64.wrap ((i : Int) + 1) = (i : Int) + 1 := wrap_i64 (by omega) (by omega)
    have hlt : i < p := by omega
    have hsz : (i : Int) + 1 ≤ 9223372036854775807 := by omega
    have hrep : List.replicate i (32 : UInt8) ++ [32] = List.replicate (i + 1) 32 := by rw [List.replicate_succ']
    have hsz2 : i + 1 ≤ 9223372036854775807 := by omega
    rw [Rc_loop]
    simp [m7_1, r, w1, w, hlt, B_add, size_mk, hrep, hsz2]
    exact h
theorem we_loop1 {x : Int} {p : Nat} (hp : p ≤ 19) (r : x.tmod 20 = (p : Int)) {v7 v2 : Value} : ∀ (k i : Nat), i + k = p →
    Rc mp (.loop m7_0) [(1, .int .u8 x), (2, v2), (7, v7), (8, .string (B (List.replicate i 10))), (10, .int .i64 (i : Int))] H =
      some (.exit 2, [(1, .int .u8 x), (2, v2), (7, v7), (8, .string (B (List.replicate p 10))), (10, .int .i64 (p : Int)), (27, .bool false)], H) := by
  intro k
  have w1 : IntKind.i64.wrap (p : Int) = (p : Int) := wrap_i64 (by omega) (by omega)
  induction k with
  | zero =>
    intro i hi
    have : i = p := by omega
    subst this
    rw [Rc_loop]
    simp [m7_0, r, w1]
  | succ k ih =>
    intro i hi
    have h := ih (i + 1) (by omega)
    have w : IntKind.i64.wrap ((i : Int) + 1) = (i : Int) + 1 := wrap_i64 (by omega) (by omega)
    have hlt : i < p := by omega
    have hrep : List.replicate i (10 : UInt8) ++ [10] = List.replicate (i + 1) 10 := by rw [List.replicate_succ']
    have hsz2 : i + 1 ≤ 9223372036854775807 := by omega
    rw [Rc_loop]
    simp [m7_0, r, w1, w, hlt, B_add, size_mk, hrep, hsz2]
    exact h
end

theorem wordsEmpty {H : MH} {x y : Int} (hx : 0 ≤ x ∧ x < 256) (hy : 0 ≤ y ∧ y < 256) (mk : Bool) : ∃ H', R mpW 7 [.int .u8 x, .int .u8 y, .bool mk] H = some (.bool true, H') := by
  obtain ⟨p, r1, hp⟩ : ∃ p : Nat, x.tmod 20 = (p : Int) ∧ p ≤ 19 := ⟨(x.tmod 20).toNat, by rw [Int.tmod_eq_emod_of_nonneg hx.1]; omega, by rw [Int.tmod_eq_emod_of_nonneg hx.1]; omega⟩
  obtain ⟨q, r2, hq⟩ : ∃ q : Nat, y.tmod 20 = (q : Int) ∧ q ≤ 19 := ⟨(y.tmod 20).toNat, by rw [Int.tmod_eq_emod_of_nonneg hy.1]; omega, by rw [Int.tmod_eq_emod_of_nonneg hy.1]; omega⟩
  have hk : R mpW 12 [] H = some (.bool true, H) := R_intr (s := constS (.bool true)) rfl
  have l0 : ∀ v1 v2 v8, Rc mpW (.loop m7_1) [(0, .int .u8 x), (1, v1), (2, v2), (7, .string ⟨#[]⟩), (8, v8), (9, .int .i64 0)] H = _ := fun v1 v2 v8 => we_loop0 (mp := mpW) (H := H) hp r1 (v1 := v1) (v2 := v2) (v8 := v8) p 0 (by omega)
  have l1 : ∀ v7 v2, Rc mpW (.loop m7_0) [(1, .int .u8 y), (2, v2), (7, v7), (8, .string ⟨#[]⟩), (10, .int .i64 0)] H = _ := fun v7 v2 => we_loop1 (mp := mpW) (H := H) hq r2 (v7 := v7) (v2 := v2) q 0 (by omega)
  have w2 : IntKind.i64.wrap (q : Int) = (q : Int) := wrap_i64 (by omega) (by omega)
  have w3 : IntKind.i64.wrap ((q : Int) + 1) = (q : Int) + 1 := wrap_i64 (by omega) (by omega)
  -- words of u
  obtain ⟨u, hu, hul, hw⟩ : ∃ u, (if mk = true then List.replicate p 32 ++ [35, 119, 111, 114, 100, 115, 32, 98, 101, 104, 105, 110, 100, 32, 105, 116] else List.replicate p (32 : UInt8)) = u ∧ u.length ≤ 100 ∧ wordsOf u = [] := by
    refine ⟨_, rfl, ?_, ?_⟩
    · split <;> simp <;> omega
    · split
      · exact words_mark p _
      · exact words_blank p
  obtain ⟨a1, n1, c1, H1, e1, v1, x1⟩ := R_words (mp := mpW) (H := H) rfl rfl rfl (l := u) (by omega)
  have q1 := v1.svn
  rw [hw] at q1
  obtain ⟨a2, n2, c2, H2, e2, v2, x2⟩ := R_lines (mp := mpW) (H := H1) rfl rfl (l := List.replicate q 10) (by simp; omega)
  have q2 := v2.svn
  rw [lines_rep] at q2
  obtain ⟨a3, n3, c3, H3, e3, v3, x3⟩ := R_lines (mp := mpW) (H := H2) rfl rfl (l := List.replicate q 10 ++ [120]) (by simp; omega)
  have q3 := v3.svn
  rw [lines_x] at q3
  obtain ⟨a4, n4, c4, H4, e4, v4, x4⟩ := R_words (mp := mpW) (H := H3) rfl rfl rfl (l := List.replicate p 32 ++ [120] ++ List.replicate p 32) (by simp; omega)
  have q4 := v4.svn
  rw [words_x] at q4
  rw [q1] at e1; rw [q2] at e2; rw [q3] at e3; rw [q4] at e4
  simp only [List.append_assoc, List.cons_append, List.nil_append] at e4
  refine ⟨H4, ?_⟩
  rw [R_code (show mpW 7 = some (.code m7) from rfl)]
  have z1 : p + 16 ≤ 9223372036854775807 := by omega
  have z2 : q + 1 ≤ 9223372036854775807 := by omega
  have z3 : p + 1 ≤ 9223372036854775807 := by omega
  have z4 : p + 1 + p ≤ 9223372036854775807 := by omega
  have z5 : p + (p + 1) ≤ 9223372036854775807 := by omega
  cases mk
  · simp at hu
    subst hu
    simp [m7, hk, l0, l1, e1, e2, e3, e4, r2, w2, w3, B_add, size_mk, z1, z2, z3, z4, z5]
  · simp at hu
    subst hu
    simp [m7, hk, l0, l1, e1, e2, e3, e4, r2, w2, w3, B_add, size_mk, z1, z2, z3, z4, z5]
end Go.Mod

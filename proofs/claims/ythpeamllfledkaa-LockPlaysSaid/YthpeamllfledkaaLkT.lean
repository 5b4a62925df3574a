/- slices.Sort of a few whole numbers: by insertion. -/
import Derived.Test.YthpeamllfledkaaLkR
import Derived.Test.YthpeamllfledkaaGrG
set_option linter.unusedVariables false
set_option linter.unusedSimpArgs false
namespace Go.Mod

abbrev Sorted (l : List Int) : Prop := l.Pairwise (· ≤ ·)
theorem sorted_uniq : ∀ {l k : List Int}, Sorted l → Sorted k → l.Perm k → l = k
  | [], k, _, _, h => by simpa using h.symm
  | x :: l, [], _, _, h => by simp at h
  | x :: l, y :: k, hl, hk, h => by
    have h1 := List.pairwise_cons.1 hl
    have h2 := List.pairwise_cons.1 hk
    have hxy : x = y := by
      have a1 : x ∈ y :: k := h.subset (by simp)
      have a2 : y ∈ x :: l := h.symm.subset (by simp)
      rcases List.mem_cons.1 a1 with e | e
      · exact e
      · rcases List.mem_cons.1 a2 with e2 | e2
        · exact e2.symm
        · have := h1.1 y e2; have := h2.1 x e; omega
    subst hxy
    rw [sorted_uniq h1.2 h2.2 (List.perm_cons x |>.1 h)]

section
variable {mp : FuncId → Option MDef} {H : MH}
theorem R_less (h84 : mp 84 = some (.code m84)) (h98 : mp 98 = some (.code m98)) (x y : Int) (H : MH) : R mp 84 [.int .i64 x, .int .i64 y] H = some (.bool (decide (x < y)), H) := by
  have hn : ∀ z : Int, R mp 98 [.int .i64 z] H = some (.bool false, H) := fun z => by
    rw [R_code h98]; simp [m98]
  rw [R_code h84]
  simp [m84, hn]

/-- The heap with these numbers in it. -/
def rowH (H : MH) (b : Nat) (xs : List Int) (r : List Value) : MH := H.set b (.cells ⟨1, true, false⟩ (i64s xs ++ r))
variable {b : Nat} {r : List Value}
theorem rowH_at (hb : b < H.length) (xs : List Int) : (rowH H b xs r)[b]? = some (.cells ⟨1, true, false⟩ (i64s xs ++ r)) := List.getElem?_set_self hb
theorem rowH_set {xs : List Int} {o : MObj} : (rowH H b xs r).set b o = H.set b o := by simp [rowH]
theorem i64s_app (xs ys : List Int) : i64s (xs ++ ys) = i64s xs ++ i64s ys := by simp [i64s]
theorem i64s_at {xs ys : List Int} {x : Int} : (i64s (xs ++ x :: ys) ++ r)[xs.length]? = some (.int .i64 x) := by
  rw [List.getElem?_append_left (by simp [i64s])]; simp [i64s]
theorem i64s_at1 {xs ys : List Int} {y x : Int} : (i64s (xs ++ y :: x :: ys) ++ r)[xs.length + 1]? = some (.int .i64 x) := by
  rw [List.getElem?_append_left (by simp [i64s])]; simp [i64s]
theorem i64s_swap {xs ys : List Int} {x y : Int} : ((i64s (xs ++ y :: x :: ys) ++ r).set (xs.length + 1) (.int .i64 y)).set xs.length (.int .i64 x) = i64s (xs ++ x :: y :: ys) ++ r := by
  simp [i64s, List.set_append]

theorem sort_in (h84 : mp 84 = some (.code m84)) (h98 : mp 98 = some (.code m98)) (hb : b < H.length) {n c : Nat} (hn : n ≤ 1000) {i : Int} {C : List Int} : ∀ (k : Nat) (A B : List Int) (x : Int), A.length = k → (A ++ x :: B ++ C).length = n → Sorted A → Sorted B → (∀ a ∈ A, ∀ y ∈ B, a ≤ y) → (∀ y ∈ B, x ≤ y) →
    ∃ (D : List Int) (j : Int), Sorted D ∧ D.Perm (A ++ x :: B) ∧ Rc mp (.loop m78_0) [(0, .slice (some ⟨b, 0, none⟩) n c), (1, .int .i64 0), (2, .int .i64 (n : Int)), (6, .int .i64 i), (7, .int .i64 (k : Int))] (rowH H b (A ++ x :: B ++ C) r) =
      some (.exit 2, [(0, .slice (some ⟨b, 0, none⟩) n c), (1, .int .i64 0), (2, .int .i64 (n : Int)), (6, .int .i64 i), (7, .int .i64 j), (30, .bool false)], rowH H b (D ++ C) r) := by
  intro k
  induction k with
  | zero =>
    intro A B x hA hlen sA sB hAB hxB
    have : A = [] := List.eq_nil_of_length_eq_zero hA
    subst this
    refine ⟨x :: B, 0, List.pairwise_cons.2 ⟨hxB, sB⟩, by simp, ?_⟩
    rw [Rc_loop]
    simp [m78_0, mdraw_plain]
  | succ k ih =>
    intro A B x hA hlen sA sB hAB hxB
    obtain ⟨A, y, rfl⟩ : ∃ A' y, A = A' ++ [y] := ⟨A.dropLast, A.getLast (by rintro rfl; simp at hA), (List.dropLast_concat_getLast _).symm⟩
    have hA' : A.length = k := by simpa using hA
    obtain ⟨sA1, _, sA2⟩ := List.pairwise_append.1 sA
    have hy : ∀ z ∈ B, y ≤ z := fun z hz => hAB y (by simp) z hz
    simp only [List.append_assoc, List.cons_append, List.nil_append, List.length_append, List.length_cons] at hlen ⊢
    have hat := fun xs => rowH_at (b := b) (r := r) hb xs
    have l1 := ld_at (hat (A ++ y :: x :: (B ++ C))) A.length
    have l2 := ld_at (hat (A ++ y :: x :: (B ++ C))) (A.length + 1)
    rw [i64s_at] at l1
    rw [i64s_at1] at l2
    have hls := fun H => R_less (mp := mp) h84 h98 x y H
    have hk1 : (k : Int) + 1 < (n : Int) := by omega
    have hk2 : (k : Int) < (n : Int) := by omega
    have hk0 : (0 : Int) < (k : Int) + 1 := by omega
    have hk3 : (0 : Int) ≤ (k : Int) + 1 := by omega
    have w : IntKind.i64.wrap (k : Int) = (k : Int) := wrap_i64 (by omega) (by omega)
    have t1 : ((k : Int) + 1).toNat = k + 1 := by omega
    rw [hA'] at l1 l2
    by_cases hxy : x < y
    · obtain ⟨D, j, d1, d2, d3⟩ := ih A (y :: B) x hA' (by simp; omega) sA1 (List.pairwise_cons.2 ⟨hy, sB⟩) (fun a ha z hz => by
        rcases List.mem_cons.1 hz with rfl | hz
        · exact sA2 a ha z (by simp)
        · exact hAB a (by simp [ha]) z hz) (fun z hz => by
        rcases List.mem_cons.1 hz with rfl | hz
        · omega
        · have := hy z hz; omega)
      refine ⟨D, j, d1, d2.trans ?_, ?_⟩
      · refine List.Perm.append_left A ?_
        exact List.Perm.swap y x B
      · rw [Rc_loop]
        have st1 := st_at (hat (A ++ y :: x :: (B ++ C))) rfl (k + 1) (.int .i64 y) rfl (by simp [i64s]; omega)
        have hb2 : (H.set b (.cells ⟨1, true, false⟩ ((i64s (A ++ y :: x :: (B ++ C)) ++ r).set (k + 1) (.int .i64 y))))[b]? = some (.cells ⟨1, true, false⟩ ((i64s (A ++ y :: x :: (B ++ C)) ++ r).set (k + 1) (.int .i64 y))) := List.getElem?_set_self hb
        have st2 := st_at hb2 rfl k (.int .i64 x) rfl (by simp [i64s]; omega)
        have sw := i64s_swap (r := r) (xs := A) (ys := B ++ C) (x := x) (y := y)
        rw [hA'] at sw
        rw [rowH_set] at st1
        rw [sw, List.set_set] at st2
        simp only [List.append_assoc, List.cons_append] at d3
        simp [m78_0, mdraw_plain, hk0, hk3, hk1, hk2, w, t1, l1, l2, hls, hxy, st1, st2]
        exact d3
    · refine ⟨A ++ y :: x :: B, (k : Int) + 1, ?_, by simp, ?_⟩
      · show List.Pairwise (· ≤ ·) _
        rw [List.pairwise_append, List.pairwise_cons, List.pairwise_cons]
        refine ⟨sA1, ⟨fun z hz => ?_, hxB, sB⟩, fun a ha z hz => ?_⟩
        · rcases List.mem_cons.1 hz with rfl | hz
          · omega
          · exact hy z hz
        · have h1 := sA2 a ha y (by simp)
          rcases List.mem_cons.1 hz with rfl | hz
          · exact h1
          · rcases List.mem_cons.1 hz with rfl | hz
            · omega
            · exact hAB a (by simp [ha]) z hz
      · rw [Rc_loop]
        simp [m78_0, mdraw_plain, hk0, hk3, hk1, hk2, w, t1, l1, l2, hls, hxy]

theorem sort_out (h84 : mp 84 = some (.code m84)) (h98 : mp 98 = some (.code m98)) (hb : b < H.length) {n c : Nat} (hn : n ≤ 1000) : ∀ (k i : Nat) (P C : List Int), C.length = k → P.length = i → (P ++ C).length = n → Sorted P →
    ∃ D : List Int, Sorted D ∧ D.Perm (P ++ C) ∧ Rc mp (.loop m78_1) [(0, .slice (some ⟨b, 0, none⟩) n c), (1, .int .i64 0), (2, .int .i64 (n : Int)), (6, .int .i64 (i : Int))] (rowH H b (P ++ C) r) =
      some (.exit 0, [(0, .slice (some ⟨b, 0, none⟩) n c), (1, .int .i64 0), (2, .int .i64 (n : Int)), (6, .int .i64 (n : Int)), (12, .bool false)], rowH H b D r) := by
  intro k
  induction k with
  | zero =>
    intro i P C hC hP hl sP
    have : C = [] := List.eq_nil_of_length_eq_zero hC
    subst this
    have : i = n := by simp at hl; omega
    subst this
    refine ⟨P, sP, by simp, ?_⟩
    rw [Rc_loop]
    simp [m78_1]
  | succ k ih =>
    intro i P C hC hP hl sP
    cases C with
    | nil => simp at hC
    | cons x C =>
      simp at hC hl
      have hin : (i : Int) < (n : Int) := by omega
      have w : IntKind.i64.wrap ((i : Int) + 1) = (i : Int) + 1 := wrap_i64 (by omega) (by omega)
      obtain ⟨D, j, d1, d2, d3⟩ := sort_in (mp := mp) (r := r) (c := c) (i := (i : Int)) (C := C) h84 h98 hb hn i P [] x hP (by simp; omega) sP List.Pairwise.nil (by simp) (by simp)
      have hDl := d2.length_eq
      simp at hDl
      obtain ⟨E, e1, e2, e3⟩ := ih (i + 1) D C hC (by omega) (by simp; omega) d1
      refine ⟨E, e1, e2.trans ?_, ?_⟩
      · have := d2.append_right C
        simpa using this
      · simp at d3 e3
        rw [Rc_loop]
        simp [m78_1, hin, d3, w]
        exact e3

theorem ba_at (a : Array UInt8) (i : Nat) : (ByteArray.mk a)[i]? = a[i]? := by
  rw [getElem?_def, getElem?_def]
  rfl
theorem le12 {n : Nat} (hn : n ≤ 12) : n = 0 ∨ n = 1 ∨ n = 2 ∨ n = 3 ∨ n = 4 ∨ n = 5 ∨ n = 6 ∨ n = 7 ∨ n = 8 ∨ n = 9 ∨ n = 10 ∨ n = 11 ∨ n = 12 := by omega
set_option maxRecDepth 100000 in
theorem R_bits (h67 : mp 67 = some (.code m67)) (h88 : mp 88 = some (.code m88)) {n : Nat} (hn : n ≤ 12) (H : MH) : ∃ z : Int, R mp 67 [.int .u64 (n : Int)] H = some (.int .i64 z, H) := by
  have : ∃ z : Int, R mp 88 [.int .u64 (n : Int)] H = some (.int .i64 z, H) := by
    rw [R_code h88]
    have wu : IntKind.u8.wrap (n : Int) = (n : Int) := by rcases le12 hn with rfl | rfl | rfl | rfl | rfl | rfl | rfl | rfl | rfl | rfl | rfl | rfl | rfl <;> rfl
    have w0 : (n : Int) < 4294967296 := by omega
    have w1 : (n : Int) < 65536 := by omega
    have w2 : (n : Int) < 256 := by omega
    have e0 : ¬ (4294967296 : Int) ≤ (n : Int) := by omega
    have e1 : ¬ (65536 : Int) ≤ (n : Int) := by omega
    have e2 : ¬ (256 : Int) ≤ (n : Int) := by omega
    have key : ∀ z : Nat, ∃ y : Int, IntKind.i64.wrap (0 + IntKind.i64.wrap (z : Int)) = y := fun z => ⟨_, rfl⟩
    simp [m88, wu, e0, e1, e2, ba_at]
    rcases le12 hn with rfl | rfl | rfl | rfl | rfl | rfl | rfl | rfl | rfl | rfl | rfl | rfl | rfl <;> simp
  obtain ⟨z, hz⟩ := this
  refine ⟨z, ?_⟩
  rw [R_code h67]
  simp [m67, hz]

/-- The numbers of a slice of one's own in order. -/
theorem R_sort (h50 : mp 50 = some (.code m50)) (h66 : mp 66 = some (.code m66)) (h67 : mp 67 = some (.code m67)) (h88 : mp 88 = some (.code m88)) (h78 : mp 78 = some (.code m78)) (h84 : mp 84 = some (.code m84)) (h98 : mp 98 = some (.code m98)) {xs : List Int} (hx : xs.length ≤ 12) {v : Value} {fp : List Nat}
    (ho : Own 1 H v (i64s xs) fp ∨ ∃ a c, v = .slice a 0 c ∧ xs = []) : ∃ (D : List Int) (H' : MH), Sorted D ∧ D.Perm xs ∧ R mp 50 [v] H = some (.tuple #[], H') ∧ (Own 1 H v (i64s xs) fp → Own 1 H' v (i64s D) fp) ∧ Fp (fun id => id ∈ fp) H H' ∧ (xs = [] → H' = H) := by
  have empty : ∀ a c, R mp 50 [.slice a 0 c] H = some (.tuple #[], H) := fun a c => by
    obtain ⟨z, hz⟩ := R_bits (mp := mp) h67 h88 (n := 0) (by omega) H
    have w1 : IntKind.u64.wrap (0 : Int) = 0 := rfl
    have w2 : IntKind.i64.wrap (1 : Int) = 1 := rfl
    have w3 : IntKind.i64.wrap (0 : Int) = 0 := rfl
    simp at hz
    rw [R_code h50]
    simp [m50, w1, hz]
    rw [R_code h66]
    simp [m66]
    rw [Rc_loop]
    simp [m66_0, w3]
    rw [R_code h78]
    simp [m78, w2]
    rw [Rc_loop]
    simp [m78_1]
  rcases ho with ho | ⟨a, c, rfl, rfl⟩
  · rcases ho with ⟨rfl, h2, rfl⟩ | ⟨b, n, c, cs, rfl, hnc, hB, hcl, htk, rfl⟩
    · have : xs = [] := by cases xs with
        | nil => rfl
        | cons x xs => simp [i64s] at h2
      subst this
      exact ⟨[], H, List.Pairwise.nil, .refl _, empty _ _, fun h => h, Fp.refl _ _, fun _ => rfl⟩
    · have hb := (List.getElem?_eq_some_iff.1 hB).1
      have hnl : n = xs.length := by
        have := congrArg List.length htk
        rw [i64s_len, List.length_take] at this; omega
      have hH : rowH H b xs (cs.drop n) = H := by
        unfold rowH
        rw [← htk, Nat.mul_one, List.take_append_drop]
        exact set_self hB
      by_cases h0 : n = 0
      · subst h0
        have : xs = [] := List.eq_nil_of_length_eq_zero hnl.symm
        subst this
        exact ⟨[], H, List.Pairwise.nil, .refl _, empty _ _, fun h => h, Fp.refl _ _, fun _ => rfl⟩
      · obtain ⟨z, hz⟩ := R_bits (mp := mp) h67 h88 (n := n) (by omega) H
        obtain ⟨x, ys, rfl⟩ : ∃ x ys, xs = x :: ys := by
          cases xs with
          | nil => simp at hnl; omega
          | cons x ys => exact ⟨x, ys, rfl⟩
        obtain ⟨D, d1, d2, d3⟩ := sort_out (mp := mp) (H := H) (b := b) (r := cs.drop n) (n := n) (c := c) h84 h98 hb (by omega) ys.length 1 [x] ys rfl rfl (by simp at hnl ⊢; omega) (by simp [Sorted])
        simp only [List.cons_append, List.nil_append] at d2 d3
        rw [hH] at d3
        have hDl := d2.length_eq
        have w0 : IntKind.i64.wrap (n : Int) = (n : Int) := wrap_i64 (by omega) (by omega)
        have w1 : IntKind.u64.wrap (n : Int) = (n : Int) := by
          have : n = 0 ∨ n = 1 ∨ n = 2 ∨ n = 3 ∨ n = 4 ∨ n = 5 ∨ n = 6 ∨ n = 7 ∨ n = 8 ∨ n = 9 ∨ n = 10 ∨ n = 11 ∨ n = 12 := by omega
          rcases this with rfl | rfl | rfl | rfl | rfl | rfl | rfl | rfl | rfl | rfl | rfl | rfl | rfl <;> rfl
        have h12 : (n : Int) ≤ 12 := by omega
        refine ⟨D, rowH H b D (cs.drop n), d1, d2, ?_, fun _ => .inr ⟨b, n, c, _, rfl, hnc, rowH_at hb D, ?_, ?_, rfl⟩, Fp.set b _ (by simp), fun e => by simp at e⟩
        · have w2 : IntKind.i64.wrap (1 : Int) = 1 := rfl
          rw [R_code h50]
          simp [m50, w1, hz]
          rw [R_code h66]
          simp [m66]
          rw [Rc_loop]
          simp [m66_0, w0, h12]
          rw [R_code h78]
          simp at d3
          simp [m78, w2, d3]
        · simp [i64s_len]; omega
        · rw [Nat.mul_one, List.take_left']; rw [i64s_len]; omega
  · exact ⟨[], H, List.Pairwise.nil, .refl _, empty _ _, fun h => h, Fp.refl _ _, fun _ => rfl⟩
end
end Go.Mod

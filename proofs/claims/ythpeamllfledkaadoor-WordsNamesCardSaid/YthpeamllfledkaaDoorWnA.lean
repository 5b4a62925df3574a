/- WordsNames: a name of so many bytes, and one more; bytes that no name has, and where. -/
import Derived.Test.YthpeamllfledkaaDoorWdR
import Derived.Test.YthpeamllfledkaaDoorGrF
set_option linter.unusedVariables false
set_option linter.unusedSimpArgs false
namespace Go.Mod

/-- Cells of a row of bytes. -/
def u8v (bs : List UInt8) : List Value := bs.map fun b => .int .u8 (b.toNat : Int)
@[simp] theorem u8v_len (bs : List UInt8) : (u8v bs).length = bs.length := by simp [u8v]
theorem push_B (l : List UInt8) (b : UInt8) : (B l).push b = B (l ++ [b]) := by
  unfold B
  show ByteArray.mk (l.toArray.push b) = _
  congr 1
  apply Array.ext'
  simp
theorem strOf_u8 : ∀ (bs l : List UInt8), strOf (B l) (u8v bs) = some (B (l ++ bs))
  | [], l => by simp [u8v, strOf]
  | b :: bs, l => by
    have h : (UInt8.ofNat ((b.toNat : Int)).toNat) = b := by simp
    show strOf ((B l).push (UInt8.ofNat ((b.toNat : Int)).toNat)) (u8v bs) = _
    rw [h, push_B, strOf_u8 bs (l ++ [b])]
    simp
theorem strOf_u8' (bs : List UInt8) : strOf .empty (u8v bs) = some (B bs) := strOf_u8 bs []
theorem strb_u8 {H : MH} {b : Nat} {i : Info} {bs : List UInt8} (h : H[b]? = some (.cells i (u8v bs))) {n : Nat} (hn : n = bs.length) (m : Nat) : mread .strb [.slice (some ⟨b, 0, none⟩) n m] H = some (.string (B bs)) := by
  rw [strb_at h (by simp; omega) m, List.drop_zero, List.take_of_length_le (by simp; omega), strOf_u8']; rfl
theorem u8v_set (bs : List UInt8) (j : Nat) (c : UInt8) : (u8v bs).set j (.int .u8 (c.toNat : Int)) = u8v (bs.set j c) := by simp [u8v, List.map_set]
theorem set_end {H : MH} {o o' : MObj} : (H ++ [o]).set H.length o' = H ++ [o'] := by simp

theorem nameB_B (bs : List UInt8) : nameB (B bs) ↔ (∀ (j : Nat) b, bs[j]? = some b → goodB b.toNat j) ∧ 1 ≤ bs.length ∧ bs.length ≤ 8 := by simp [nameB]

section
variable {mp : FuncId → Option MDef} {H : MH}
theorem wn_loop {k : Nat} (hk : k ≤ 12) {v1 v2 : Value} : ∀ (n i : Nat), i + n = k →
    Rc mp (.loop m6_0) [(1, v1), (2, v2), (7, .int .i64 (k : Int)), (8, .slice (some ⟨H.length, 0, none⟩) k k), (9, .int .i64 (i : Int))] (H ++ [.cells ⟨1, true, true⟩ (u8v (List.replicate i 120 ++ List.replicate n 0))]) =
      some (.exit 0, [(1, v1), (2, v2), (7, .int .i64 (k : Int)), (8, .slice (some ⟨H.length, 0, none⟩) k k), (9, .int .i64 (k : Int)), (24, .bool false)], H ++ [.cells ⟨1, true, true⟩ (u8v (List.replicate k 120))]) := by
  intro n
  induction n with
  | zero =>
    intro i hi
    have : i = k := by omega
    subst this
    rw [Rc_loop]
    simp [m6_0]
  | succ n ih =>
    intro i hi
    have h := ih (i + 1) (by omega)
    have w : IntKind.i64.wrap ((i : Int) + 1) = (i : Int) + 1 := wrap_i64 (by omega) (by omega)
    have hlt : i < k := by omega
    have hB : (H ++ [MObj.cells ⟨1, true, true⟩ (u8v (List.replicate i 120 ++ List.replicate (n + 1) 0))])[H.length]? = some (.cells ⟨1, true, true⟩ (u8v (List.replicate i 120 ++ List.replicate (n + 1) 0))) := by simp
    have hst := st_at hB rfl i (.int .u8 120) rfl (by simp)
    have e : (u8v (List.replicate i 120 ++ List.replicate (n + 1) 0)).set i (.int .u8 120) = u8v (List.replicate (i + 1) 120 ++ List.replicate n 0) := by
      have q : (List.replicate i (120 : UInt8) ++ List.replicate (n + 1) 0).set i 120 = List.replicate (i + 1) 120 ++ List.replicate n 0 := by
        rw [List.set_append_right _ _ (by simp), List.length_replicate, Nat.sub_self, List.replicate_succ (n := n), List.set_cons_zero, List.replicate_succ' (n := i), List.append_assoc]; rfl
      rw [← q]
      exact u8v_set _ i 120
    rw [e, set_end] at hst
    rw [Rc_loop]
    generalize u8v (List.replicate i 120 ++ List.replicate (n + 1) 0) = cs at hst ⊢
    simp [m6_0, hlt, w, hst]
    exact h
end

theorem wordsNames {H : MH} {n c a : Int} (hn : 0 ≤ n ∧ n < 256) (hc : 0 ≤ c ∧ c < 256) (ha : 0 ≤ a ∧ a < 256) : ∃ H', R mpW 6 [.int .u8 n, .int .u8 c, .int .u8 a] H = some (.bool true, H') := by
  obtain ⟨k, hk, hk1, hk12⟩ : ∃ k : Nat, n.tmod 12 + 1 = (k : Int) ∧ 1 ≤ k ∧ k ≤ 12 := ⟨(n.tmod 12 + 1).toNat, by rw [Int.tmod_eq_emod_of_nonneg hn.1]; omega, by rw [Int.tmod_eq_emod_of_nonneg hn.1]; omega, by rw [Int.tmod_eq_emod_of_nonneg hn.1]; omega⟩
  obtain ⟨j, hj, hjk⟩ : ∃ j : Nat, a.tmod k = (j : Int) ∧ j < k := by
    have h1 := Int.emod_nonneg a (show (k : Int) ≠ 0 by omega)
    have h2 := Int.emod_lt_of_pos a (show (0 : Int) < k by omega)
    refine ⟨(a.tmod k).toNat, ?_, ?_⟩ <;> rw [Int.tmod_eq_emod_of_nonneg ha.1] <;> omega
  obtain ⟨d, rfl⟩ : ∃ d : UInt8, c = (d.toNat : Int) := ⟨UInt8.ofNat c.toNat, by simp [UInt8.toNat_ofNat']; omega⟩
  have hkn : R mpW 12 [] H = some (.bool true, H) := R_intr (s := constS (.bool true)) rfl
  have w1 : IntKind.i64.wrap (n.tmod 12) = n.tmod 12 := wrap_i64 (by omega) (by omega)
  have w2 : IntKind.i64.wrap (n.tmod 12 + 1) = (k : Int) := by rw [wrap_i64 (by omega) (by omega), hk]
  have w3 : IntKind.i64.wrap a = a := wrap_i64 (by omega) (by omega)
  have hk0 : ¬ k = 0 := by omega
  have hal : malloc (.mslice 1 1 [.int .u8 0]) [.int .i64 (k : Int), .int .i64 (k : Int)] H.length = some (.cells ⟨1, true, true⟩ (u8v (List.replicate k 0)), .slice (some ⟨H.length, 0, none⟩) k k) := by
    simp only [malloc]
    rw [if_pos ⟨by omega, Int.le_refl _, by omega, by omega, rfl⟩]
    simp [u8v]
  have hl : ∀ v1 v2, Rc mpW (.loop m6_0) [(1, v1), (2, v2), (7, .int .i64 (k : Int)), (8, .slice (some ⟨H.length, 0, none⟩) k k), (9, .int .i64 0)] (H ++ [.cells ⟨1, true, true⟩ (u8v (List.replicate k 0))]) = _ := fun v1 v2 => wn_loop (mp := mpW) (H := H) hk12 (v1 := v1) (v2 := v2) k 0 (by omega)
  have hB1 : (H ++ [MObj.cells ⟨1, true, true⟩ (u8v (List.replicate k 120))])[H.length]? = some (.cells ⟨1, true, true⟩ (u8v (List.replicate k 120))) := by simp
  have hs1 := strb_u8 hB1 (n := k) (by simp) k
  have hst := st_at hB1 rfl j (.int .u8 (d.toNat : Int)) rfl (by simp; omega)
  rw [u8v_set, set_end] at hst
  have hB2 : (H ++ [MObj.cells ⟨1, true, true⟩ (u8v ((List.replicate k 120).set j d))])[H.length]? = some (.cells ⟨1, true, true⟩ (u8v ((List.replicate k 120).set j d))) := by simp
  have hs2 := strb_u8 hB2 (n := k) (by simp) k
  generalize hH1 : H ++ [MObj.cells ⟨1, true, true⟩ (u8v (List.replicate k 120))] = H1 at hl hs1 hst
  generalize hH2 : H ++ [MObj.cells ⟨1, true, true⟩ (u8v ((List.replicate k 120).set j d))] = H2 at hst hs2
  obtain ⟨r1, e1, q1⟩ := R_nameP (mp := mpW) (H := H1) (fn := 20) rfl (s := B (List.replicate k 120)) (by simp; omega)
  obtain ⟨r2, e2, q2⟩ := R_nameP (mp := mpW) (H := H2) (fn := 20) rfl (s := B ((List.replicate k 120).set j d)) (by simp; omega)
  obtain ⟨r3, e3, q3⟩ := R_nameP (mp := mpW) (H := H2) (fn := 20) rfl (s := ⟨#[]⟩) (by decide)
  have p1 : r1 = decide (k ≤ 8) := by
    rw [Bool.eq_iff_iff, q1, nameB_B, decide_eq_true_eq]
    simp only [List.length_replicate]
    refine ⟨fun h => h.2.2, fun h => ⟨fun i b hb => ?_, hk1, h⟩⟩
    rw [List.getElem?_replicate] at hb
    split at hb <;> cases hb
    exact .inl ⟨by decide, by decide⟩
  have p2 : r2 = decide (k ≤ 8 ∧ goodB d.toNat j) := by
    rw [Bool.eq_iff_iff, q2, nameB_B, decide_eq_true_eq]
    simp only [List.length_set, List.length_replicate]
    refine ⟨fun h => ⟨h.2.2, h.1 j d (List.getElem?_set_self (by simp; omega))⟩, fun h => ⟨fun i b hb => ?_, hk1, h.1⟩⟩
    by_cases e : i = j
    · subst e
      rw [List.getElem?_set_self (by simp; omega)] at hb
      cases hb; exact h.2
    · rw [List.getElem?_set_ne (fun h => e h.symm), List.getElem?_replicate] at hb
      split at hb <;> cases hb
      exact .inl ⟨by decide, by decide⟩
  have p3 : r3 = false := by
    rw [Bool.eq_false_iff]
    intro h
    have := (q3.1 h).2.1
    have : (ByteArray.mk #[]).size = 0 := rfl
    omega
  subst p3
  refine ⟨H2, ?_⟩
  rw [R_code (show mpW 6 = some (.code m6) from rfl)]
  have hdl := d.toNat_lt
  have hjk' : (j : Int) < k := by omega
  have run : ∀ x y : Bool, r1 = x → r2 = y → x = decide (k ≤ 8) → y = decide (k ≤ 8 ∧ ((97 ≤ d.toNat ∧ d.toNat ≤ 122) ∨ (48 ≤ d.toNat ∧ d.toNat ≤ 57 ∧ 0 < j))) → fnEnd m6.results (Rc mpW m6.body (initRegs 0 [.int .u8 n, .int .u8 (d.toNat : Int), .int .u8 a]) H) = some (.bool true, H2) := by
    intro x y h1 h2 hx hy
    rw [h1] at e1; rw [h2] at e2
    have c1 : d.toNat < 48 ∨ (48 ≤ d.toNat ∧ d.toNat ≤ 57) ∨ (57 < d.toNat ∧ d.toNat < 97) ∨ (97 ≤ d.toNat ∧ d.toNat ≤ 122) ∨ 122 < d.toNat := by omega
    generalize d.toNat = z at *
    by_cases h8 : k ≤ 8
    · have h8i : (k : Int) ≤ 8 := by omega
      rw [decide_eq_true h8] at hx; subst hx
      rcases c1 with c1 | c1 | c1 | c1 | c1
      · have a1 : ¬ (97 : Int) ≤ (z : Int) := by omega
        have a2 : ¬ (48 : Int) ≤ (z : Int) := by omega
        have : y = false := by rw [hy, decide_eq_false]; omega
        subst this
        simp [m6, hkn, w1, w2, w3, hal, hl, hs1, hs2, hst, e1, e2, e3, hj, hjk, hk0, h8i, a1, a2]
      · have a1 : ¬ (97 : Int) ≤ (z : Int) := by omega
        have b1 : (48 : Int) ≤ (z : Int) := by omega
        have b2 : (z : Int) ≤ 57 := by omega
        by_cases h0 : 0 < j
        · have : y = true := by rw [hy, decide_eq_true]; omega
          subst this
          simp [m6, hkn, w1, w2, w3, hal, hl, hs1, hs2, hst, e1, e2, e3, hj, hjk, hk0, h8i, a1, b1, b2, h0]
        · have : y = false := by rw [hy, decide_eq_false]; omega
          subst this
          simp [m6, hkn, w1, w2, w3, hal, hl, hs1, hs2, hst, e1, e2, e3, hj, hjk, hk0, h8i, a1, b1, b2, h0]
      · have a1 : ¬ (97 : Int) ≤ (z : Int) := by omega
        have a2 : (48 : Int) ≤ (z : Int) := by omega
        have a3 : ¬ (z : Int) ≤ 57 := by omega
        have : y = false := by rw [hy, decide_eq_false]; omega
        subst this
        simp [m6, hkn, w1, w2, w3, hal, hl, hs1, hs2, hst, e1, e2, e3, hj, hjk, hk0, h8i, a1, a2, a3]
      · have a2 : (48 : Int) ≤ (z : Int) := by omega
        have a3 : ¬ (z : Int) ≤ 57 := by omega
        have b1 : (97 : Int) ≤ (z : Int) := by omega
        have b2 : (z : Int) ≤ 122 := by omega
        have : y = true := by rw [hy, decide_eq_true]; omega
        subst this
        simp [m6, hkn, w1, w2, w3, hal, hl, hs1, hs2, hst, e1, e2, e3, hj, hjk, hk0, h8i, b1, b2, a2, a3]
      · have a1 : (97 : Int) ≤ (z : Int) := by omega
        have a2 : (48 : Int) ≤ (z : Int) := by omega
        have a3 : ¬ (z : Int) ≤ 57 := by omega
        have a4 : ¬ (z : Int) ≤ 122 := by omega
        have : y = false := by rw [hy, decide_eq_false]; omega
        subst this
        simp [m6, hkn, w1, w2, w3, hal, hl, hs1, hs2, hst, e1, e2, e3, hj, hjk, hk0, h8i, a1, a2, a3, a4]
    · rw [decide_eq_false h8] at hx; subst hx
      have : y = false := by rw [hy, decide_eq_false]; omega
      subst this
      have h8' : ¬ (k : Int) ≤ 8 := by omega
      by_cases a1 : (97 : Int) ≤ (z : Int) <;> by_cases a2 : (48 : Int) ≤ (z : Int) <;> simp [m6, hkn, w1, w2, w3, hal, hl, hs1, hs2, hst, e1, e2, e3, hj, hjk, hk0, h8', a1, a2]
  refine run r1 r2 rfl rfl p1 ?_
  rw [p2]
  congr 1
  unfold goodB
  rw [eq_iff_iff]
  constructor
  · rintro ⟨h, g | g⟩
    · exact ⟨h, .inl g⟩
    · exact ⟨h, .inr ⟨g.2.1, g.2.2, by omega⟩⟩
  · rintro ⟨h, g | g⟩
    · exact ⟨h, .inl g⟩
    · exact ⟨h, .inr ⟨by omega, g.1, g.2.1⟩⟩
end Go.Mod

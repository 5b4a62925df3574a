/- The document's words: Num, Text. -/
import Derived.Test.YthpeamllfledkaaDoorWtB
import Derived.Test.YthpeamllfledkaaDoorWtA
set_option linter.unusedVariables false
set_option linter.unusedSimpArgs false
namespace Go.Mod
section
variable {mp : FuncId → Option MDef} {H : MH}
theorem R_numR (hf : mp 14 = some (.code m14)) {l : List UInt8} : R mp 14 [.string (B l)] H = some (.tuple #[.int .i64 ((numL l).getD 0), .bool (numL l).isSome], H) := by
  rw [R_code hf]
  by_cases h1 : l.length < 1
  · have : l = [] := List.length_eq_zero_iff.1 (by omega)
    subst this
    rw [num_bad (.inl rfl)]
    simp [m14]
  · have h1' : ¬ (l.length : Int) < 1 := by omega
    have hne : l ≠ [] := by rintro rfl; simp at h1
    by_cases h7 : 7 < l.length
    · have h7' : (7 : Int) < (l.length : Int) := by omega
      rw [num_bad (.inr (.inl h7))]
      simp [m14, hne, h1', h7']
    · have h7' : ¬ (7 : Int) < (l.length : Int) := by omega
      obtain ⟨z, hz⟩ : ∃ z, l[0]? = some z := ⟨_, List.getElem?_eq_getElem (by omega)⟩
      have hzb : (B l)[0]? = some z := by rw [B_get]; exact hz
      have loop := fun h => numR_loop (mp := mp) (H := H) (l := l) (by omega) l.length 0 (by omega) h
      have loop := loop (by simp)
      have dv : dval [] = 0 := rfl
      simp only [List.take_zero, dv] at loop
      by_cases h48 : z.toNat = 48
      · have h48' : (z.toNat : Int) = 48 := by omega
        have z48 : z = 48 := UInt8.toNat_inj.1 (by show z.toNat = 48; exact h48)
        by_cases h2 : 1 < l.length
        · have h2' : (1 : Int) < (l.length : Int) := by omega
          rw [num_bad (.inr (.inr (.inl ⟨h2, by rw [hz, z48]⟩)))]
          simp [m14, hne, h1', h7', hzb, h48', h2']
        · have h2' : ¬ (1 : Int) < (l.length : Int) := by omega
          rcases loop with ⟨q1, q2⟩ | ⟨q1, q2⟩
          · rw [num_canon hne (by omega) q1 (.inl (by omega))]
            simp at q2
            simp [m14, hne, h1', h7', hzb, h48', h2', q2]
          · rw [num_bad (.inr (.inr (.inr q1)))]
            simp at q2
            simp [m14, hne, h1', h7', hzb, h48', h2', q2]
      · have h48' : ¬ (z.toNat : Int) = 48 := by omega
        rcases loop with ⟨q1, q2⟩ | ⟨q1, q2⟩
        · rw [num_canon hne (by omega) q1 (.inr fun c hc => by rw [hz] at hc; cases hc; exact h48)]
          simp at q2
          simp [m14, hne, h1', h7', hzb, h48', q2]
        · rw [num_bad (.inr (.inr (.inr q1)))]
          simp at q2
          simp [m14, hne, h1', h7', hzb, h48', q2]
theorem strb_dead {b o n c : Nat} {H : MH} (h : H[b]? = some .dead) : mread .strb [.slice (some ⟨b, o, none⟩) n c] H = none := by simp only [mread, bytesAt, h]
theorem ba_refl (s : ByteArray) : (s == s) = true := by
  cases s with
  | mk d => show (d == d) = true; simp
theorem rng8 : List.range 8 = [0, 1, 2, 3, 4, 5, 6, 7] := rfl
theorem textR_nat (hf : mp 23 = some (.code m23)) : ∀ (f n : Nat) (H : MH), n < 10 ^ f → 0 < f → f ≤ 7 → ∃ H', R mp 23 [.int .i64 (n : Int)] H = some (.string (B (decD f n)), H') ∧ Ext H H' := by
  intro f
  induction f with
  | zero => intro n H h h0 _; omega
  | succ f ih =>
    intro n H h _ hf7
    have h7 : 10 ^ (f + 1) ≤ 10 ^ 7 := Nat.pow_le_pow_right (by omega) hf7
    have a1 : ¬ (n : Int) < 0 := by omega
    have a2 : ¬ (9999999 : Int) < (n : Int) := by omega
    unfold decD
    by_cases hn : n < 10
    · rw [if_pos hn]
      have a3 : (n : Int) < 10 := by omega
      have w1 : IntKind.i64.wrap (48 + (n : Int)) = 48 + (n : Int) := wrap_i64 (by omega) (by omega)
      have w2 : IntKind.u8.wrap (48 + (n : Int)) = ((UInt8.ofNat (48 + n)).toNat : Int) := by rw [IntKind.wrap_u8, ofNat_D hn]; omega
      have hB : (H ++ [MObj.cells ⟨1, true, true⟩ [.int .u8 ((UInt8.ofNat (48 + n)).toNat : Int)]])[H.length]? = some (.cells ⟨1, true, true⟩ (u8v [UInt8.ofNat (48 + n)])) := by simp [u8v]
      have hsb := strb_u8 hB (n := 1) rfl 1
      generalize UInt8.ofNat (48 + n) = d at w2 hB hsb ⊢
      refine ⟨_, ?_, ⟨[.cells ⟨1, true, true⟩ [.int .u8 (d.toNat : Int)]], rfl⟩⟩
      rw [R_code hf]
      simp [m23, a1, a2, hn, a3, w1, w2, hsb]
    · rw [if_neg hn]
      have hlt : n / 10 < 10 ^ f := by rw [Nat.pow_succ] at h; omega
      have hf0 : 0 < f := by
        cases f with
        | zero => simp at h; omega
        | succ f => omega
      obtain ⟨H1, q1, x1⟩ := ih (n / 10) (H ++ [.dead]) hlt hf0 (by omega)
      have hlen := x1.len
      simp at hlen
      have a3 : ¬ (n : Int) < 10 := by omega
      have wq : IntKind.i64.wrap ((n : Int).tdiv 10) = ((n / 10 : Nat) : Int) := by
        rw [Int.tdiv_eq_ediv_of_nonneg (by omega), wrap_i64 (by omega) (by omega)]; omega
      have wq2 : IntKind.i64.wrap ((n : Int) / 10) = ((n / 10 : Nat) : Int) := by rw [wrap_i64 (by omega) (by omega)]; omega
      have wr2 : (n : Int) % 10 = ((n % 10 : Nat) : Int) := by omega
      have wr : (n : Int).tmod 10 = ((n % 10 : Nat) : Int) := by rw [Int.tmod_eq_emod_of_nonneg (by omega)]; omega
      have w1 : IntKind.i64.wrap (48 + ((n % 10 : Nat) : Int)) = 48 + ((n % 10 : Nat) : Int) := wrap_i64 (by omega) (by omega)
      have w2 : IntKind.u8.wrap (48 + ((n % 10 : Nat) : Int)) = ((UInt8.ofNat (48 + n % 10)).toNat : Int) := by rw [IntKind.wrap_u8, ofNat_D (Nat.mod_lt _ (by omega))]; omega
      have hdl := dec_len f (n / 10)
      generalize UInt8.ofNat (48 + n % 10) = d at w2 ⊢
      generalize n % 10 = r at wr wr2 w1 w2
      generalize n / 10 = qn at wq wq2 q1 hdl
      have hB : (H1.set H.length (MObj.cells ⟨1, true, true⟩ [.int .u8 (d.toNat : Int)]))[H.length]? = some (.cells ⟨1, true, true⟩ (u8v [d])) := by rw [List.getElem?_set_self (by omega)]; rfl
      have hsb := strb_u8 hB (n := 1) rfl 1
      have z1 : (decD f qn).length + 1 ≤ 9223372036854775807 := by omega
      have hd : H1[H.length]? = some .dead := x1.get (by simp)
      have hself : (H1.set H.length (MObj.cells ⟨1, true, true⟩ [.int .u8 (d.toNat : Int)]))[H.length]? = some (.cells ⟨1, true, true⟩ [.int .u8 (d.toNat : Int)]) := by rw [List.getElem?_set_self (by omega)]
      have hsd0 : mread .strb [.slice (some ⟨H.length, 0, none⟩) 1 1] (H ++ [.dead]) = none := strb_dead (by simp)
      have hsd1 : mread .strb [.slice (some ⟨H.length, 0, none⟩) 1 1] H1 = none := strb_dead hd
      have hse : mread .strb [.slice (some ⟨H.length, 0, none⟩) 1 1] (H ++ [.cells ⟨1, true, true⟩ [.int .u8 (d.toNat : Int)]]) = some (.string (B [d])) := strb_u8 (bs := [d]) (i := ⟨1, true, true⟩) (by simp [u8v]) (n := 1) rfl 1
      refine ⟨H1.set H.length (MObj.cells ⟨1, true, true⟩ [.int .u8 (d.toNat : Int)]), ?_, ?_⟩
      · rw [R_code hf]
        simp [m23, a1, a2, hn, a3, wq, wq2, wr, wr2, w1, w2, q1, hsb, z1, hd, hsd0, hsd1, hse, hself, ba_refl, mdraw_full, earlyOk, feeds, argHas, rng8]
      · obtain ⟨X, rfl⟩ := x1
        refine ⟨.cells ⟨1, true, true⟩ [.int .u8 (d.toNat : Int)] :: X, ?_⟩
        simp [List.set_append]
theorem R_textR (hf : mp 23 = some (.code m23)) (n : Int) : ∃ H', R mp 23 [.int .i64 n] H = some (.string (B (textL n)), H') ∧ Ext H H' := by
  unfold textL
  by_cases h : 0 ≤ n ∧ n ≤ 9999999
  · rw [if_pos h]
    obtain ⟨m, rfl⟩ : ∃ m : Nat, n = m := ⟨n.toNat, by omega⟩
    exact textR_nat hf 7 m H (by omega) (by omega) (by omega)
  · rw [if_neg h]
    refine ⟨H, ?_, Ext.refl _⟩
    rw [R_code hf]
    by_cases h0 : n < 0
    · simp [m23, h0]; rfl
    · have h1 : 9999999 < n := by omega
      simp [m23, h0, h1]; rfl
end
end Go.Mod

/- The document's words: Num. -/
import Derived.Test.YthpeamllfledkaaDoorWuA
set_option linter.unusedVariables false
set_option linter.unusedSimpArgs false
namespace Go.Mod
open Go.Lib

def dval (l : List UInt8) : Nat := l.foldl (fun a c => 10 * a + (c.toNat - 48)) 0
theorem dval_snoc (l : List UInt8) (c : UInt8) : dval (l ++ [c]) = 10 * dval l + (c.toNat - 48) := by simp [dval]
theorem ofNat_isD {c : UInt8} (h : isD c) : UInt8.ofNat (48 + (c.toNat - 48)) = c := by
  unfold isD at h
  rw [show 48 + (c.toNat - 48) = c.toNat by omega]; simp
theorem snoc_of {l : List UInt8} (h : l ≠ []) : ∃ m c, l = m ++ [c] := ⟨l.dropLast, l.getLast h, (List.dropLast_concat_getLast h).symm⟩
theorem dec_dval : ∀ (f : Nat) (l : List UInt8), l ≠ [] → (∀ c ∈ l, isD c) → (∀ c, l[0]? = some c → c.toNat ≠ 48) → l.length ≤ f → decD f (dval l) = l ∧ 0 < dval l
  | 0, l, h, _, _, hf => by
    have := List.length_pos_iff.2 h
    omega
  | f + 1, l, h, hd, h0, hf => by
    obtain ⟨m, c, rfl⟩ := snoc_of h
    have hc := hd c (by simp)
    have hcb := hc
    unfold isD at hcb
    rw [dval_snoc]
    by_cases hm : m = []
    · subst hm
      have := h0 c rfl
      have hz : dval [] = 0 := rfl
      rw [hz]
      refine ⟨?_, by omega⟩
      unfold decD
      rw [if_pos (by omega), show 48 + (10 * 0 + (c.toNat - 48)) = 48 + (c.toNat - 48) by omega, ofNat_isD hc]; rfl
    · have hmp := List.length_pos_iff.2 hm
      obtain ⟨i1, i2⟩ := dec_dval f m hm (fun x hx => hd x (by simp [hx])) (fun x hx => h0 x (by rw [List.getElem?_append_left hmp]; exact hx)) (by simp at hf; omega)
      refine ⟨?_, by omega⟩
      unfold decD
      rw [if_neg (by omega), show (10 * dval m + (c.toNat - 48)) / 10 = dval m by omega, show (10 * dval m + (c.toNat - 48)) % 10 = c.toNat - 48 by omega, i1, ofNat_isD hc]
theorem dval_lt : ∀ (n : Nat) (l : List UInt8), l.length = n → (∀ c ∈ l, isD c) → dval l < 10 ^ n
  | 0, l, h, _ => by
    have : l = [] := List.length_eq_zero_iff.1 h
    subst this; decide
  | n + 1, l, h, hd => by
    obtain ⟨m, c, rfl⟩ := snoc_of (l := l) (by rintro rfl; simp at h)
    have := dval_lt n m (by simpa using h) (fun x hx => hd x (by simp [hx]))
    have hc := hd c (by simp)
    unfold isD at hc
    rw [dval_snoc, Nat.pow_succ]; omega
theorem num_canon {l : List UInt8} (h : l ≠ []) (h7 : l.length ≤ 7) (hd : ∀ c ∈ l, isD c) (h0 : l.length = 1 ∨ ∀ c, l[0]? = some c → c.toNat ≠ 48) : numL l = some (dval l : Int) := by
  have hlt := dval_lt _ l rfl hd
  have h10 : 10 ^ l.length ≤ 10 ^ 7 := Nat.pow_le_pow_right (by omega) h7
  have e : decD 7 (dval l) = l := by
    by_cases hz : ∀ c, l[0]? = some c → c.toNat ≠ 48
    · exact (dec_dval 7 l h hd hz h7).1
    · have h1 := h0.resolve_right hz
      obtain ⟨c, rfl⟩ : ∃ c, l = [c] := by
        match l, h1 with
        | [c], _ => exact ⟨c, rfl⟩
      have hc := hd c (by simp)
      have hcb := hc
      unfold isD at hcb
      have : dval [c] = c.toNat - 48 := by simp [dval]
      rw [this]
      unfold decD
      rw [if_pos (by omega), ofNat_isD hc]
  have := num_dec (n := dval l) (by omega)
  rwa [e] at this
theorem num_bad {l : List UInt8} (h : l = [] ∨ 7 < l.length ∨ (1 < l.length ∧ l[0]? = some 48) ∨ ∃ c ∈ l, ¬ isD c) : numL l = none := by
  cases hn : numL l with
  | none => rfl
  | some v =>
    exfalso
    obtain ⟨v, hv, e, h7⟩ := num_some (l := l) (by rw [hn]; rfl)
    have hp := dec_pos 7 v hv (by omega)
    rw [e] at hp
    rcases h with rfl | h | ⟨h, h0⟩ | ⟨c, hc, hd⟩
    · simp at hp
    · omega
    · by_cases hv0 : 0 < v
      · exact dec_head 7 v hv hv0 48 (by rw [e]; exact h0) rfl
      · have : v = 0 := by omega
        subst this
        have h1 : (decD 7 0).length = 1 := rfl
        rw [e] at h1; omega
    · exact hd (dec_D 7 v c (by rw [e]; exact hc))
section
variable {mp : FuncId → Option MDef} {H : MH}
theorem numR_loop {l : List UInt8} (hl : l.length ≤ 7) : ∀ (m i : Nat), i + m = l.length → (∀ c ∈ l.take i, isD c) →
    ((∀ c ∈ l, isD c) ∧ Rc mp (.loop m14_0) [(0, .string (B l)), (4, .int .i64 (dval (l.take i) : Int)), (5, .int .i64 (i : Int))] H = some (.exit 0, [(0, .string (B l)), (4, .int .i64 (dval l : Int)), (5, .int .i64 (l.length : Int)), (27, .bool false)], H)) ∨
    ((∃ c ∈ l, ¬ isD c) ∧ Rc mp (.loop m14_0) [(0, .string (B l)), (4, .int .i64 (dval (l.take i) : Int)), (5, .int .i64 (i : Int))] H = some (.ret, [(2, .int .i64 0), (3, .bool false)], H)) := by
  intro m
  induction m with
  | zero =>
    intro i hi hg
    have : i = l.length := by omega
    subst this
    rw [List.take_length] at hg ⊢
    refine .inl ⟨hg, ?_⟩
    rw [Rc_loop]
    simp [m14_0]
  | succ m ih =>
    intro i hi hg
    have hil : i < l.length := by omega
    have hgx := List.getElem?_eq_getElem hil
    have hmem : l[i] ∈ l := List.getElem_mem hil
    have w : IntKind.i64.wrap ((i : Int) + 1) = (i : Int) + 1 := wrap_i64 (by omega) (by omega)
    generalize hz : l[i] = z at hgx hmem
    by_cases h1 : z.toNat < 48
    · refine .inr ⟨⟨z, hmem, fun h => by unfold isD at h; omega⟩, ?_⟩
      have n1 : (z.toNat : Int) < 48 := by omega
      rw [Rc_loop]
      simp [m14_0, hil, hz, n1]
    · by_cases h2 : 57 < z.toNat
      · refine .inr ⟨⟨z, hmem, fun h => by unfold isD at h; omega⟩, ?_⟩
        have n1 : ¬ (z.toNat : Int) < 48 := by omega
        have n2 : (57 : Int) < (z.toNat : Int) := by omega
        rw [Rc_loop]
        simp [m14_0, hil, hz, n1, n2]
      · have n1 : ¬ (z.toNat : Int) < 48 := by omega
        have n2 : ¬ (57 : Int) < (z.toNat : Int) := by omega
        have hD : isD z := by unfold isD; omega
        have hlt := dval_lt _ (l.take i) rfl hg
        have h10 : 10 ^ (l.take i).length ≤ 10 ^ 7 := Nat.pow_le_pow_right (by omega) (by simp; omega)
        have hsn : l.take (i + 1) = l.take i ++ [z] := by rw [List.take_add_one, hgx]; rfl
        have wa : IntKind.i64.wrap (10 * (dval (l.take i) : Int)) = 10 * (dval (l.take i) : Int) := wrap_i64 (by omega) (by omega)
        have wb : IntKind.u8.wrap ((z.toNat : Int) - 48) = (z.toNat : Int) - 48 := by rw [IntKind.wrap_u8]; omega
        have wc : IntKind.i64.wrap ((z.toNat : Int) - 48) = (z.toNat : Int) - 48 := wrap_i64 (by omega) (by omega)
        have wd : IntKind.i64.wrap (10 * (dval (l.take i) : Int) + ((z.toNat : Int) - 48)) = (dval (l.take (i + 1)) : Int) := by
          rw [wrap_i64 (by omega) (by omega), hsn, dval_snoc]; omega
        have hg' : ∀ c ∈ l.take (i + 1), isD c := by
          rw [hsn]
          intro c hc
          rcases List.mem_append.1 hc with hc | hc
          · exact hg c hc
          · simp at hc; subst hc; exact hD
        rcases ih (i + 1) (by omega) hg' with ⟨q1, q2⟩ | ⟨q1, q2⟩
        · refine .inl ⟨q1, ?_⟩
          rw [Rc_loop]
          simp [m14_0, hil, hz, n1, n2, w, wa, wb, wc, wd]
          exact q2
        · refine .inr ⟨q1, ?_⟩
          rw [Rc_loop]
          simp [m14_0, hil, hz, n1, n2, w, wa, wb, wc, wd]
          exact q2
end
end Go.Mod

/- WordsNumbers: each number is read as it is told; a nought ahead, a sign, an eighth digit are not read. -/
import Derived.Test.YthpeamllfledkaaDoorWdN
import Derived.Test.YthpeamllfledkaaDoorWeA
set_option linter.unusedVariables false
set_option linter.unusedSimpArgs false
namespace Go.Mod
open Go.Lib

/-- Cells of a row of bytes. -/
def u8v (bs : List UInt8) : List Value := bs.map fun b => .int .u8 (b.toNat : Int)
@[simp] theorem u8v_len (bs : List UInt8) : (u8v bs).length = bs.length := by simp [u8v]
theorem push_B (l : List UInt8) (b : UInt8) : (B l).push b = B (l ++ [b]) := by
  unfold B
  show ByteArray.mk (l.toArray.push b) = _
  congr 1
  apply Array.ext'
  simp
theorem strOf_u8 : ∀ (bs l : List UInt8), strOf (B l) (u8v bs) = some (B (l ++ bs))
  | [], l => by simp [u8v, strOf]
  | b :: bs, l => by
    have h : (UInt8.ofNat ((b.toNat : Int)).toNat) = b := by simp
    show strOf ((B l).push (UInt8.ofNat ((b.toNat : Int)).toNat)) (u8v bs) = _
    rw [h, push_B, strOf_u8 bs (l ++ [b])]
    simp
theorem strOf_u8' (bs : List UInt8) : strOf .empty (u8v bs) = some (B bs) := strOf_u8 bs []
theorem strb_u8 {H : MH} {b : Nat} {i : Info} {bs : List UInt8} (h : H[b]? = some (.cells i (u8v bs))) {n : Nat} (hn : n = bs.length) (m : Nat) : mread .strb [.slice (some ⟨b, 0, none⟩) n m] H = some (.string (B bs)) := by
  rw [strb_at h (by simp; omega) m, List.drop_zero, List.take_of_length_le (by simp; omega), strOf_u8']; rfl

/-! ### digits -/
def isD (c : UInt8) : Prop := 48 ≤ c.toNat ∧ c.toNat ≤ 57
instance (c : UInt8) : Decidable (isD c) := by unfold isD; exact inferInstance
theorem ofNat_D {d : Nat} (h : d < 10) : (UInt8.ofNat (48 + d)).toNat = 48 + d := by
  rw [UInt8.toNat_ofNat']; omega
theorem dec_D : ∀ (f n : Nat), ∀ c ∈ decD f n, isD c
  | 0, n, c, h => by simp [decD] at h
  | f + 1, n, c, h => by
    unfold decD at h
    split at h
    · rename_i hn
      obtain rfl := List.mem_singleton.1 h
      unfold isD; rw [ofNat_D hn]; omega
    · rcases List.mem_append.1 h with h | h
      · exact dec_D f _ c h
      · obtain rfl := List.mem_singleton.1 h
        unfold isD; rw [ofNat_D (Nat.mod_lt _ (by omega))]; omega
theorem dec_len : ∀ (f n : Nat), (decD f n).length ≤ f
  | 0, n => by simp [decD]
  | f + 1, n => by
    unfold decD
    split
    · simp
    · have := dec_len f (n / 10)
      simp; omega
theorem dec_pos : ∀ (f n : Nat), n < 10 ^ f → 0 < f → 0 < (decD f n).length
  | 0, n, _, h => by omega
  | f + 1, n, h, _ => by
    unfold decD
    split <;> simp
theorem dec_head : ∀ (f n : Nat), n < 10 ^ f → 0 < n → ∀ c, (decD f n)[0]? = some c → c.toNat ≠ 48
  | 0, n, h, h0, c, hc => by simp at h; omega
  | f + 1, n, h, h0, c, hc => by
    unfold decD at hc
    split at hc
    · rename_i hn
      have hc : some (UInt8.ofNat (48 + n)) = some c := hc
      cases hc
      rw [ofNat_D hn]; omega
    · rename_i hn
      have hlt : n / 10 < 10 ^ f := by rw [Nat.pow_succ] at h; omega
      have hf : 0 < f := by
        cases f with
        | zero => simp at h; omega
        | succ f => omega
      have hp := dec_pos f (n / 10) hlt hf
      rw [List.getElem?_append_left hp] at hc
      exact dec_head f (n / 10) hlt (by omega) c hc
theorem parse_app : ∀ (l : List UInt8) (acc u : Nat) (c : UInt8), parseUint10 acc l = .ok u → isD c → u < 10 ^ 17 → parseUint10 acc (l ++ [c]) = .ok (u * 10 + (c.toNat - 48))
  | [], acc, u, c, h, hc, hu => by
    simp only [parseUint10] at h
    injection h with h
    subst h
    show parseUint10 acc [c] = _
    simp only [parseUint10]
    have hc' : 48 ≤ c.toNat ∧ c.toNat ≤ 57 := hc
    rw [if_pos hc', if_neg (by omega), if_neg (by omega)]
  | x :: l, acc, u, c, h, hc, hu => by
    rw [List.cons_append]
    simp only [parseUint10] at h ⊢
    split at h
    · rename_i h1
      rw [if_pos h1]
      split at h
      · cases h
      · rename_i h2
        rw [if_neg h2]
        split at h
        · cases h
        · rename_i h3
          rw [if_neg h3]
          exact parse_app l _ u c h hc hu
    · cases h
theorem parse_dec : ∀ (f n : Nat), n < 10 ^ f → 0 < f → f ≤ 17 → parseUint10 0 (decD f n) = .ok n
  | 0, n, _, h, _ => by omega
  | f + 1, n, h, _, hf17 => by
    unfold decD
    split
    · rename_i hn
      simp only [parseUint10]
      rw [ofNat_D hn, if_pos (by omega), if_neg (by omega), if_neg (by omega)]
      congr 1; omega
    · rename_i hn
      have hlt : n / 10 < 10 ^ f := by rw [Nat.pow_succ] at h; omega
      have hf : 0 < f := by
        cases f with
        | zero => simp at h; omega
        | succ f => omega
      have h17 : n / 10 < 10 ^ 17 := Nat.lt_of_lt_of_le hlt (Nat.pow_le_pow_right (by omega) (by omega))
      rw [parse_app _ _ _ _ (parse_dec f (n / 10) hlt hf (by omega)) (by unfold isD; rw [ofNat_D (Nat.mod_lt _ (by omega))]; omega) h17]
      rw [ofNat_D (Nat.mod_lt _ (by omega))]
      congr 1; omega
theorem num_dec {n : Nat} (h : n < 10 ^ 7) : numL (decD 7 n) = some (n : Int) := by
  have hp := dec_pos 7 n h (by omega)
  have hl := dec_len 7 n
  have hd := dec_D 7 n
  have hpar := parse_dec 7 n h (by omega) (by omega)
  have ha : atoiAll (decD 7 n) = .ok (n : Int) := by
    cases hs : decD 7 n with
    | nil => rw [hs] at hp; simp at hp
    | cons c r =>
      rw [hs] at hpar hd
      have hc := hd c (by simp)
      unfold isD at hc
      unfold atoiAll
      simp only
      rw [if_neg (by omega), show parseMag (c :: r) = .ok n by unfold parseMag; rw [if_neg (by simp), hpar]]
      simp only
      rw [if_neg (by omega), if_neg (by omega), if_neg (by omega)]
  unfold numL
  rw [ha]
  simp only
  rw [if_pos ⟨hl, by omega, by simp⟩]
theorem num_some {l : List UInt8} (h : (numL l).isSome = true) : ∃ v : Nat, v < 10 ^ 7 ∧ decD 7 v = l ∧ l.length ≤ 7 := by
  unfold numL at h
  split at h
  · rename_i v hv
    split at h
    · rename_i hc
      have := atoi_lt hv hc.2.1
      have hp : (10 : Int) ^ l.length ≤ 10 ^ 7 := by exact_mod_cast Nat.pow_le_pow_right (by omega) hc.1
      refine ⟨v.toNat, by omega, hc.2.2, hc.1⟩
    · cases h
  · cases h
theorem num_nought {n : Nat} (h : n < 10 ^ 7) : (numL (48 :: decD 7 n)).isSome = false := by
  rw [Bool.eq_false_iff]
  intro hs
  obtain ⟨v, hv, e, _⟩ := num_some hs
  have hp := dec_pos 7 n h (by omega)
  by_cases h0 : 0 < v
  · exact dec_head 7 v hv h0 48 (by rw [e]; rfl) rfl
  · have : v = 0 := by omega
    subst this
    have : (decD 7 0).length = 1 := rfl
    rw [e] at this
    simp at this
    rw [this] at hp; simp at hp
theorem num_sign (n : Nat) : (numL (45 :: decD 7 n)).isSome = false := by
  rw [Bool.eq_false_iff]
  intro hs
  obtain ⟨v, hv, e, _⟩ := num_some hs
  have := dec_D 7 v 45 (by rw [e]; simp)
  exact absurd this.1 (by decide)
theorem num_long {l : List UInt8} (h : 7 < l.length) : (numL l).isSome = false := by
  rw [Bool.eq_false_iff]
  intro hs
  obtain ⟨v, hv, e, hl⟩ := num_some hs
  omega
theorem num_odd {n : Nat} (h : n < 10 ^ 7) (c : UInt8) : (numL ((decD 7 n).take ((decD 7 n).length - 1) ++ [c])).isSome = decide (isD c) := by
  have hno : ¬ isD c → (numL ((decD 7 n).take ((decD 7 n).length - 1) ++ [c])).isSome = false := fun hc => by
    rw [Bool.eq_false_iff]
    intro hs
    obtain ⟨v, hv, e, _⟩ := num_some hs
    exact hc (dec_D 7 v c (by rw [e]; simp))
  by_cases hc : isD c
  · have hcb := hc
    unfold isD at hcb
    have hcc : UInt8.ofNat (48 + (c.toNat - 48)) = c := by
      rw [show 48 + (c.toNat - 48) = c.toNat by omega]; simp
    have e : (decD 7 n).take ((decD 7 n).length - 1) ++ [c] = decD 7 (n / 10 * 10 + (c.toNat - 48)) := by
      by_cases hn : n < 10
      · have h1 : decD 7 n = [UInt8.ofNat (48 + n)] := by unfold decD; rw [if_pos hn]
        rw [h1]
        have h0 : n / 10 * 10 + (c.toNat - 48) = c.toNat - 48 := by omega
        rw [h0]
        unfold decD
        rw [if_pos (by omega), hcc]; rfl
      · have h1 : decD 7 n = decD 6 (n / 10) ++ [UInt8.ofNat (48 + n % 10)] := by conv => lhs; unfold decD; rw [if_neg hn]
        rw [h1]
        simp only [List.length_append, List.length_singleton, Nat.add_sub_cancel, List.take_left]
        conv => rhs; unfold decD
        rw [if_neg (by omega), show (n / 10 * 10 + (c.toNat - 48)) / 10 = n / 10 by omega, show (n / 10 * 10 + (c.toNat - 48)) % 10 = c.toNat - 48 by omega, hcc]
    rw [e, num_dec (by omega), decide_eq_true hc]; rfl
  · rw [hno hc, decide_eq_false hc]
theorem dec_first {n : Nat} (h : n < 10 ^ 7) : (decD 7 n).length = 1 ∨ ∃ c, (decD 7 n)[0]? = some c ∧ (c.toNat : Int) ≠ 48 := by
  by_cases h0 : 0 < n
  · have hp := dec_pos 7 n h (by omega)
    refine .inr ⟨_, List.getElem?_eq_getElem hp, ?_⟩
    have := dec_head 7 n h h0 _ (List.getElem?_eq_getElem hp)
    omega
  · have : n = 0 := by omega
    subst this
    exact .inl rfl
end Go.Mod

/- The job's functions: what they come to. -/
import Derived.Test.YtfeaopbeiahbnaaTapeQ
import Derived.Test.YtfeaopbeiahbnaaJobM
set_option linter.unusedVariables false
set_option linter.unusedSimpArgs false
namespace Go.Mod

variable {mp : FuncId → Option MDef}

/-! ### the tape -/
def posN (n i : Nat) : Int := if i = 0 then 0 else ((i - 1) % n : Nat) + 1
theorem posN_step {n : Nat} (hn : 0 < n) (i : Nat) : ((i % n : Nat) : Int) = if posN n i = n then 0 else posN n i := by
  unfold posN
  cases i with
  | zero => simp
  | succ j =>
    have h1 : (j + 1) % n = (j % n + 1) % n := (Nat.mod_add_mod j n 1).symm
    have h2 := Nat.mod_lt j hn
    simp only [Nat.succ_ne_zero, if_false, Nat.add_sub_cancel]
    by_cases h : j % n + 1 = n
    · have : (j % n + 1) % n = 0 := by rw [h, Nat.mod_self]
      rw [h1, this, if_pos (by omega)]; rfl
    · rw [h1, Nat.mod_eq_of_lt (by omega), if_neg (by omega)]; simp
theorem posN_next {n : Nat} (i : Nat) : posN n (i + 1) = (i % n : Nat) + 1 := by simp [posN]
theorem posN_le {n : Nat} (hn : 0 < n) (i : Nat) : 0 ≤ posN n i ∧ posN n i ≤ n := by
  unfold posN
  split
  · omega
  · have := Nat.mod_lt (i - 1) hn; omega
def pOk (xs : List Int) (p : Int) (u : Nat) : Prop := xs = [] ∨ p = posN xs.length u

/-- What is chosen of 1 to n; how many bytes are used then. -/
def jv (xs : List Int) (u : Nat) (n : Int) : Int := if n ≤ 1 then n else if xs = [] then n else pickN (xs.getD (u % xs.length) 0) 1 n
def ju (u : Nat) (n : Int) : Nat := if n ≤ 1 then u else u + 1
theorem ju_le (u : Nat) (n : Int) : ju u n ≤ u + 1 := by unfold ju; split <;> omega
def Bytes (xs : List Int) : Prop := ∀ x ∈ xs, 0 ≤ x ∧ x < 256
theorem jv_le {xs : List Int} (hb : Bytes xs) (u : Nat) {n : Int} (h1 : 1 ≤ n) (h2 : n ≤ 60000) : 1 ≤ jv xs u n ∧ jv xs u n ≤ n := by
  unfold jv
  split
  · omega
  · split
    · omega
    · rename_i hn hx
      have hx0 : 0 < xs.length := by
        rcases Nat.eq_zero_or_pos xs.length with e | e
        · exact absurd (List.eq_nil_of_length_eq_zero e) hx
        · exact e
      have hlt := Nat.mod_lt u hx0
      obtain ⟨x, hxx⟩ : ∃ x, xs[u % xs.length]? = some x := ⟨_, List.getElem?_eq_getElem hlt⟩
      have hxb := hb x (List.mem_of_getElem? hxx)
      rw [List.getD_eq_getElem?_getD, hxx]
      simp only [Option.getD_some, pickN]
      rw [wrap_i64 (n := n - 1) (by omega) (by omega)]
      rw [show max 1 (min (n - 1) 65535) + 1 = n by omega]
      have t0 := Int.tmod_nonneg n hxb.1
      have t1 := Int.tmod_lt_of_pos x (show (0 : Int) < n by omega)
      rw [wrap_i64 (by omega) (by omega)]
      omega

def TapeA (t : Nat) (xs : List Int) (u : Nat) : HP := fun H F => ∃ v p, (Pt t ⟨0, true, false⟩ [v, .int .i64 p, .int .i64 (u : Int)] * RowA 1 v (u8s xs)) H F ∧ pOk xs p u
theorem TapeA.good {t : Nat} {xs : List Int} {u : Nat} : Good (TapeA t xs u) := Good.ex fun _ => Good.ex fun _ => (Pt.good.star RowA.good).and
def RTapeA (t : Nat) (xs : List Int) (u : Nat) : HP := fun H F => ∃ v, (Pt t ⟨0, true, false⟩ [v, .int .i64 (u : Int)] * RowA 1 v (u8s xs)) H F
theorem RTapeA.good {t : Nat} {xs : List Int} {u : Nat} : Good (RTapeA t xs u) := Good.ex fun _ => Pt.good.star RowA.good

section
variable {H : MH} {F : List Nat} {t : Nat} {xs : List Int} {u : Nat}
theorem R_tused (hm : mp 21 = some (.code m21)) (h : TapeA t xs u H F) : R mp 21 [.pointer (some ⟨t, 0, none⟩)] H = some (.int .i64 u, H) := by
  obtain ⟨v, p, h, _⟩ := h
  rw [R_code hm]
  simp [m21, ld_at (star_at h)]
theorem R_tnew (h17 : mp 17 = some (.code m17)) (h63 : mp 63 = some (.code m63)) {v : Value} (hr : Row 1 H v (u8s xs)) (hn : xs.length ≤ 1000000) :
    ∃ t H' F', R mp 17 [v] H = some (.pointer (some ⟨t, 0, none⟩), H') ∧ TapeA t xs 0 H' F' ∧ Ext H H' ∧ ∀ id ∈ F', H.length ≤ id := by
  obtain ⟨v', H1, G, e1, r1, x1, n1, a, n, c, rfl⟩ := R_cloneF (mp := mp) (f := 63) (es := 1) (bytes := 1) (z := [.int .u8 0]) h63 rfl (by omega) (by omega) hr (u8s_one xs) (by rw [u8s_len]; exact hn)
  have x2 : Ext H1 (H1 ++ [.cells ⟨0, true, false⟩ [.slice a n c, .int .i64 0, .int .i64 0]]) := ⟨_, rfl⟩
  have p := star_comm (star_new RowA.good r1 ⟨0, true, false⟩ [.slice a n c, .int .i64 0, .int .i64 0])
  refine ⟨H1.length, _, _, ?_, ⟨_, _, p, ?_⟩, x1.trans x2, fun id hid => ?_⟩
  · rw [R_code h17]
    simp [m17, e1]
  · right; rfl
  · rcases List.mem_append.1 hid with h | h
    · exact n1 id h
    · simp at h; subst h; exact x1.len
theorem R_tcopy (h18 : mp 18 = some (.code m18)) (h63 : mp 63 = some (.code m63)) (h : TapeA t xs u H F) (hn : xs.length ≤ 1000000) :
    ∃ t' H' F', R mp 18 [.pointer (some ⟨t, 0, none⟩)] H = some (.pointer (some ⟨t', 0, none⟩), H') ∧ TapeA t' xs u H' F' ∧ Ext H H' ∧ ∀ id ∈ F', H.length ≤ id := by
  obtain ⟨v0, p0, h, hp⟩ := h
  have hat := star_at h
  obtain ⟨B, hB, _⟩ := star_r h
  have e0 : Ext H (H ++ [.dead]) := ⟨_, rfl⟩
  obtain ⟨v', H1, G, e1, r1, x1, n1, a, n, c, rfl⟩ := R_cloneF (mp := mp) (f := 63) (es := 1) (bytes := 1) (z := [.int .u8 0]) h63 rfl (by omega) (by omega) (e0.row hB.1) (u8s_one xs) (by rw [u8s_len]; exact hn)
  obtain ⟨a0, n0, c0, rfl, _⟩ := hB.1.slice
  have hA := e0.get hat
  have hB' := x1.get hA
  have hd : (H ++ [MObj.dead])[H.length]? = some .dead := by simp
  have hlt : H.length < H1.length := by have := x1.len; simp at this; omega
  have nG : ∀ id ∈ G, H.length + 1 ≤ id := fun id hid => by have := n1 id hid; simpa using this
  have hset : Ext H (H1.set H.length (.cells ⟨0, true, false⟩ [.slice a n c, .int .i64 p0, .int .i64 (u : Int)])) := by
    obtain ⟨X, rfl⟩ := x1
    refine ⟨[.cells ⟨0, true, false⟩ [.slice a n c, .int .i64 p0, .int .i64 (u : Int)]] ++ X, ?_⟩
    simp [List.set_append]
  refine ⟨H.length, H1.set H.length (.cells ⟨0, true, false⟩ [.slice a n c, .int .i64 p0, .int .i64 (u : Int)]), [H.length] ++ G, ?_, ⟨_, p0, ⟨[H.length], G, ⟨rfl, List.getElem?_set_self hlt⟩, RowA.good.frame r1 fun id hid => List.getElem?_set_ne (by have := nG id hid; omega), fun x hx hg => by have := nG x hg; simp at hx; omega, fun x => by simp⟩, hp⟩, hset, fun id hid => ?_⟩
  · rw [R_code h18]
    have hdd : H1[H.length]? = some .dead := x1.get hd
    simp [m18, mdraw_full, e1, ld_at hat, ld_at hA, ld_at hB', pairOk, hlt]
  · rcases List.mem_append.1 hid with h | h
    · simp at h; omega
    · have := nG id h; omega

theorem u8_at {v : Value} (h : Row 1 H v (u8s xs)) : True := trivial
theorem R_tpick (h19 : mp 19 = some (.code m19)) (h64 : mp 64 = some (.code m64)) (h65 : mp 65 = some (.code m65)) (h : TapeA t xs u H F) (hu : u < 1000000) (hx : xs.length ≤ 1000000) (hb : Bytes xs) {n : Int} (h1 : 1 ≤ n) :
    ∃ H', R mp 19 [.pointer (some ⟨t, 0, none⟩), .int .i64 1, .int .i64 n] H = some (.int .i64 (jv xs u n), H') ∧ TapeA t xs (ju u n) H' F ∧ Upd H F H' F := by
  obtain ⟨v, p, h, hp⟩ := h
  obtain ⟨B, hB, _⟩ := star_r h
  have ht : TapeAt H t ⟨0, true, false⟩ v xs p u := ⟨star_at h, rfl, rfl, hB.1⟩
  unfold jv ju
  by_cases hn : n ≤ 1
  · rw [if_pos hn, if_pos hn]
    exact ⟨H, R_pick_none h19 hn, ⟨v, p, h, hp⟩, Upd.refl _ _⟩
  · rw [if_neg hn, if_neg hn]
    by_cases hx0 : xs = []
    · rw [if_pos hx0]
      subst hx0
      obtain ⟨q, uu⟩ := star_put (cs' := [v, .int .i64 p, .int .i64 ((u : Int) + 1)]) RowA.good h
      exact ⟨_, R_pick0 h19 h64 ht (by omega) (by omega) (by omega), ⟨v, p, by simpa using q, .inl rfl⟩, uu⟩
    · rw [if_neg hx0]
      have hl0 : 0 < xs.length := by
        rcases Nat.eq_zero_or_pos xs.length with e | e
        · exact absurd (List.eq_nil_of_length_eq_zero e) hx0
        · exact e
      have hpe : p = posN xs.length u := hp.resolve_left hx0
      subst hpe
      have hkn : u % xs.length < xs.length := Nat.mod_lt _ hl0
      obtain ⟨x, hkx⟩ : ∃ x, xs[u % xs.length]? = some x := ⟨_, List.getElem?_eq_getElem hkn⟩
      obtain ⟨p0, p1⟩ := posN_le hl0 u
      obtain ⟨q, uu⟩ := star_put (cs' := [v, .int .i64 (((u % xs.length : Nat) : Int) + 1), .int .i64 ((u : Int) + 1)]) RowA.good h
      have hh := R_pick1 h19 h64 h65 ht p0 p1 (by omega) (by omega) hx hb (u % xs.length) (posN_step hl0 u) x hkx (lo := 1) (hi := n) (by omega)
      refine ⟨_, ?_, ⟨v, posN xs.length (u + 1), by rw [posN_next]; simpa using q, .inr rfl⟩, uu⟩
      rw [List.getD_eq_getElem?_getD, hkx]
      exact hh
theorem R_trpick (h20 : mp 20 = some (.code m20)) (h : RTapeA t xs u H F) (hu : u < 1000000) (hx : xs.length ≤ 1000000) (hb : Bytes xs) {n : Int} (h1 : 1 ≤ n) :
    ∃ H', R mp 20 [.pointer (some ⟨t, 0, none⟩), .int .i64 1, .int .i64 n] H = some (.int .i64 (jv xs u n), H') ∧ RTapeA t xs (ju u n) H' F ∧ Upd H F H' F := by
  obtain ⟨v, h⟩ := h
  obtain ⟨B, hB, _⟩ := star_r h
  have ht : RefAt H t ⟨0, true, false⟩ v xs u := ⟨star_at h, rfl, rfl, hB.1⟩
  unfold jv ju
  by_cases hn : n ≤ 1
  · rw [if_pos hn, if_pos hn]
    exact ⟨H, R_pickr_none h20 hn, ⟨v, h⟩, Upd.refl _ _⟩
  · rw [if_neg hn, if_neg hn]
    obtain ⟨q, uu⟩ := star_put (cs' := [v, .int .i64 ((u : Int) + 1)]) RowA.good h
    by_cases hx0 : xs = []
    · rw [if_pos hx0]
      subst hx0
      exact ⟨_, R_pickr0 h20 ht (by omega) (by omega) (by omega), ⟨v, by simpa using q⟩, uu⟩
    · rw [if_neg hx0]
      have hl0 : 0 < xs.length := by
        rcases Nat.eq_zero_or_pos xs.length with e | e
        · exact absurd (List.eq_nil_of_length_eq_zero e) hx0
        · exact e
      have hkn : u % xs.length < xs.length := Nat.mod_lt _ hl0
      obtain ⟨x, hkx⟩ : ∃ x, xs[u % xs.length]? = some x := ⟨_, List.getElem?_eq_getElem hkn⟩
      have hh := R_pickr1 h20 ht (by omega) (by omega) hx hb (u % xs.length) (by rw [Int.tmod_eq_emod_of_nonneg (by omega)]; rfl) x hkx (lo := 1) (hi := n) (by omega)
      refine ⟨_, ?_, ⟨v, by simpa using q⟩, uu⟩
      rw [List.getD_eq_getElem?_getD, hkx]
      exact hh
end
end Go.Mod

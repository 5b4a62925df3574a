/- TapeBetween: the model's side. -/
import Derived.Test.YtfeaopbeiahbnaaTapeL
set_option linter.unusedVariables false
set_option linter.unusedSimpArgs false
namespace Go.Mod
open Go.Proofs

/-- Which byte is next behind i bytes. -/
def posN (n i : Nat) : Int := if i = 0 then 0 else ((i - 1) % n : Nat) + 1
theorem posN_step {n : Nat} (hn : 0 < n) (i : Nat) : ((i % n : Nat) : Int) = if posN n i = n then 0 else posN n i := by
  unfold posN
  cases i with
  | zero => simp
  | succ j =>
    have h1 : (j + 1) % n = (j % n + 1) % n := (Nat.mod_add_mod j n 1).symm
    have h2 := Nat.mod_lt j hn
    simp only [Nat.succ_ne_zero, if_false, Nat.add_sub_cancel]
    by_cases h : j % n + 1 = n
    · have : (j % n + 1) % n = 0 := by rw [h, Nat.mod_self]
      rw [h1, this, if_pos (by omega)]; rfl
    · rw [h1, Nat.mod_eq_of_lt (by omega), if_neg (by omega)]; simp
theorem posN_next {n : Nat} (i : Nat) : posN n (i + 1) = (i % n : Nat) + 1 := by simp [posN]
theorem posN_le {n : Nat} (hn : 0 < n) (i : Nat) : 0 ≤ posN n i ∧ posN n i ≤ n := by
  unfold posN
  split
  · omega
  · have := Nat.mod_lt (i - 1) hn; omega

/-- A byte of a slice. -/
theorem Row.byte {H : MH} {b o n : Nat} {xs : List Int} {j : Info} {cs : List Value} (h3 : H[b]? = some (.cells j cs)) (h6 : (cs.drop o).take (n * 1) = u8s xs) {k : Nat} {x : Int} (hk : xs[k]? = some x) : cs[o + k]? = some (.int .u8 x) := by
  have hkl : k < xs.length := (List.getElem?_eq_some_iff.1 hk).1
  have hn : (u8s xs)[k]? = some (.int .u8 x) := by simp [u8s, hk]
  rw [← h6, List.getElem?_take] at hn
  split at hn
  · rw [List.getElem?_drop] at hn; exact hn
  · cases hn

theorem between_loop {xs : List Int} {l w : Int} {b o c t : Nat} {j : Info} {cs : List Value} {v' : Value} (hx0 : 0 < xs.length) (hx : xs.length ≤ 50) (hb : ∀ x ∈ xs, 0 ≤ x ∧ x < 256) (hl : -32768 ≤ l ∧ l < 32768) (hw : 1 ≤ w ∧ w ≤ 40)
    (h6 : (cs.drop o).take (xs.length * 1) = u8s xs) (hje : j.es = 1) : ∀ (k i : Nat) (H : MH), i + k = 2 * xs.length → TapeAt H t ⟨0, true, false⟩ v' xs (posN xs.length i) i → H[b]? = some (.cells j cs) →
    ∃ H', Rc mpk (.loop m4_0) [(0, .slice (some ⟨b, o, none⟩) xs.length c), (7, .int .i64 l), (8, .int .i64 w), (9, .pointer (some ⟨t, 0, none⟩)), (10, .int .i64 i)] H =
      some (.exit 0, [(0, .slice (some ⟨b, o, none⟩) xs.length c), (7, .int .i64 l), (8, .int .i64 w), (9, .pointer (some ⟨t, 0, none⟩)), (10, .int .i64 ((2 * xs.length : Nat) : Int)), (34, .bool false)], H') ∧ TapeAt H' t ⟨0, true, false⟩ v' xs (posN xs.length (2 * xs.length)) (2 * xs.length : Nat)
  | 0, i, H, hik, ht, hB => by
    have hi : i = 2 * xs.length := by omega
    subst hi
    refine ⟨H, ?_, ht⟩
    have w0 : IntKind.i64.wrap (2 * (xs.length : Int)) = 2 * (xs.length : Int) := wrap_i64 (by omega) (by omega)
    rw [Rc_loop]
    simp [m4_0, w0]
  | k + 1, i, H, hik, ht, hB => by
    have hkn0 : i % xs.length < xs.length := Nat.mod_lt _ hx0
    have hst := posN_step hx0 i
    have hnx := posN_next (n := xs.length) i
    have hi1 : (i : Int).tmod (xs.length : Int) = ((i % xs.length : Nat) : Int) := by rw [Int.tmod_eq_emod_of_nonneg (by omega)]; rfl
    generalize i % xs.length = k0 at hkn0 hst hnx hi1
    have hkn := hkn0
    obtain ⟨x, hkx⟩ : ∃ x, xs[k0]? = some x := ⟨_, List.getElem?_eq_getElem hkn⟩
    have hxb := hb x (List.mem_of_getElem? hkx)
    obtain ⟨p0, p1⟩ := posN_le hx0 i
    have pk := R_pick1 (mp := mpk) rfl rfl rfl ht p0 p1 (by omega) (by omega) (by omega) hb k0 hst x hkx (lo := l) (hi := l + w) (by omega)
    have ht1 := ht.put ((k0 : Int) + 1) (i + 1)
    have hbt : b ≠ t := by rintro rfl; rw [ht.obj] at hB; cases hB; cases hje
    have hB1 : ∀ o', (H.set t o')[b]? = some (.cells j cs) := fun o' => by rw [List.getElem?_set_ne (fun e => hbt e.symm)]; exact hB
    obtain ⟨H', h1, h2⟩ := between_loop (b := b) (o := o) (c := c) (t := t) (v' := v') hx0 hx hb hl hw h6 hje k (i + 1) _ (by omega) (by rw [hnx]; exact ht1) (hB1 _)
    refine ⟨H', ?_, h2⟩
    have hd : l + w - l = w := by omega
    have ww : IntKind.i64.wrap w = w := wrap_i64 (by omega) (by omega)
    have hmm : max 1 (min w 65535) = w := by omega
    have ht1' : x.tmod (w + 1) = x % (w + 1) := Int.tmod_eq_emod_of_nonneg (by omega)
    have hm0 := Int.emod_nonneg x (show w + 1 ≠ 0 by omega)
    have hm1 := Int.emod_lt_of_pos x (show 0 < w + 1 by omega)
    have hpn : pickN x l (l + w) = l + x % (w + 1) := by
      unfold pickN
      rw [hd, ww, hmm, ht1', wrap_i64 (by omega) (by omega)]
    rw [hpn] at pk
    have w0 : IntKind.i64.wrap (2 * (xs.length : Int)) = 2 * (xs.length : Int) := wrap_i64 (by omega) (by omega)
    have w1 : IntKind.i64.wrap (l + w) = l + w := wrap_i64 (by omega) (by omega)
    have w2 : IntKind.i64.wrap x = x := wrap_i64 (by omega) (by omega)
    have w3 : IntKind.i64.wrap (w + 1) = w + 1 := wrap_i64 (by omega) (by omega)
    have w4 : IntKind.i64.wrap (l + x % (w + 1)) = l + x % (w + 1) := wrap_i64 (by omega) (by omega)
    have w5 : IntKind.i64.wrap ((i : Int) + 1) = (i : Int) + 1 := wrap_i64 (by omega) (by omega)
    have hlt : (i : Int) < 2 * (xs.length : Int) := by omega
    have hz : ¬ (xs.length : Int) = 0 := by omega
    have hz' : ¬ xs = [] := by rintro rfl; simp at hx0
    have hz2 : ¬ w + 1 = 0 := by omega
    have hi2 : (0 : Int) ≤ (k0 : Int) ∧ (k0 : Int) < (xs.length : Int) := by omega
    have hcs := Row.byte hB h6 hkx
    have hc1 : ¬ l + x % (w + 1) < l := by omega
    have hc2 : ¬ l + w < l + x % (w + 1) := by omega
    rw [Rc_loop]
    simp only [Int.natCast_add, Int.natCast_one] at h1
    simp [m4_0, w0, w1, w2, w3, w4, w5, hlt, pk, hz', hz2, hi1, hi2, ld_at (hB1 _), hcs, ht1', hc1, hc2]
    exact h1

theorem tapeBetween {H : MH} {v : Value} {xs : List Int} {lo wide : Int} (hr : Row 1 H v (u8s xs)) (hb : ∀ x ∈ xs, 0 ≤ x ∧ x < 256) (hlo : -32768 ≤ lo ∧ lo < 32768) (hwi : 0 ≤ wide ∧ wide < 256) :
    ∃ H', R mpk 4 [v, .int .i16 lo, .int .u8 wide] H = some (.bool true, H') := by
  refine isTrue_ex ?_
  have hrow := hr
  obtain ⟨a, n, c, rfl, hl⟩ := hr.slice
  have hn : n = xs.length := by rw [u8s_len] at hl; omega
  subst hn
  by_cases hbig : 50 < xs.length
  · rw [R_code (fn := m4) rfl]
    have : (50 : Int) < (xs.length : Int) := by omega
    simp [m4, known_R, this]
  · have hsm : ¬ (50 : Int) < (xs.length : Int) := by omega
    by_cases h0 : xs.length = 0
    · rw [R_code (fn := m4) rfl]
      have hx : xs = [] := List.eq_nil_of_length_eq_zero h0
      simp [m4, known_R, hx]
    · rcases hr with ⟨h1, h2⟩ | ⟨b, o, n, c', j, cs, hv, hnc, hb3, hes, hlen, htake⟩
      · simp [u8s] at h2; subst h2; simp at h0
      cases hv
      obtain ⟨t, H1, v1, e1, x1, l1, t1⟩ := new_ext hrow (by omega)
      have hx : ¬ xs = [] := by rintro rfl; simp at h0
      have m40 : wide.tmod 40 = wide % 40 := Int.tmod_eq_emod_of_nonneg (by omega)
      have hm0 : 0 ≤ wide % 40 := Int.emod_nonneg _ (by omega)
      have hm1 : wide % 40 < 40 := Int.emod_lt_of_pos _ (by omega)
      obtain ⟨H2, h1, h2⟩ := between_loop (l := lo) (w := wide % 40 + 1) (c := c) (by omega) (by omega) hb hlo (by omega) htake hes (2 * xs.length) 0 H1 (by omega) (by simpa [posN] using t1) (x1.get hb3)
      have u1 := R_used (mp := mpk) rfl h2
      have w1 : IntKind.i64.wrap lo = lo := wrap_i64 (by omega) (by omega)
      have w2 : IntKind.i64.wrap (wide % 40) = wide % 40 := wrap_i64 (by omega) (by omega)
      have w3 : IntKind.i64.wrap (wide % 40 + 1) = wide % 40 + 1 := wrap_i64 (by omega) (by omega)
      have w4 : IntKind.i64.wrap (2 * (xs.length : Int)) = 2 * (xs.length : Int) := wrap_i64 (by omega) (by omega)
      rw [R_code (fn := m4) rfl]
      simp at h1 u1
      simp [m4, known_R, hsm, hx, e1, m40, w1, w2, w3, w4, h1, u1]
end Go.Mod

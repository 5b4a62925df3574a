/- LineOrder: the model's side. -/
import Derived.Test.YtfeaopbeiahbnaaLineL
set_option linter.unusedVariables false
set_option linter.unusedSimpArgs false
namespace Go.Mod
open Go.Proofs

def u8s (xs : List Int) : List Value := xs.map fun n => .int .u8 n
theorem u8s_len (xs : List Int) : (u8s xs).length = xs.length := by simp [u8s]
theorem u8s_get {xs : List Int} {i : Nat} {x : Int} (h : xs[i]? = some x) : (u8s xs)[i]? = some (.int .u8 x) := by simp [u8s, h]

/-- Those that stand between. -/
def mid (xs : List Int) (at_ i : Nat) : List Int := (xs.take i).drop at_
theorem mid_len {xs : List Int} {at_ i : Nat} (h : i ≤ xs.length) : (mid xs at_ i).length = i - at_ := by simp [mid]; omega
theorem mid_put {xs : List Int} {at_ i : Nat} {x : Int} (h : at_ ≤ i) (hx : xs[i]? = some x) : mid xs at_ i ++ [x] = mid xs at_ (i + 1) := by
  unfold mid
  have hi := (List.getElem?_eq_some_iff.1 hx)
  rw [List.take_add_one, hx, List.drop_append_of_le_length (by have := hi.1; simp; omega)]
  rfl
theorem mid_take {xs : List Int} {at_ i : Nat} {x : Int} (h : at_ < i) (hi : i ≤ xs.length) (hx : xs[at_]? = some x) : mid xs at_ i = x :: mid xs (at_ + 1) i := by
  unfold mid
  rw [List.drop_eq_getElem_cons (by simp; omega)]
  congr 1
  rw [List.getElem_take]
  exact (List.getElem?_eq_some_iff.1 hx).2

theorem order2 {t : Nat} {xs : List Int} {b o c : Nat} {j : Info} {cs : List Value} (hx : xs.length ≤ 64) (hb : ∀ x ∈ xs, 0 ≤ x ∧ x < 256) (hje : j.es = 1) (hrw : j.rw = false) (hat : ∀ k x, xs[k]? = some x → cs[o + k]? = some (.int .u8 x)) :
    ∀ (k at_ : Nat) (H : MH) (v : Value) (fp : List Nat), at_ + k = xs.length → H[b]? = some (.cells j cs) → LineAt H t (mid xs at_ xs.length) 64 v fp →
    ∃ H' v' fp', Rc mpk (.loop m7_0) [(0, .slice (some ⟨b, o, none⟩) xs.length c), (5, .pointer (some ⟨t, 0, none⟩)), (6, .int .i64 (at_ : Int))] H = some (.exit 2, [(0, .slice (some ⟨b, o, none⟩) xs.length c), (5, .pointer (some ⟨t, 0, none⟩)), (6, .int .i64 (xs.length : Int)), (60, .bool false)], H') ∧ LineAt H' t [] 64 v' fp'
  | 0, at_, H, v, fp, hk, hB, h => by
    have : at_ = xs.length := by omega
    subst this
    refine ⟨H, v, fp, ?_, ?_⟩
    · rw [Rc_loop]
      simp [m7_0]
    · have : mid xs xs.length xs.length = [] := List.eq_nil_of_length_eq_zero (by rw [mid_len (Nat.le_refl _)]; omega)
      rwa [this] at h
  | k + 1, at_, H, v, fp, hk, hB, h => by
    have hlt : at_ < xs.length := by omega
    obtain ⟨x, hxx⟩ : ∃ x, xs[at_]? = some x := ⟨_, List.getElem?_eq_getElem hlt⟩
    have hxb := hb x (List.mem_of_getElem? hxx)
    rw [mid_take hlt (Nat.le_refl _) hxx] at h
    obtain ⟨v1, H1, h1, l1, f1⟩ := R_ltake (mp := mpk) rfl rfl rfl h
    have hbn : b ≠ t ∧ b ∉ fp := by
      refine ⟨?_, fun hm => ?_⟩
      · rintro rfl; have := h.obj; rw [hB] at this; cases this; cases hje
      · rcases h.own with ⟨_, _, h3⟩ | ⟨b', n, c', cs', g1, g2, g3, g4, g5, g6⟩
        · rw [h3] at hm; cases hm
        · rw [g6] at hm; simp at hm; subst hm
          rw [hB] at g3; cases g3; cases hrw
    have hB1 := f1.get hB (by simp [hbn.1, hbn.2])
    obtain ⟨H', v', fp', h2, l2⟩ := order2 (c := c) hx hb hje hrw hat k (at_ + 1) H1 v1 fp (by omega) hB1 l1
    refine ⟨H', v', fp', ?_, l2⟩
    have w : IntKind.i64.wrap ((at_ : Int) + 1) = (at_ : Int) + 1 := wrap_i64 (by omega) (by omega)
    have w2 : IntKind.i64.wrap x = x := wrap_i64 (by omega) (by omega)
    have hcx := hat at_ x hxx
    rw [Rc_loop]
    simp at h2
    simp [m7_0, hlt, h1, ld_at hB1, hcx, w, w2]
    exact h2

theorem order1 {t : Nat} {xs : List Int} {takes : Int} {b o c : Nat} {j : Info} {cs : List Value} (hx : xs.length ≤ 64) (hb : ∀ x ∈ xs, 0 ≤ x ∧ x < 256) (hje : j.es = 1) (hrw : j.rw = false) (hat : ∀ k x, xs[k]? = some x → cs[o + k]? = some (.int .u8 x)) :
    ∀ (k i at_ : Nat) (H : MH) (v : Value) (fp : List Nat), i + k = xs.length → at_ ≤ i → H[b]? = some (.cells j cs) → LineAt H t (mid xs at_ i) 64 v fp →
    ∃ H' v' fp' at', Rc mpk (.loop m7_1) [(0, .slice (some ⟨b, o, none⟩) xs.length c), (1, .int .u8 takes), (5, .pointer (some ⟨t, 0, none⟩)), (6, .int .i64 (at_ : Int)), (7, .int .i64 (i : Int))] H =
      some (.exit 0, [(0, .slice (some ⟨b, o, none⟩) xs.length c), (1, .int .u8 takes), (5, .pointer (some ⟨t, 0, none⟩)), (6, .int .i64 ((at' : Nat) : Int)), (7, .int .i64 (xs.length : Int)), (21, .bool false)], H') ∧ LineAt H' t (mid xs at' xs.length) 64 v' fp' ∧ at' ≤ xs.length ∧ H'[b]? = some (.cells j cs)
  | 0, i, at_, H, v, fp, hk, hle, hB, h => by
    have : i = xs.length := by omega
    subst this
    refine ⟨H, v, fp, at_, ?_, h, hle, hB⟩
    rw [Rc_loop]
    simp [m7_1]
  | k + 1, i, at_, H, v, fp, hk, hle, hB, h => by
    have hlt : i < xs.length := by omega
    obtain ⟨x, hxx⟩ : ∃ x, xs[i]? = some x := ⟨_, List.getElem?_eq_getElem hlt⟩
    have hxb := hb x (List.mem_of_getElem? hxx)
    have bn : ∀ {H : MH} {ids : List Int} {v : Value} {fp : List Nat}, H[b]? = some (.cells j cs) → LineAt H t ids 64 v fp → b ≠ t ∧ b ∉ fp := by
      intro H ids v fp hB h
      refine ⟨?_, fun hm => ?_⟩
      · rintro rfl; have := h.obj; rw [hB] at this; cases this; cases hje
      · rcases h.own with ⟨_, _, h3⟩ | ⟨b', n, c', cs', g1, g2, g3, g4, g5, g6⟩
        · rw [h3] at hm; cases hm
        · rw [g6] at hm; simp at hm; subst hm
          rw [hB] at g3; cases g3; cases hrw
    obtain ⟨v1, H1, fp1, h1, l1, f1, _⟩ := R_lput (mp := mpk) rfl h (by rw [mid_len (by omega)]; omega) (by omega) x
    rw [mid_put hle hxx] at l1
    have hB1 := f1.get hB (by have := bn hB h; simp [this.1, this.2])
    have w : IntKind.i64.wrap ((i : Int) + 1) = (i : Int) + 1 := wrap_i64 (by omega) (by omega)
    have w2 : IntKind.i64.wrap x = x := wrap_i64 (by omega) (by omega)
    have hcx := hat i x hxx
    have h8 : (i : Int).tmod 8 = ((i % 8 : Nat) : Int) := by rw [Int.tmod_eq_emod_of_nonneg (by omega)]; rfl
    have w8 : IntKind.u64.wrap ((i % 8 : Nat) : Int) = ((i % 8 : Nat) : Int) := by
      unfold IntKind.wrap; simp only [IntKind.signed, IntKind.bits]; simp; omega
    obtain ⟨q, hq⟩ : ∃ q, mbin .shr (.int .u8 takes) (.int .u64 ((i % 8 : Nat) : Int)) = some (.int .u8 q) := by
      rw [ev_i_shr, if_neg (by omega)]; exact ⟨_, rfl⟩
    obtain ⟨z, hz⟩ : ∃ z, mbin .and (.int .u8 q) (.int .u8 1) = some (.int .u8 z) := ⟨_, ev_i_and⟩
    generalize i % 8 = i8 at h8 w8 hq
    by_cases hz1 : z = 1
    · obtain ⟨y, hyy⟩ : ∃ y, xs[at_]? = some y := ⟨_, List.getElem?_eq_getElem (by omega)⟩
      have hyb := hb y (List.mem_of_getElem? hyy)
      rw [mid_take (by omega) (by omega) hyy] at l1
      obtain ⟨v2, H2, h2, l2, f2⟩ := R_ltake (mp := mpk) rfl rfl rfl l1
      have hB2 := f2.get hB1 (by have := bn hB1 l1; simp [this.1, this.2])
      obtain ⟨H', v', fp', at', h3, l3, a3, b3⟩ := order1 (c := c) (takes := takes) hx hb hje hrw hat k (i + 1) (at_ + 1) H2 v2 fp1 (by omega) (by omega) hB2 l2
      refine ⟨H', v', fp', at', ?_, l3, a3, b3⟩
      have w3 : IntKind.i64.wrap ((at_ : Int) + 1) = (at_ : Int) + 1 := wrap_i64 (by omega) (by omega)
      have w4 : IntKind.i64.wrap y = y := wrap_i64 (by omega) (by omega)
      have hal : at_ < xs.length := by omega
      have hcy := hat at_ y hyy
      rw [Rc_loop]
      simp at h3
      simp [m7_1, hlt, ld_at hB, hcx, w2, h1, h8, w8, hq, hz, hz1, h2, hal, ld_at hB2, hcy, w4, w3, w, -ev_i_shr, -ev_i_and]
      exact h3
    · obtain ⟨H', v', fp', at', h3, l3, a3, b3⟩ := order1 (c := c) (takes := takes) hx hb hje hrw hat k (i + 1) at_ H1 v1 fp1 (by omega) (by omega) hB1 l1
      refine ⟨H', v', fp', at', ?_, l3, a3, b3⟩
      rw [Rc_loop]
      simp at h3
      simp [m7_1, hlt, ld_at hB, hcx, w2, h1, h8, w8, hq, hz, hz1, w, -ev_i_shr, -ev_i_and]
      exact h3

theorem lineOrder {H : MH} {v : Value} {xs : List Int} {takes : Int} (hr : Row 1 H v (u8s xs)) (hro : ∀ (id : Nat) o, H[id]? = some o → o.mut = false) (hb : ∀ x ∈ xs, 0 ≤ x ∧ x < 256) : ∃ H', R mpk 7 [v, .int .u8 takes] H = some (.bool true, H') := by
  refine isTrue_ex ?_
  obtain ⟨a, n, c, rfl, hl⟩ := hr.slice
  have hn : n = xs.length := by rw [u8s_len] at hl; omega
  subst hn
  by_cases hbig : 64 < xs.length
  · have hbi : (64 : Int) < (xs.length : Int) := by omega
    rw [R_code (fn := m7) rfl]
    simp [m7, known_R, hbi]
  · have hbi : ¬ (64 : Int) < (xs.length : Int) := by omega
    obtain ⟨H1, e1, x1, l1⟩ := R_lnew (mp := mpk) rfl (H := H) (room := 64)
    have e64 : min (max (64 : Int) 0) 64 = 64 := by omega
    rw [e64] at l1
    by_cases h0 : xs.length = 0
    · have hx : xs = [] := List.eq_nil_of_length_eq_zero h0
      have hlen := R_llen (mp := mpk) rfl l1
      rw [R_code (fn := m7) rfl]
      simp at hlen
      simp [m7, known_R, hx, e1, Rc_loop, m7_0, m7_1, hlen]
    · rcases hr with ⟨h1, h2⟩ | ⟨b, o, n, c', j, cs, hv, hnc, hB, hes, hlc, htk⟩
      · simp [u8s] at h2; subst h2; simp at h0
      cases hv
      have hrw : j.rw = false := hro b _ hB
      have hat : ∀ k x, xs[k]? = some x → cs[o + k]? = some (.int .u8 x) := by
        intro k x hx
        have hk := (List.getElem?_eq_some_iff.1 hx).1
        have := u8s_get hx
        rw [← htk, List.getElem?_take, if_pos (by omega), List.getElem?_drop] at this
        exact this
      have l1' : LineAt H1 H.length (mid xs 0 0) 64 (.slice none 0 0) [] := by simpa [mid] using l1
      obtain ⟨H2, v2, fp2, at', h2, l2, a2, b2⟩ := order1 (c := c) (takes := takes) (by omega) hb hes hrw hat xs.length 0 0 H1 _ _ (by omega) (Nat.le_refl _) (x1.get hB) l1'
      obtain ⟨H3, v3, fp3, h3, l3⟩ := order2 (c := c) (by omega) hb hes hrw hat (xs.length - at') at' H2 v2 fp2 (by omega) b2 l2
      have hT : Rc mpk (.loop m7_0) [(0, .slice (some ⟨b, o, none⟩) xs.length c), (1, .int .u8 takes), (5, .pointer (some ⟨H.length, 0, none⟩)), (6, .int .i64 ((at' : Nat) : Int)), (7, .int .i64 (xs.length : Int)), (21, .bool false)] H2 = Rc mpk (.loop m7_0) [(0, .slice (some ⟨b, o, none⟩) xs.length c), (5, .pointer (some ⟨H.length, 0, none⟩)), (6, .int .i64 ((at' : Nat) : Int))] H2 := by
        rw [Rc_loop, Rc_loop (T := [(0, .slice (some ⟨b, o, none⟩) xs.length c), (5, .pointer (some ⟨H.length, 0, none⟩)), (6, .int .i64 ((at' : Nat) : Int))])]
        by_cases hq : at' < xs.length
        · simp [m7_0, hq]
        · simp [m7_0, hq]
      rw [← hT] at h3
      have hlen := R_llen (mp := mpk) rfl l3
      rw [R_code (fn := m7) rfl]
      simp at h2 h3 hlen
      simp [m7, known_R, hbi, e1, h2, h3, hlen]
end Go.Mod
